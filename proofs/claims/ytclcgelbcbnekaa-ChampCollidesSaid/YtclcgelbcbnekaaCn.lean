/- Contracts: champ's some, Get, Len. -/
import Derived.Test.YtclcgelbcbnekaaCk
import Derived.Deep.LoopGhost
set_option linter.unusedVariables false
set_option linter.unusedSimpArgs false
namespace Go.Proofs.Ytclcgelbcbnekaa
open Go.RowKit Go.QS Go.QS.Nk
set_option linter.unusedVariables false
variable [Zero (Nat → Prop)]
set_option linter.unusedSectionVars false

theorem empty_c (h : Hs) (w : World) (hnw : ∀ k, w.heap.size ≤ k → S9 k) : Calls Try.prog 45 #[] w fun e w' => ∃ g, e = .returned (ptr g) ∧ TR ND h.hash w' 13 g [] ∧ Ext w w' := by
  go_enter Try.func45, Try.ntmps45
  repeat' (first | go_at_call 15 | go_skip | go_guarded | go_step)
  refine (inner0_c w hnw).mono ?_
  rintro e w1 ⟨g, rfl, N1, f1, s1⟩
  have H1 := Lib.hid (And.intro N1 f1)
  clear N1 f1
  go_simp
  repeat' (first | go_skip | go_guarded | go_step)
  go_ret
  exact ⟨g, rfl, TR.none H1.out.1, H1.out.2⟩
/-- A root, or none (which counts as one of no pairs). -/
def Rot (h : Hs) (w : World) (v : Value) (l : List Pr) : Prop := ∀ W, Ext w W → Calls Try.prog 97 #[v] W fun e w' => ∃ g, e = .returned (ptr g) ∧ Ext W w' ∧ TR ND h.hash w' 13 g l ∧ ∀ g0, v = ptr g0 → g = g0
theorem Rot.of {h : Hs} {w : World} {g : Nat} {l : List Pr} (hT : TR ND h.hash w 13 g l) : Rot h w (ptr g) l := fun W hW => by
  have HT := Lib.hid hT
  have HW := Lib.hid hW
  clear hT hW
  go_enter Try.func97, Try.ntmps97
  repeat' (first | go_skip | go_guarded | go_step)
  go_ret
  exact ⟨g, rfl, Ext.refl _, TR.ext HW.out 13 HT.out, fun g0 e => by cases e; rfl⟩
theorem Rot.nil (h : Hs) (w : World) (hnw : ∀ k, w.heap.size ≤ k → S9 k) : Rot h w nil0 [] := fun W hW => by
  have hnW : ∀ k, W.heap.size ≤ k → S9 k := fun k hk => hnw k (Nat.le_trans hW.size hk)
  clear hW
  go_enter Try.func97, Try.ntmps97
  repeat' (first | go_at_call 45 | go_skip | go_guarded | go_step)
  refine (empty_c h W hnW).mono ?_
  rintro e w1 ⟨g, rfl, R1, f1⟩
  have H1 := Lib.hid (And.intro R1 f1)
  clear R1 f1
  go_simp
  repeat' (first | go_skip | go_guarded | go_step)
  go_ret
  exact ⟨g, rfl, H1.out.2, H1.out.1, fun g0 e => by cases e⟩

/-- At a key's chunk. -/
theorem tr_at {h : Hs} {w : World} {f g : Nat} {l : List Pr} {sl : List (Slot Nat)} (hN : In ND w g sl) (hT : ∀ c s, sl[c]? = some s → SlotOk (TR ND h.hash w f) s (Go.QS.part h.hash (12 - f) c l)) (k : List UInt8) : ∃ s, sl[chk (h.hash k) (12 - f)]? = some s ∧ SlotOk (TR ND h.hash w f) s (Go.QS.part h.hash (12 - f) (chk (h.hash k) (12 - f)) l) ∧ getL k (Go.QS.part h.hash (12 - f) (chk (h.hash k) (12 - f)) l) = getL k l ∧ hasK (Go.QS.part h.hash (12 - f) (chk (h.hash k) (12 - f)) l) k = hasK l k := by
  obtain ⟨s, hs, ok⟩ := TR.get hN hT (chk_lt (h.hash k) (12 - f))
  exact ⟨s, hs, ok, part_get, part_has⟩

set_option maxRecDepth 100000 in
set_option maxHeartbeats 1000000 in
theorem get_c (h : Hs) (hk : h.Ok) (w : World) (v : Value) (l : List Pr) (key : List UInt8) (hR : Rot h w v l) (hr : Rise l) (h9 : l.length ≤ 400000000) (hkl : key.length ≤ 1000000) :
    Calls Try.prog 93 #[hsV h, v, str key] w fun e w' => e = .returned (.tuple #[str ((getL key l).getD []), .bool (hasK l key)]) ∧ Ext w w' := by
  obtain ⟨u, hu⟩ : ∃ u, u = getL key l := ⟨_, rfl⟩
  obtain ⟨th, hth⟩ : ∃ th, th = hasK l key := ⟨_, rfl⟩
  rw [← hu, ← hth]
  obtain ⟨x, hx⟩ : ∃ x, x = h.hash key := ⟨_, rfl⟩
  have hx64 : x < 18446744073709551616 := by rw [hx]; exact Hs.hash_lt hk key
  have HH0 := fun W => hash_c W h key hk (by omega)
  rw [← hx] at HH0
  have HH := Lib.hid HH0
  have HU := Lib.hid (And.intro hu (And.intro hth hx))
  have HR := Lib.hid (And.intro hR hr)
  clear hu hth hR hr hx HH0
  obtain ⟨a, ha⟩ : ∃ a, a = w.heap.size := ⟨_, rfl⟩
  have hb : (w.alloc (.cells #[.int .u64 h.k0, .int .u64 h.k1, .int .u64 h.mask] 92)).heap[a]? = some (.cells #[.int .u64 h.k0, .int .u64 h.k1, .int .u64 h.mask] 92 (0, 0)) := by rw [ha]; exact heap_new w _
  have HB := Lib.hid hb
  clear hb
  go_enter Try.func93, Try.ntmps93
  repeat' (first | go_at_call 95 | go_skip | go_guarded | go_step)
  refine (HH.out _).mono ?_
  rintro e w1 ⟨rfl, f1⟩
  have H1 : Hid (Ext w w1) := Lib.hid (Ext.trans ((Ext.refl w).alloc (Nat.le_refl _) _) f1)
  clear f1 HB ha
  go_simp
  repeat' (first | go_at_call 97 | go_skip | go_guarded | go_step)
  refine (HR.out.1 w1 H1.out).mono ?_
  rintro e w2 ⟨g, rfl, f2, R2, _⟩
  have H2 : Hid (Ext w w2 ∧ TR ND h.hash w2 13 g l) := Lib.hid ⟨H1.out.trans f2, R2⟩
  clear f2 R2
  go_simp
  repeat' (first | go_skip | go_guarded | go_step)
  go_loopg [9, 10] 14 (fun gk v9 v10 wr => ∃ (f g' : Nat), v9 = ptr g' ∧ v10 = .int .i64 ((13 - f : Nat) : Int) ∧ f ≤ 13 ∧ f < gk ∧ Hid (Ext w wr ∧ ∃ l', TR ND h.hash wr f g' l' ∧ Rise l' ∧ l'.length ≤ 400000000 ∧ getL key l' = u ∧ hasK l' key = th))
  case atStart => exact ⟨13, g, rfl, rfl, Nat.le_refl _, by omega, Lib.hid ⟨H2.out.1, l, H2.out.2, HR.out.2, h9, HU.out.1.symm, HU.out.2.1.symm⟩⟩
  case round =>
    obtain ⟨f, g', rfl, rfl, hf13, hfk, HI⟩ := hrel
    obtain ⟨hE, l', hT, hr', h9', hg', hh'⟩ := HI.out
    cases f with
    | zero => as_aux_lemma =>
      have hbk : Bk ND wr g' l' := hT
      have HIN0 := fun W (hW : Ext wr W) => in_c W g' l' key (hbk.ext hW) hr' h9'
      rw [hg', hh'] at HIN0
      have HIN := Lib.hid HIN0
      have HIB := Lib.hid (isb_c wr g' true (isb_cell hbk))
      have HE := Lib.hid hE
      clear HIN0 hbk hT hr' h9' hg' hh' hE HI
      repeat' (first | go_at_call 58 | go_skip | go_guarded | go_step)
      refine HIB.out.mono ?_
      rintro e w3 ⟨rfl, f3⟩
      have H3 := Lib.hid f3
      clear f3
      go_simp
      repeat' (first | go_at_call 140 | go_skip | go_guarded | go_step)
      refine (HIN.out w3 H3.out).mono ?_
      rintro e w4 ⟨rfl, f4⟩
      have H4 := Lib.hid (HE.out.trans (H3.out.trans f4))
      clear f4
      go_simp
      repeat' (first | go_skip | go_guarded | go_step)
      go_ret2
      exact ⟨rfl, H4.out⟩
    | succ f =>
      obtain ⟨sl, hN, hs⟩ := hT
      obtain ⟨lv, hlv⟩ : ∃ lv, lv = 12 - f := ⟨_, rfl⟩
      have hl13 : 13 - (f + 1) = lv := by omega
      rw [hl13]
      obtain ⟨s, hsl, ok, hgp, hhp⟩ := tr_at hN hs key
      have HAt0 := fun W => at_c W (h.hash key) (12 - f) (Hs.hash_lt hk key) (by omega)
      rw [← HU.out.2.2] at HAt0 hsl ok hgp hhp
      obtain ⟨i, hi⟩ : ∃ i, i = chk x (12 - f) := ⟨_, rfl⟩
      rw [← hi] at HAt0 hsl ok hgp hhp
      rw [← hlv] at HAt0
      have hpr : Rise (Go.QS.part h.hash (12 - f) i l') := part_rise hr'
      have hp9 : (Go.QS.part h.hash (12 - f) i l').length ≤ 400000000 := Nat.le_trans part_length h9'
      obtain ⟨X, hX⟩ : ∃ X, X = Go.QS.part h.hash (12 - f) i l' := ⟨_, rfl⟩
      rw [← hX] at ok hgp hhp hpr hp9
      rw [hg'] at hgp
      rw [hh'] at hhp
      have HAt := Lib.hid HAt0
      have HN := Lib.hid hN
      have HIB := Lib.hid (isb_c wr g' false (isn_cell hN))
      have HE := Lib.hid hE
      have HS := Lib.hid (And.intro hsl (And.intro hpr (And.intro hp9 (And.intro hgp hhp))))
      have HL := Lib.hid (And.intro hlv (And.intro hi hf13))
      have hlv12 : lv ≤ 12 := by omega
      have hlf : 13 - f = lv + 1 := by omega
      have HLF := Lib.hid hlf
      clear HAt0 hN hs hr' h9' hg' hh' hE HI hsl hpr hp9 hlv hl13 hi hX hf13 hlf
      repeat' (first | go_at_call 58 | go_skip | go_guarded | go_step)
      refine HIB.out.mono ?_
      rintro e w3 ⟨rfl, f3⟩
      have H3 := Lib.hid f3
      clear f3 HIB
      go_simp
      repeat' (first | go_at_call 141 | go_skip | go_guarded | go_step)
      refine (HAt.out w3).mono ?_
      rintro e w3' ⟨rfl, rfl⟩
      go_simp
      repeat' (first | go_at_call 21 | go_skip | go_guarded | go_step)
      cases s with
      | pr q => as_aux_lemma =>
        have hX1 : X = [q] := ok
        refine (pair_yes w3 g' i sl q (HN.out.ext H3.out) HS.out.1).mono ?_
        rintro e w4 ⟨rfl, f4⟩
        obtain ⟨c, hc⟩ : ∃ c, c = w4.heap.size := ⟨_, rfl⟩
        have H4 : Hid (PrAt (w4.alloc (.cells #[str q.1, str q.2] NP)) c q ∧ Ext w (w4.alloc (.cells #[str q.1, str q.2] NP))) := Lib.hid ⟨by rw [hc]; exact PrAt.new w4 q, HE.out.trans (H3.out.trans (f4.trans ((Ext.refl _).alloc (Nat.le_refl _) _)))⟩
        clear f4
        go_simp
        repeat' (go_not_at_region 9; (first | go_skip | go_guarded | go_step))
        rw [← hc]
        clear hc
        refine wp_named (fun w' => PrAt w' c q ∧ Ext w w') H4.out ?_
        intro wb H5
        clear H4
        obtain ⟨q0, q1⟩ := H5.out.1.cells
        rw [hX1] at hgp hhp
        by_cases e : q.1 = key
        · have hd : decide (bs q.1 = bs key) = true := by rw [e]; simp
          have hd2 : (q.1 == key) = true := by rw [e]; simp
          have hu2 : u = some q.2 := by rw [← hgp]; simp [getL, e]
          have ht2 : th = true := by rw [← hhp]; simp [hasK, e]
          subst hu2 ht2
          clear hgp hhp ok hX1
          repeat' (first | go_skip | go_guarded | go_step)
          go_ret2
          exact ⟨rfl, H5.out.2⟩
        · have hd : decide (bs q.1 = bs key) = false := by rw [decide_eq_false_iff_not]; exact fun h => e (bs_inj h)
          have hd2 : (q.1 == key) = false := by rw [beq_eq_false_iff_ne]; exact e
          have hu2 : u = none := by rw [← hgp]; simp [getL, e]
          have ht2 : th = false := by rw [← hhp]; simp [hasK, e]
          subst hu2 ht2
          clear hgp hhp ok hX1
          repeat' (first | go_skip | go_guarded | go_step)
          go_ret2
          exact ⟨rfl, H5.out.2⟩
      | no => as_aux_lemma =>
        have hX1 : X = [] := ok
        have HPA : Calls Try.prog 21 #[ptr g', .int .i64 i] w3 fun e w' => e = .returned (.tuple #[.agg #[str [], str []], .bool false]) ∧ Ext w3 w' := pair_any w3 g' i sl _ (HN.out.ext H3.out) HS.out.1
        refine HPA.mono ?_
        rintro e w4 ⟨rfl, f4⟩
        have H4 : Hid (Ext wr (w4.alloc (.cells #[str [], str []] NP))) := Lib.hid (H3.out.trans (f4.trans ((Ext.refl _).alloc (Nat.le_refl _) _)))
        rw [hX1] at hgp hhp
        have hu2 : u = none := by rw [← hgp]; rfl
        have ht2 : th = false := by rw [← hhp]; rfl
        subst hu2 ht2
        clear f4 HPA hgp hhp ok hX1
        go_simp
        repeat' (first | go_at_call 61 | go_skip | go_guarded | go_step)
        refine (kid_no _ g' i sl _ (HN.out.ext H4.out) HS.out.1 rfl).mono ?_
        rintro e w5 ⟨rfl, f5⟩
        have H5 := Lib.hid (HE.out.trans (H4.out.trans f5))
        clear f5
        go_simp
        repeat' (first | go_skip | go_guarded | go_step)
        go_ret2
        exact ⟨rfl, H5.out⟩
      | kid kd => as_aux_lemma =>
        have HOK := Lib.hid ok
        have HPA : Calls Try.prog 21 #[ptr g', .int .i64 i] w3 fun e w' => e = .returned (.tuple #[.agg #[str [], str []], .bool false]) ∧ Ext w3 w' := pair_any w3 g' i sl _ (HN.out.ext H3.out) HS.out.1
        refine HPA.mono ?_
        rintro e w4 ⟨rfl, f4⟩
        have H4 : Hid (Ext wr (w4.alloc (.cells #[str [], str []] NP))) := Lib.hid (H3.out.trans (f4.trans ((Ext.refl _).alloc (Nat.le_refl _) _)))
        clear f4 HPA hgp hhp ok
        go_simp
        repeat' (first | go_at_call 61 | go_skip | go_guarded | go_step)
        refine (kid_yes _ g' i sl kd (HN.out.ext H4.out) HS.out.1).mono ?_
        rintro e w5 ⟨rfl, f5⟩
        have H5 := Lib.hid (And.intro (HE.out.trans (H4.out.trans f5)) (H4.out.trans f5))
        clear f5
        go_simp
        repeat' (first | go_skip | go_guarded | go_step)
        go_roundg (f + 1)
        case measure => omega
        case rel => exact ⟨f, kd, rfl, by rw [HLF.out]; go_num, by have := HL.out; omega, by omega, Lib.hid ⟨H5.out.1, X, TR.ext H5.out.2 f HOK.out.2, HS.out.2.1, HS.out.2.2.1, HS.out.2.2.2.1, HS.out.2.2.2.2⟩⟩
end Go.Proofs.Ytclcgelbcbnekaa
