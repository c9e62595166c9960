/- Contracts: champ's put at an inner node that has no pair there. -/
import Derived.Test.YtclcgelbcbnekaaDoorCi
set_option linter.unusedVariables false
set_option linter.unusedSimpArgs false
namespace Go.Proofs.YtclcgelbcbnekaaDoor
open Go.RowKit Go.QS Go.QS.Nk
set_option linter.unusedVariables false
variable [Zero (Nat → Prop)]
set_option linter.unusedSectionVars false

theorem not_has {H : List UInt8 → Nat} {lv i : Nat} {l : List Pr} {p : Pr} (hi : i = chk (H p.1) lv) (h : Go.QS.part H lv i l = []) : hasK l p.1 = false ∧ p ∉ l := by
  have h1 : hasK l p.1 = false := by rw [← part_has (H := H) (lv := lv), ← hi, h]; rfl
  refine ⟨h1, fun e => ?_⟩
  rw [hasK_iff.2 ⟨p, e, rfl⟩] at h1
  cases h1

set_option maxRecDepth 100000 in
set_option maxHeartbeats 1000000 in
theorem put_no (h : Hs) (hk : h.Ok) (f : Nat) (w : World) (g : Nat) (l : List Pr) (p : Pr) (lv : Nat) (sl : List (Slot Nat)) (hlf : lv + (f + 1) = 13) (hN : In ND w g sl) (hT : ∀ c s, sl[c]? = some s → SlotOk (TR ND h.hash w f) s (Go.QS.part h.hash (12 - f) c l)) (hr : Rise l) (hpl : p.1.length ≤ 1000000) (i : Nat) (hi : i = chk (h.hash p.1) lv) (hs : sl[i]? = some .no) : PutOk h (f + 1) w g l p lv := by
  unfold PutOk
  have hl12 : 12 - f = lv := by omega
  have hi32 : i < 32 := by rw [hi]; exact chk_lt _ _
  obtain ⟨l1, hl1⟩ : ∃ l1, l1 = lv + 1 := ⟨_, rfl⟩
  have e1 : (lv : Int) + 1 = (l1 : Int) := by omega
  have e2 : IntKind.i64.wrap (l1 : Int) = (l1 : Int) := IntWalk.i64_in _ (by omega)
  have HL1 := Lib.hid hl1
  have HAt0 := fun W => at_c W (h.hash p.1) lv (Hs.hash_lt hk p.1) (by omega)
  rw [← hi] at HAt0
  have HIL := Lib.hid (And.intro hi (And.intro hl12 hlf))
  have HN := Lib.hid hN
  have HT := Lib.hid hT
  have HR := Lib.hid hr
  have HS := Lib.hid hs
  have hQ : Go.QS.part h.hash (12 - f) i l = [] := hT i _ hs
  have hNH := not_has (H := h.hash) (hl12 ▸ hi : i = chk (h.hash p.1) (12 - f)) hQ
  rw [hNH.1]
  have HQ := Lib.hid (And.intro hQ hNH.2)
  clear hi hl12 hlf hN hT hr hl1 hs hQ hNH
  obtain ⟨x, hx⟩ : ∃ x, x = h.hash p.1 := ⟨_, rfl⟩
  rw [← hx] at HAt0 ⊢
  have hx64 : x < 18446744073709551616 := by rw [hx]; exact Hs.hash_lt hk p.1
  have HX := Lib.hid hx
  clear hx
  have HAt := Lib.hid HAt0
  clear HAt0
  obtain ⟨a, ha⟩ : ∃ a, a = w.heap.size := ⟨_, rfl⟩
  obtain ⟨b, hb⟩ : ∃ b, b = a + 1 := ⟨_, rfl⟩
  have HAB := Lib.hid (boxes2 w h p p.1 x ha hb)
  go_enter Tryd.func48, Tryd.ntmps48
  repeat' (first | go_at_call 52 | go_skip | go_guarded | go_step)
  rw [← ha, ← hb]
  clear ha hb
  refine calls_named (fun w' => (WkAt w' a h p.1 x ∧ PrAt w' b p) ∧ Ext w w') HAB.out ?_
  intro wa HW
  clear HAB
  refine (isb_c wa g false (isn_cell (HN.out.ext HW.out.2))).mono ?_
  rintro e w1 ⟨rfl, f1⟩
  have H1 : Hid ((WkAt w1 a h p.1 x ∧ PrAt w1 b p) ∧ Ext w w1) := Lib.hid ⟨⟨HW.out.1.1.ext f1, HW.out.1.2.ext f1⟩, HW.out.2.trans f1⟩
  clear f1 HW
  obtain ⟨h0, h1, h2, h3, h4, h5⟩ := H1.out.1.1.cells
  obtain ⟨p0, p1⟩ := H1.out.1.2.cells
  go_simp
  repeat' (first | go_at_call 85 | go_skip | go_guarded | go_step)
  refine (HAt.out _).mono ?_
  rintro e w1' ⟨rfl, rfl⟩
  clear HAt
  go_simp
  repeat' (first | go_at_call 67 | go_skip | go_guarded | go_step)
  have HPA : Calls Tryd.prog 67 #[ptr g, .int .i64 i] w1 fun e w' => e = .returned (.tuple #[.agg #[str [], str []], .bool false]) ∧ Ext w1 w' := pair_any w1 g i sl _ (HN.out.ext H1.out.2) HS.out
  refine HPA.mono ?_
  rintro e w2 ⟨rfl, f2⟩
  have H2 : Hid ((WkAt (w2.alloc (.cells #[str [], str []] NP)) a h p.1 x ∧ PrAt (w2.alloc (.cells #[str [], str []] NP)) b p) ∧ Ext w (w2.alloc (.cells #[str [], str []] NP))) := Lib.hid (by
    have fa : Ext w1 (w2.alloc (.cells #[str [], str []] NP)) := f2.trans ((Ext.refl _).alloc (Nat.le_refl _) _)
    exact ⟨⟨H1.out.1.1.ext fa, H1.out.1.2.ext fa⟩, H1.out.2.trans fa⟩)
  clear f2 H1 h0 h1 h2 h3 h4 h5 p0 p1 HPA
  go_simp
  repeat' (first | go_at_call 68 | go_skip | go_guarded | go_step)
  refine calls_named (fun w' => (WkAt w' a h p.1 x ∧ PrAt w' b p) ∧ Ext w w') H2.out ?_
  intro wb H3
  clear H2
  obtain ⟨h0, h1, h2, h3, h4, h5⟩ := H3.out.1.1.cells
  obtain ⟨p0, p1⟩ := H3.out.1.2.cells
  refine (kid_no wb g i sl _ (HN.out.ext H3.out.2) HS.out rfl).mono ?_
  rintro e w4 ⟨rfl, f4⟩
  have H4 : Hid ((WkAt w4 a h p.1 x ∧ PrAt w4 b p) ∧ Ext w w4) := Lib.hid ⟨⟨H3.out.1.1.ext f4, H3.out.1.2.ext f4⟩, H3.out.2.trans f4⟩
  clear f4 H3 h0 h1 h2 h3 h4 h5 p0 p1
  obtain ⟨h0, h1, h2, h3, h4, h5⟩ := H4.out.1.1.cells
  obtain ⟨p0, p1⟩ := H4.out.1.2.cells
  go_simp
  repeat' (first | go_at_call 17 | go_skip | go_guarded | go_step)
  refine (setPair_c w4 g i sl p (HN.out.ext H4.out.2) hi32).mono ?_
  rintro e w5 ⟨g5, rfl, N5, f5, s5⟩
  have H5 := Lib.hid (And.intro N5 f5)
  clear N5 f5
  go_simp
  repeat' (first | go_skip | go_guarded | go_step)
  go_ret3
  have hE := H4.out.2.trans H5.out.2
  refine ⟨g5, true, rfl, ?_, hE, fun e => absurd e HQ.out.2, ⟨fun e => (by cases e), fun e => absurd e HQ.out.2⟩⟩
  refine TR.put HR.out (by rw [HIL.out.2.1]; exact HIL.out.1.symm) HT.out hE H5.out.1 ?_
  show rput (Go.QS.part h.hash (12 - f) i l) p = [p]
  rw [HQ.out.1]
  rfl

set_option maxRecDepth 100000 in
set_option maxHeartbeats 1000000 in
theorem put_kid (h : Hs) (hk : h.Ok) (f : Nat) (w : World) (g : Nat) (l : List Pr) (p : Pr) (lv : Nat) (sl : List (Slot Nat)) (hlf : lv + (f + 1) = 13) (hN : In ND w g sl) (hT : ∀ c s, sl[c]? = some s → SlotOk (TR ND h.hash w f) s (Go.QS.part h.hash (12 - f) c l)) (hr : Rise l) (hpl : p.1.length ≤ 1000000) (i : Nat) (hi : i = chk (h.hash p.1) lv) (k : Nat) (hs : sl[i]? = some (.kid k)) (ih : ∀ W, Ext w W → PutOk h f W k (Go.QS.part h.hash (12 - f) i l) p (lv + 1)) : PutOk h (f + 1) w g l p lv := by
  unfold PutOk
  have hl12 : 12 - f = lv := by omega
  have hi32 : i < 32 := by rw [hi]; exact chk_lt _ _
  obtain ⟨l1, hl1⟩ : ∃ l1, l1 = lv + 1 := ⟨_, rfl⟩
  have e1 : (lv : Int) + 1 = (l1 : Int) := by omega
  have e2 : IntKind.i64.wrap (l1 : Int) = (l1 : Int) := IntWalk.i64_in _ (by omega)
  have HL1 := Lib.hid hl1
  have HAt0 := fun W => at_c W (h.hash p.1) lv (Hs.hash_lt hk p.1) (by omega)
  rw [← hi] at HAt0
  have HIL := Lib.hid (And.intro hi (And.intro hl12 hlf))
  have HN := Lib.hid hN
  have HT := Lib.hid hT
  have HR := Lib.hid hr
  have HS := Lib.hid hs
  have hQ : 2 ≤ (Go.QS.part h.hash (12 - f) i l).length := (hT i _ hs).1
  have hi2 : chk (h.hash p.1) (12 - f) = i := by rw [hl12]; exact hi.symm
  have hh : hasK (Go.QS.part h.hash (12 - f) i l) p.1 = hasK l p.1 := by rw [← hi2]; exact part_has
  have hm : p ∈ Go.QS.part h.hash (12 - f) i l ↔ p ∈ l := by rw [← hi2]; exact part_mem
  have HQ := Lib.hid (And.intro hQ hm)
  unfold PutOk at ih
  rw [← hl1] at ih
  rw [hh] at ih
  obtain ⟨th, hth⟩ : ∃ th, th = hasK l p.1 := ⟨_, rfl⟩
  rw [← hth] at ih ⊢
  have HTH := Lib.hid hth
  clear hi hl12 hlf hN hT hr hl1 hs hQ hm hi2 hh hth
  obtain ⟨x, hx⟩ : ∃ x, x = h.hash p.1 := ⟨_, rfl⟩
  rw [← hx] at HAt0 ih ⊢
  have hx64 : x < 18446744073709551616 := by rw [hx]; exact Hs.hash_lt hk p.1
  have HX := Lib.hid hx
  clear hx
  have HAt := Lib.hid HAt0
  have IH := Lib.hid ih
  clear HAt0 ih
  obtain ⟨a, ha⟩ : ∃ a, a = w.heap.size := ⟨_, rfl⟩
  obtain ⟨b, hb⟩ : ∃ b, b = a + 1 := ⟨_, rfl⟩
  have HAB := Lib.hid (boxes2 w h p p.1 x ha hb)
  go_enter Tryd.func48, Tryd.ntmps48
  repeat' (first | go_at_call 52 | go_skip | go_guarded | go_step)
  rw [← ha, ← hb]
  clear ha hb
  refine calls_named (fun w' => (WkAt w' a h p.1 x ∧ PrAt w' b p) ∧ Ext w w') HAB.out ?_
  intro wa HW
  clear HAB
  refine (isb_c wa g false (isn_cell (HN.out.ext HW.out.2))).mono ?_
  rintro e w1 ⟨rfl, f1⟩
  have H1 : Hid ((WkAt w1 a h p.1 x ∧ PrAt w1 b p) ∧ Ext w w1) := Lib.hid ⟨⟨HW.out.1.1.ext f1, HW.out.1.2.ext f1⟩, HW.out.2.trans f1⟩
  clear f1 HW
  obtain ⟨h0, h1, h2, h3, h4, h5⟩ := H1.out.1.1.cells
  obtain ⟨p0, p1⟩ := H1.out.1.2.cells
  go_simp
  repeat' (first | go_at_call 85 | go_skip | go_guarded | go_step)
  refine (HAt.out _).mono ?_
  rintro e w1' ⟨rfl, rfl⟩
  clear HAt
  go_simp
  repeat' (first | go_at_call 67 | go_skip | go_guarded | go_step)
  have HPA : Calls Tryd.prog 67 #[ptr g, .int .i64 i] w1 fun e w' => e = .returned (.tuple #[.agg #[str [], str []], .bool false]) ∧ Ext w1 w' := pair_any w1 g i sl _ (HN.out.ext H1.out.2) HS.out
  refine HPA.mono ?_
  rintro e w2 ⟨rfl, f2⟩
  have H2 : Hid ((WkAt (w2.alloc (.cells #[str [], str []] NP)) a h p.1 x ∧ PrAt (w2.alloc (.cells #[str [], str []] NP)) b p) ∧ Ext w (w2.alloc (.cells #[str [], str []] NP))) := Lib.hid (by
    have fa : Ext w1 (w2.alloc (.cells #[str [], str []] NP)) := f2.trans ((Ext.refl _).alloc (Nat.le_refl _) _)
    exact ⟨⟨H1.out.1.1.ext fa, H1.out.1.2.ext fa⟩, H1.out.2.trans fa⟩)
  clear f2 H1 h0 h1 h2 h3 h4 h5 p0 p1 HPA
  go_simp
  repeat' (first | go_at_call 68 | go_skip | go_guarded | go_step)
  refine calls_named (fun w' => (WkAt w' a h p.1 x ∧ PrAt w' b p) ∧ Ext w w') H2.out ?_
  intro wb H3
  clear H2
  obtain ⟨h0, h1, h2, h3, h4, h5⟩ := H3.out.1.1.cells
  obtain ⟨p0, p1⟩ := H3.out.1.2.cells
  refine (kid_yes wb g i sl k (HN.out.ext H3.out.2) HS.out).mono ?_
  rintro e w4 ⟨rfl, f4⟩
  have H4 : Hid ((WkAt w4 a h p.1 x ∧ PrAt w4 b p) ∧ Ext w w4) := Lib.hid ⟨⟨H3.out.1.1.ext f4, H3.out.1.2.ext f4⟩, H3.out.2.trans f4⟩
  clear f4 H3 h0 h1 h2 h3 h4 h5 p0 p1
  obtain ⟨h0, h1, h2, h3, h4, h5⟩ := H4.out.1.1.cells
  obtain ⟨p0, p1⟩ := H4.out.1.2.cells
  go_simp
  repeat' (first | go_at_call 48 | go_skip | go_guarded | go_step)
  refine (IH.out w4 H4.out.2).mono ?_
  rintro e w5 ⟨g5, ch, rfl, R5, f5, s5, c5⟩
  have H5 : Hid ((WkAt w5 a h p.1 x ∧ PrAt w5 b p) ∧ Ext w w5) := Lib.hid ⟨⟨H4.out.1.1.ext f5, H4.out.1.2.ext f5⟩, H4.out.2.trans f5⟩
  have HC := Lib.hid (And.intro R5 c5)
  clear f5 H4 h0 h1 h2 h3 h4 h5 p0 p1 R5 s5 c5
  obtain ⟨h0, h1, h2, h3, h4, h5⟩ := H5.out.1.1.cells
  obtain ⟨p0, p1⟩ := H5.out.1.2.cells
  cases ch with
  | false =>
    have hm : p ∈ l := HQ.out.2.1 (HC.out.2.1 rfl)
    have HM : Hid (p ∈ l ∧ true = true) := Lib.hid ⟨hm, rfl⟩
    have htrue : Hid (th = true) := Lib.hid (HTH.out.trans (hasK_iff.2 ⟨p, hm, rfl⟩))
    clear hm
    go_simp
    repeat' (first | go_skip | go_guarded | go_step)
    go_ret3
    exact ⟨g, false, by rw [htrue.out]; rfl, by rw [rput_self HR.out HM.out.1]; exact ⟨sl, HN.out.ext H5.out.2, fun c s hs => (HT.out c s hs).mono fun _ hk => TR.ext H5.out.2 f hk⟩, H5.out.2, fun _ => rfl, ⟨fun _ => HM.out.1, fun _ => rfl⟩⟩
  | true =>
    have HM : Hid (p ∉ l) := Lib.hid (fun e => by have := HC.out.2.2 (HQ.out.2.2 e); cases this)
    go_simp
    repeat' (first | go_at_call 19 | go_skip | go_guarded | go_step)
    refine (setKid_c w5 g i g5 sl (HN.out.ext H5.out.2) hi32).mono ?_
    rintro e w6 ⟨g6, rfl, N6, f6, s6⟩
    have H6 := Lib.hid (And.intro N6 f6)
    clear N6 f6
    go_simp
    repeat' (first | go_skip | go_guarded | go_step)
    go_ret3
    have hE := H5.out.2.trans H6.out.2
    refine ⟨g6, true, rfl, ?_, hE, fun e => absurd e HM.out, ⟨fun e => (by cases e), fun e => absurd e HM.out⟩⟩
    refine TR.put HR.out (by rw [HIL.out.2.1]; exact HIL.out.1.symm) HT.out hE H6.out.1 ?_
    exact ⟨Nat.le_trans HQ.out.1 (rput_len (part_rise HR.out)), TR.ext H6.out.2 f HC.out.1⟩

theorem putk_c (h : Hs) (hk : h.Ok) : ∀ (f : Nat) (w : World) (g : Nat) (l : List Pr) (p : Pr) (lv : Nat), lv + f = 13 → TR ND h.hash w f g l → Rise l → l.length ≤ 400000000 → (∀ q ∈ l, q.1.length ≤ 1000000) → p.1.length ≤ 1000000 → PutOk h f w g l p lv
  | 0, w, g, l, p, lv, _, hT, hr, h9, _, _ => put_bk h hk w g l p lv hT hr h9
  | f + 1, w, g, l, p, lv, hl, ⟨sl, hN, hT⟩, hr, h9, hq9, hp9 => by
    obtain ⟨s, hs⟩ := get_of_lt sl (show chk (h.hash p.1) lv < sl.length by rw [hN.1]; exact chk_lt _ _)
    have ok := hT _ s hs
    cases s with
    | no => exact put_no h hk f w g l p lv sl hl hN hT hr hp9 _ rfl hs
    | pr q =>
      by_cases e : q = p
      · subst e; exact put_same h hk f w g l q lv sl hl hN hT hr hp9 _ rfl hs
      · by_cases e2 : q.1 = p.1
        · exact put_key h hk f w g l p lv sl hl hN hT hr hp9 _ rfl q e2 e hs
        · refine put_two h hk f w g l p lv sl hl hN hT hr hp9 _ rfl q e2 (hq9 q ?_) hs
          have h1 : Go.QS.part h.hash (12 - f) (chk (h.hash p.1) lv) l = [q] := ok
          have h2 : q ∈ Go.QS.part h.hash (12 - f) (chk (h.hash p.1) lv) l := by rw [h1]; simp
          exact (mem_part.1 h2).1
    | kid k =>
      refine put_kid h hk f w g l p lv sl hl hN hT hr hp9 _ rfl k hs fun W hW => ?_
      exact putk_c h hk f W k _ p (lv + 1) (by omega) (TR.ext hW f ok.2) (part_rise hr) (Nat.le_trans part_length h9) (fun q hq => hq9 q (mem_part.1 hq).1) hp9
end Go.Proofs.YtclcgelbcbnekaaDoor
