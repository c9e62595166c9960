/- Contracts: bytes.Equal, Same; is a tree as it must be? -/
import Derived.Test.YtmpeniboccahdaaTc
import Derived.Test.YtmpeniboccahdaaRe
import Derived.BigQuiet
namespace Go.Proofs.Ytmpeniboccahdaa
open Go.RowKit Go.QS
set_option linter.unusedVariables false

set_option maxRecDepth 100000 in
theorem equal_c (w : World) (v1 v2 : Value) (a b : List UInt8) (h1 : BS w v1 a) (h2 : BS w v2 b) :
    Calls Try.prog 62 #[v1, v2] w fun e w' => e = .returned (.bool (decide (a = b))) ∧ w = w' := by
  have c1 := conv_bs (P := Try.prog) Try.underlying52 Try.underlying5 Try.underlying9 h1
  have c2 := conv_bs (P := Try.prog) Try.underlying52 Try.underlying5 Try.underlying9 h2
  obtain ⟨A1, k1, rfl, _⟩ := sl_full h1
  obtain ⟨A2, k2, rfl, _⟩ := sl_full h2
  clear h1 h2
  go_enter Try.func62, Try.ntmps62
  repeat' (first | go_skip | go_guarded | go_step)
  go_ret
  refine ⟨?_, rfl⟩
  have e : (a == b) = decide (a = b) := by rw [Bool.eq_iff_iff]; simp
  rw [← e]; rfl

set_option maxRecDepth 100000 in
theorem same_c (w : World) (v1 v2 : Value) (a b : List UInt8) (h1 : Shp w v1 a) (h2 : Shp w v2 b) :
    Calls Try.prog 35 #[v1, v2] w fun e w' => e = .returned (.bool (decide (a = b))) ∧ Ext w w' := by
  have H := Lib.hid (And.intro h1 h2)
  clear h1 h2
  go_enter Try.func35, Try.ntmps35
  repeat' (first | go_at_call 23 | go_skip | go_guarded | go_step)
  refine (shapeO_c w v1 a H.out.1).mono ?_
  rintro e w1 ⟨u1, rfl, b1, f1⟩
  have H1 := Lib.hid (And.intro b1 f1)
  clear b1 f1
  go_simp
  repeat' (first | go_at_call 23 | go_skip | go_guarded | go_step)
  refine (shapeO_c w1 v2 b (H.out.2.ext H1.out.2)).mono ?_
  rintro e w2 ⟨u2, rfl, b2, f2⟩
  have H2 := Lib.hid (And.intro b2 f2)
  clear b2 f2
  go_simp
  repeat' (first | go_at_call 62 | go_skip | go_guarded | go_step)
  refine (equal_c w2 u1 u2 a b (H1.out.1.below H2.out.2) H2.out.1).mono ?_
  rintro e w3 ⟨rfl, rfl⟩
  go_simp
  repeat' (first | go_skip | go_guarded | go_step)
  go_ret
  exact ⟨rfl, H1.out.2.trans H2.out.2⟩

/-! ### Labels that rise -/
theorem headsB_snoc : ∀ {l : List RT} {p k : RT}, headsB (l ++ [p] ++ [k]) = (headsB (l ++ [p]) && decide (p.hd < k.hd))
  | [], p, k => by simp [headsB]
  | [a], p, k => by simp [headsB]
  | a :: b :: l, p, k => by
    have := headsB_snoc (l := b :: l) (p := p) (k := k)
    simp only [List.cons_append, headsB] at this ⊢
    rw [this, Bool.and_assoc]
theorem risesB_one (k : RT) : risesB [k] = !k.lab.isEmpty := by simp [risesB, headsB]
theorem risesB_snoc {l : List RT} {p k : RT} : risesB (l ++ [p] ++ [k]) = (risesB (l ++ [p]) && (!k.lab.isEmpty && decide (p.hd < k.hd))) := by
  unfold risesB
  rw [headsB_snoc]
  simp only [List.all_append, List.all_cons, List.all_nil, Bool.and_true]
  cases (l.all fun k => !k.lab.isEmpty) <;> cases p.lab.isEmpty <;> cases k.lab.isEmpty <;> cases headsB (l ++ [p]) <;> simp
theorem headsB_take : ∀ {ks : List RT} (j : Nat), headsB ks = true → headsB (ks.take j) = true := by
  intro ks j h
  rw [headsB_iff] at h ⊢
  exact List.Pairwise.sublist (List.take_sublist j ks) h
theorem risesB_take {ks : List RT} (j : Nat) (h : risesB ks = true) : risesB (ks.take j) = true := by
  rw [risesB_iff] at h ⊢
  exact ⟨fun k hk => h.1 k (List.mem_of_mem_take hk), List.Pairwise.sublist (List.take_sublist j ks) h.2⟩

set_option maxRecDepth 100000 in
set_option maxHeartbeats 1000000 in
theorem rises_c (w : World) (g : Nat) (t : RT) (h : Rep NT w g t) :
    Calls Try.prog 51 #[ptr g] w fun e w' => e = .returned (.bool (risesB t.kids)) ∧ Ext w w' := by
  obtain ⟨kv, ow, ps, nd, sl, rp⟩ := h.open
  obtain ⟨c0, c1, c2, c3, c4⟩ := nd.cells
  obtain ⟨A, C, rfl, _, hn, hC, hs⟩ := sl
  obtain ⟨m, hm⟩ : ∃ m, m = ps.length := ⟨_, rfl⟩
  rw [← hm] at hn c3
  have hm9 : m ≤ 9223372036854775807 := by unfold maxLen at hC; omega
  have HN : Hid (m = ps.length ∧ Seg w A (ptrs ps) ∧ Reps NT w ps t.kids ∧ w.cell? ⟨g, 3, none⟩ = some (.slice A m C)) := Lib.hid ⟨hm, hs, rp, c3⟩
  clear hm hs rp nd h c0 c1 c2 c4
  go_enter Try.func51, Try.ntmps51
  repeat' (go_not_at_region 2; (first | go_skip | go_guarded | go_step))
  go_loopg [3, 4, 10] m (fun gk v3 v4 v10 wr => ∃ j : Nat, v10 = .int .i64 j ∧ j ≤ m ∧ m - j ≤ gk ∧ Ext w wr ∧ Hid (risesB (t.kids.take j) = true))
  case atStart => exact ⟨0, rfl, Nat.zero_le _, Nat.le_refl _, Ext.refl _, Lib.hid rfl⟩
  case round =>
    obtain ⟨j, rfl, hjm, hgk, hE, HI⟩ := hrel
    rcases Nat.lt_or_ge j m with hlt | hge
    · have d1 : decide (j < m) = true := by simp [hlt]
      obtain ⟨p, hp⟩ := get_of_lt ps (show j < ps.length by have := HN.out.1; omega)
      obtain ⟨k, hkk⟩ := get_of_lt t.kids (show j < t.kids.length by have := HN.out.1; have := HN.out.2.2.1.1; omega)
      obtain ⟨b, o, hA, hcl⟩ := (Seg.below HN.out.2.1 hE) (fun e => by have := ptrs_get hp; rw [e] at this; simp at this)
      subst hA
      have hq := hcl j _ (ptrs_get hp)
      have hi1 : (j : Int) < (m : Int) := by omega
      have hkr := ((HN.out.2.2.1.2 j p k hp hkk).ext hE).open
      obtain ⟨kkv, kow, kps, knd, _, _⟩ := hkr
      have k0 := knd.cells.1
      have HK := Lib.hid (And.intro hkk (take_snoc hkk))
      have g3 : wr.cell? ⟨g, 3, none⟩ = some (.slice (some ⟨b, o, none⟩) m C) := (hE.cell (World.block_lt_of_cell? w _ HN.out.2.2.2)).trans HN.out.2.2.2
      rcases hlab : k.lab with _ | ⟨x, l⟩
      · have HF : Hid (risesB t.kids = false) := Lib.hid (by
          rw [Bool.eq_false_iff]
          intro hr
          exact ((risesB_iff _).1 hr).1 k (List.mem_of_getElem? hkk) hlab)
        rw [hlab] at k0
        clear knd hkk hp hcl hlab
        repeat' (go_not_at_region 4; (first | go_skip | go_guarded | go_step))
        go_quiet (fail)
        repeat' (first | go_skip | go_guarded | go_step)
        go_ret
        exact ⟨by rw [HF.out]; rfl, below_drewN hE _⟩
      · have hne : k.lab ≠ [] := by rw [hlab]; simp
        have hkh : k.hd = x.toNat := hd_eq hlab
        rw [hlab] at k0
        by_cases hj0 : j = 0
        · subst hj0
          replace hq : wr.cell? ⟨b, o, none⟩ = some (ptr p) := by simpa using hq
          have HR : Hid (risesB (t.kids.take (0 + 1)) = true) := Lib.hid (by rw [HK.out.2, List.take_zero, List.nil_append, risesB_one]; cases hk : k.lab with | nil => exact absurd hk hne | cons a b => rfl)
          clear knd hkk hp hcl hlab hne hkh
          repeat' (go_not_at_region 4; (first | go_skip | go_guarded | go_step))
          go_quiet (fail)
          repeat' (first | go_skip | go_guarded | go_step)
          go_roundg (m - 1)
          case measure => omega
          case rel => exact ⟨0 + 1, by go_num, by omega, Nat.le_refl _, below_drewN hE _, HR⟩
        · obtain ⟨i, rfl⟩ : ∃ i, j = i + 1 := ⟨j - 1, by omega⟩
          obtain ⟨p2, hp2⟩ := get_of_lt ps (show i < ps.length by have := HN.out.1; omega)
          obtain ⟨k2, hk2⟩ := get_of_lt t.kids (show i < t.kids.length by have := HN.out.1; have := HN.out.2.2.1.1; omega)
          have hq2 := hcl i _ (ptrs_get hp2)
          obtain ⟨kkv2, kow2, kps2, knd2, _, _⟩ := ((HN.out.2.2.1.2 i p2 k2 hp2 hk2).ext hE).open
          have k20 := knd2.cells.1
          have hne2 : k2.lab ≠ [] := ((risesB_iff _).1 HI.out).1 k2 (by rw [take_snoc hk2]; simp)
          obtain ⟨x2, l2, hlab2⟩ := List.exists_cons_of_ne_nil hne2
          have hkh2 : k2.hd = x2.toNat := hd_eq hlab2
          rw [hlab2] at k20
          have hj1 : ((i + 1 : Nat) : Int) - 1 = (i : Int) := by omega
          have hi2 : (i : Int) < (m : Int) := by omega
          have hs := risesB_snoc (l := t.kids.take i) (p := k2) (k := k)
          rw [← take_snoc hk2, ← HK.out.2, HI.out, Bool.true_and] at hs
          have he : (!k.lab.isEmpty) = true := by rw [hlab]; rfl
          rw [he, Bool.true_and] at hs
          by_cases hlt2 : x2.toNat < x.toNat
          · have HR : Hid (risesB (t.kids.take (i + 1 + 1)) = true) := Lib.hid (by rw [hs, hkh, hkh2]; simpa using hlt2)
            have d2 : decide (x.toNat ≤ x2.toNat) = false := by simp; omega
            have g0 : ∀ (x : UInt8) (l : List UInt8) (h : 0 < (bs (x :: l)).size), (bs (x :: l))[0]'h = x := fun _ _ _ => rfl
            clear knd hkk hp hcl hlab hne hkh knd2 hp2 hk2 hne2 hlab2 hkh2 hs he
            repeat' (go_not_at_region 4; (first | go_skip | go_guarded | go_step))
            go_quiet (fail)
            repeat' (first | go_skip | go_guarded | go_step)
            go_roundg (m - (i + 1 + 1))
            case measure => omega
            case rel => exact ⟨i + 1 + 1, by go_num, by omega, Nat.le_refl _, below_drewN hE _, HR⟩
          · have HF : Hid (risesB t.kids = false) := Lib.hid (by
              rw [Bool.eq_false_iff]
              intro hr
              have := risesB_take (i + 1 + 1) hr
              rw [hs, hkh, hkh2] at this
              exact hlt2 (by simpa using this))
            have d2 : decide (x.toNat ≤ x2.toNat) = true := by simp; omega
            have g0 : ∀ (x : UInt8) (l : List UInt8) (h : 0 < (bs (x :: l)).size), (bs (x :: l))[0]'h = x := fun _ _ _ => rfl
            clear knd hkk hp hcl hlab hne hkh knd2 hp2 hk2 hne2 hlab2 hkh2 hs he
            repeat' (go_not_at_region 4; (first | go_skip | go_guarded | go_step))
            go_quiet (fail)
            repeat' (first | go_skip | go_guarded | go_step)
            go_ret
            exact ⟨by rw [HF.out]; rfl, below_drewN hE _⟩
    · obtain rfl : j = m := by omega
      have d1 : decide (j < j) = false := by simp
      repeat' (first | go_skip | go_guarded | go_step)
      go_ret
      refine ⟨?_, hE⟩
      have := HI.out
      rw [List.take_of_length_le (by have := HN.out.1; have := HN.out.2.2.1.1; omega)] at this
      rw [this]; rfl
end Go.Proofs.Ytmpeniboccahdaa
