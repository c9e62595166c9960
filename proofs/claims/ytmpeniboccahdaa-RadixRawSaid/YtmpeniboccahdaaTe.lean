/- Contracts: is a tree as it must be: branch, Canon. -/
import Derived.Test.YtmpeniboccahdaaTd
namespace Go.Proofs.Ytmpeniboccahdaa
open Go.RowKit Go.QS
set_option linter.unusedVariables false

abbrev fnV (F : Nat) : Value := .func (.func F) #[] #[]

set_option maxRecDepth 100000 in
theorem idxfA_c (f : RT → Bool) (w : World) (v : Value) (ps : List Nat) (ks : List RT) (h : Sl w 1 v ps.length (ptrs ps)) (hr : Reps NT w ps ks)
    (hF : ∀ (W : World) (p : Nat) (k : RT), Ext w W → k ∈ ks → Rep NT W p k → Calls Try.prog 53 #[ptr p] W fun e w' => e = .returned (.bool (f k)) ∧ Ext W w') :
    Calls Try.prog 77 #[v, fnV 53] w fun e w' => ∃ r : Int, e = .returned (.int .i64 r) ∧ decide (0 ≤ r) = ks.any f ∧ Ext w w' := by
  obtain ⟨A, C, rfl, _, hn, hC, hs⟩ := h
  obtain ⟨m, hm⟩ : ∃ m, m = ps.length := ⟨_, rfl⟩
  rw [← hm] at hn ⊢
  have hm9 : m ≤ 9223372036854775807 := by unfold maxLen at hC; omega
  have HN : Hid (m = ps.length ∧ Seg w A (ptrs ps) ∧ Reps NT w ps ks) := Lib.hid ⟨hm, hs, hr⟩
  have HF := Lib.hid hF
  clear hm hs hr hF
  go_enter Try.func77, Try.ntmps77
  repeat' (go_not_at_region 2; (first | go_skip | go_guarded | go_step))
  go_loopg [5, 8] m (fun gk v5 v8 wr => ∃ j : Nat, v8 = .int .i64 j ∧ j ≤ m ∧ m - j ≤ gk ∧ Ext w wr ∧ Hid ((ks.take j).any f = false))
  case atStart => exact ⟨0, rfl, Nat.zero_le _, Nat.le_refl _, Ext.refl _, Lib.hid rfl⟩
  case round =>
    obtain ⟨j, rfl, hjm, hgk, hE, HI⟩ := hrel
    rcases Nat.lt_or_ge j m with hlt | hge
    · have d1 : decide (j < m) = true := by simp [hlt]
      obtain ⟨p, hp⟩ := get_of_lt ps (show j < ps.length by have := HN.out.1; omega)
      obtain ⟨k, hkk⟩ := get_of_lt ks (show j < ks.length by have := HN.out.1; have := HN.out.2.2.1; omega)
      obtain ⟨b, o, hA, hcl⟩ := (Seg.below HN.out.2.1 hE) (fun e => by have := ptrs_get hp; rw [e] at this; simp at this)
      subst hA
      have hq := hcl j _ (ptrs_get hp)
      have hi1 : (j : Int) < (m : Int) := by omega
      have HC := Lib.hid (HF.out wr p k hE (List.mem_of_getElem? hkk) ((HN.out.2.2.2 j p k hp hkk).ext hE))
      have HK : Hid ((ks.take (j + 1)).any f = f k) := Lib.hid (by rw [take_snoc hkk, List.any_append, HI.out]; simp)
      have HM : Hid (k ∈ ks) := Lib.hid (List.mem_of_getElem? hkk)
      clear hkk hp hcl
      repeat' (first | go_skip | go_guarded | go_step)
      refine HC.out.mono ?_
      rintro e w1 ⟨rfl, f1⟩
      have HE1 : Hid (Ext w w1) := Lib.hid (hE.trans f1)
      clear f1
      cases hf : f k with
      | true =>
        have HA : Hid (ks.any f = true) := Lib.hid (List.any_eq_true.2 ⟨k, HM.out, hf⟩)
        clear hf
        go_simp
        repeat' (first | go_skip | go_guarded | go_step)
        go_ret
        exact ⟨j, rfl, by rw [HA.out]; simp, HE1.out⟩
      | false =>
        rw [hf] at HK
        clear hf
        go_simp
        repeat' (first | go_skip | go_guarded | go_step)
        go_roundg (m - (j + 1))
        case measure => omega
        case rel => exact ⟨j + 1, by go_num, by omega, Nat.le_refl _, HE1.out, HK⟩
    · obtain rfl : j = m := by omega
      have d1 : decide (j < j) = false := by simp
      repeat' (first | go_skip | go_guarded | go_step)
      go_ret
      have := HI.out
      rw [List.take_of_length_le (by have := HN.out.1; have := HN.out.2.2.1; omega)] at this
      exact ⟨-1, rfl, by rw [this]; rfl, hE⟩

set_option maxRecDepth 100000 in
theorem contfA_c (f : RT → Bool) (w : World) (v : Value) (ps : List Nat) (ks : List RT) (h : Sl w 1 v ps.length (ptrs ps)) (hr : Reps NT w ps ks)
    (hF : ∀ (W : World) (p : Nat) (k : RT), Ext w W → k ∈ ks → Rep NT W p k → Calls Try.prog 53 #[ptr p] W fun e w' => e = .returned (.bool (f k)) ∧ Ext W w') :
    Calls Try.prog 52 #[v, fnV 53] w fun e w' => e = .returned (.bool (ks.any f)) ∧ Ext w w' := by
  have HC := Lib.hid (idxfA_c f w v ps ks h hr hF)
  obtain ⟨A, C, rfl, _⟩ := h
  obtain ⟨b, hb⟩ : ∃ b, b = ks.any f := ⟨_, rfl⟩
  rw [← hb] at HC ⊢
  clear hF hb
  go_enter Try.func52, Try.ntmps52
  repeat' (first | go_at_call 77 | go_skip | go_guarded | go_step)
  refine HC.out.mono ?_
  rintro e w1 ⟨r, rfl, hr, f1⟩
  have H1 := Lib.hid f1
  clear f1
  go_simp
  repeat' (first | go_skip | go_guarded | go_step)
  go_ret
  exact ⟨rfl, H1.out⟩

set_option maxRecDepth 100000 in
theorem idxfB_c (f : RT → Bool) (w : World) (v : Value) (ps : List Nat) (ks : List RT) (h : Sl w 1 v ps.length (ptrs ps)) (hr : Reps NT w ps ks)
    (hF : ∀ (W : World) (p : Nat) (k : RT), Ext w W → k ∈ ks → Rep NT W p k → Calls Try.prog 78 #[ptr p] W fun e w' => e = .returned (.bool (f k)) ∧ Ext W w') :
    Calls Try.prog 77 #[v, fnV 78] w fun e w' => ∃ r : Int, e = .returned (.int .i64 r) ∧ decide (0 ≤ r) = ks.any f ∧ Ext w w' := by
  obtain ⟨A, C, rfl, _, hn, hC, hs⟩ := h
  obtain ⟨m, hm⟩ : ∃ m, m = ps.length := ⟨_, rfl⟩
  rw [← hm] at hn ⊢
  have hm9 : m ≤ 9223372036854775807 := by unfold maxLen at hC; omega
  have HN : Hid (m = ps.length ∧ Seg w A (ptrs ps) ∧ Reps NT w ps ks) := Lib.hid ⟨hm, hs, hr⟩
  have HF := Lib.hid hF
  clear hm hs hr hF
  go_enter Try.func77, Try.ntmps77
  repeat' (go_not_at_region 2; (first | go_skip | go_guarded | go_step))
  go_loopg [5, 8] m (fun gk v5 v8 wr => ∃ j : Nat, v8 = .int .i64 j ∧ j ≤ m ∧ m - j ≤ gk ∧ Ext w wr ∧ Hid ((ks.take j).any f = false))
  case atStart => exact ⟨0, rfl, Nat.zero_le _, Nat.le_refl _, Ext.refl _, Lib.hid rfl⟩
  case round =>
    obtain ⟨j, rfl, hjm, hgk, hE, HI⟩ := hrel
    rcases Nat.lt_or_ge j m with hlt | hge
    · have d1 : decide (j < m) = true := by simp [hlt]
      obtain ⟨p, hp⟩ := get_of_lt ps (show j < ps.length by have := HN.out.1; omega)
      obtain ⟨k, hkk⟩ := get_of_lt ks (show j < ks.length by have := HN.out.1; have := HN.out.2.2.1; omega)
      obtain ⟨b, o, hA, hcl⟩ := (Seg.below HN.out.2.1 hE) (fun e => by have := ptrs_get hp; rw [e] at this; simp at this)
      subst hA
      have hq := hcl j _ (ptrs_get hp)
      have hi1 : (j : Int) < (m : Int) := by omega
      have HC := Lib.hid (HF.out wr p k hE (List.mem_of_getElem? hkk) ((HN.out.2.2.2 j p k hp hkk).ext hE))
      have HK : Hid ((ks.take (j + 1)).any f = f k) := Lib.hid (by rw [take_snoc hkk, List.any_append, HI.out]; simp)
      have HM : Hid (k ∈ ks) := Lib.hid (List.mem_of_getElem? hkk)
      clear hkk hp hcl
      repeat' (first | go_skip | go_guarded | go_step)
      refine HC.out.mono ?_
      rintro e w1 ⟨rfl, f1⟩
      have HE1 : Hid (Ext w w1) := Lib.hid (hE.trans f1)
      clear f1
      cases hf : f k with
      | true =>
        have HA : Hid (ks.any f = true) := Lib.hid (List.any_eq_true.2 ⟨k, HM.out, hf⟩)
        clear hf
        go_simp
        repeat' (first | go_skip | go_guarded | go_step)
        go_ret
        exact ⟨j, rfl, by rw [HA.out]; simp, HE1.out⟩
      | false =>
        rw [hf] at HK
        clear hf
        go_simp
        repeat' (first | go_skip | go_guarded | go_step)
        go_roundg (m - (j + 1))
        case measure => omega
        case rel => exact ⟨j + 1, by go_num, by omega, Nat.le_refl _, HE1.out, HK⟩
    · obtain rfl : j = m := by omega
      have d1 : decide (j < j) = false := by simp
      repeat' (first | go_skip | go_guarded | go_step)
      go_ret
      have := HI.out
      rw [List.take_of_length_le (by have := HN.out.1; have := HN.out.2.2.1; omega)] at this
      exact ⟨-1, rfl, by rw [this]; rfl, hE⟩

set_option maxRecDepth 100000 in
theorem contfB_c (f : RT → Bool) (w : World) (v : Value) (ps : List Nat) (ks : List RT) (h : Sl w 1 v ps.length (ptrs ps)) (hr : Reps NT w ps ks)
    (hF : ∀ (W : World) (p : Nat) (k : RT), Ext w W → k ∈ ks → Rep NT W p k → Calls Try.prog 78 #[ptr p] W fun e w' => e = .returned (.bool (f k)) ∧ Ext W w') :
    Calls Try.prog 52 #[v, fnV 78] w fun e w' => e = .returned (.bool (ks.any f)) ∧ Ext w w' := by
  have HC := Lib.hid (idxfB_c f w v ps ks h hr hF)
  obtain ⟨A, C, rfl, _⟩ := h
  obtain ⟨b, hb⟩ : ∃ b, b = ks.any f := ⟨_, rfl⟩
  rw [← hb] at HC ⊢
  clear hF hb
  go_enter Try.func52, Try.ntmps52
  repeat' (first | go_at_call 77 | go_skip | go_guarded | go_step)
  refine HC.out.mono ?_
  rintro e w1 ⟨r, rfl, hr, f1⟩
  have H1 := Lib.hid f1
  clear f1
  go_simp
  repeat' (first | go_skip | go_guarded | go_step)
  go_ret
  exact ⟨rfl, H1.out⟩

theorem any_not_br (ks : List RT) : (ks.any fun k => !k.brB) = !brsB ks := by
  induction ks with
  | nil => rfl
  | cons t r ih => simp only [List.any_cons, ih, brsB]; cases t.brB <;> simp

set_option maxRecDepth 100000 in
set_option maxHeartbeats 1000000 in
theorem branch_c : ∀ (N : Nat) (w : World) (g : Nat) (t : RT), SizeOf.sizeOf t < N → Rep NT w g t →
    Calls Try.prog 54 #[ptr g] w fun e w' => e = .returned (.bool t.brB) ∧ Ext w w' := by
  intro N
  induction N with
  | zero => intro w g t h; omega
  | succ N ih =>
  intro w g t hN h
  have hF : ∀ (W : World) (p : Nat) (k : RT), k ∈ t.kids → Rep NT W p k → Calls Try.prog 78 #[ptr p] W fun e w' => e = .returned (.bool (!k.brB)) ∧ Ext W w' := by
    intro W p k hk hr
    have HC := Lib.hid (ih W p k (by have := kid_size hk; omega) hr)
    clear ih hr h
    obtain ⟨b, hb⟩ : ∃ b, b = k.brB := ⟨_, rfl⟩
    rw [← hb] at HC ⊢
    clear hb
    go_enter Try.func78, Try.ntmps78
    repeat' (first | go_at_call 54 | go_skip | go_guarded | go_step)
    refine HC.out.mono ?_
    rintro e w1 ⟨rfl, f1⟩
    have H1 := Lib.hid f1
    clear f1
    go_simp
    repeat' (first | go_skip | go_guarded | go_step)
    go_ret
    exact ⟨rfl, H1.out⟩
  clear ih
  obtain ⟨kv, ow, ps, nd, sl, rp⟩ := h.open
  obtain ⟨c0, c1, c2, c3, c4⟩ := nd.cells
  have HR := Lib.hid (rises_c w g t h)
  have hbr := brB_eq t
  have HCT : Hid (∀ W, Ext w W → Calls Try.prog 52 #[kv, fnV 78] W fun e w' => e = .returned (.bool (!brsB t.kids)) ∧ Ext W w') := Lib.hid (fun W hW => by
    rw [← any_not_br]
    exact contfB_c _ W kv ps t.kids (sl.below hW) (rp.ext hW) (fun W' p k hW' hk hr => hF W' p k hk hr))
  have HN := Lib.hid (And.intro c1 c3)
  have hlen := rp.1
  obtain ⟨A, C, rfl, _, hn, hC, hs⟩ := sl
  obtain ⟨m, hm⟩ : ∃ m, m = ps.length := ⟨_, rfl⟩
  rw [← hm] at hn c3 HCT HN hlen
  have hm9 : m ≤ 9223372036854775807 := by unfold maxLen at hC; omega
  rw [← hlen] at hbr
  obtain ⟨rb, hrb⟩ : ∃ b, b = risesB t.kids := ⟨_, rfl⟩
  rw [← hrb] at HR hbr
  obtain ⟨vb, hvb⟩ : ∃ b, b = t.val.isSome := ⟨_, rfl⟩
  rw [← hvb] at HN hbr
  obtain ⟨bb, hbb⟩ : ∃ b, b = brsB t.kids := ⟨_, rfl⟩
  rw [← hbb] at HCT hbr
  rw [hbr]
  clear hF hbr hlen hrb hvb hbb hm hs rp nd h c0 c1 c2 c3 c4
  go_enter Try.func54, Try.ntmps54
  repeat' (first | go_at_call 51 | go_skip | go_guarded | go_step)
  refine HR.out.mono ?_
  rintro e w1 ⟨rfl, f1⟩
  have H1 := Lib.hid f1
  have k1 := (f1.cell (World.block_lt_of_cell? w _ HN.out.1)).trans HN.out.1
  have k3 := (f1.cell (World.block_lt_of_cell? w _ HN.out.2)).trans HN.out.2
  clear f1
  cases rb with
  | false =>
    go_simp
    repeat' (first | go_skip | go_guarded | go_step)
    go_ret
    exact ⟨rfl, H1.out⟩
  | true =>
    have fin : ∀ (b2 : Bool), (vb || decide (2 ≤ m)) = b2 → True := fun _ _ => trivial
    by_cases hv : vb = true
    · subst hv
      go_simp
      repeat' (first | go_at_call 52 | go_skip | go_guarded | go_step)
      refine (HCT.out w1 H1.out).mono ?_
      rintro e w2 ⟨rfl, f2⟩
      have H2 := Lib.hid (H1.out.trans f2)
      clear f2
      go_simp
      repeat' (first | go_skip | go_guarded | go_step)
      go_ret
      exact ⟨by cases bb <;> rfl, H2.out⟩
    · have hv : vb = false := by simpa using hv
      subst hv
      by_cases h2 : 2 ≤ m
      · have d2 : decide (m < 2) = false := by simp; omega
        have d3 : decide (2 ≤ m) = true := by simp; omega
        go_simp
        repeat' (first | go_at_call 52 | go_skip | go_guarded | go_step)
        refine (HCT.out w1 H1.out).mono ?_
        rintro e w2 ⟨rfl, f2⟩
        have H2 := Lib.hid (H1.out.trans f2)
        clear f2
        go_simp
        repeat' (first | go_skip | go_guarded | go_step)
        go_ret
        exact ⟨by rw [d3]; cases bb <;> rfl, H2.out⟩
      · have d2 : decide (m < 2) = true := by simp; omega
        have d3 : decide (2 ≤ m) = false := by simp; omega
        go_simp
        repeat' (first | go_skip | go_guarded | go_step)
        go_ret
        exact ⟨by rw [d3]; rfl, H1.out⟩
end Go.Proofs.Ytmpeniboccahdaa
