/- Contracts: Canon, Get, Len. -/
import Derived.Test.YtmpeniboccahdaaTe
import Derived.Test.YtmpeniboccahdaaMc
import Derived.Test.YtmpeniboccahdaaMg
namespace Go.Proofs.Ytmpeniboccahdaa
open Go.RowKit Go.QS
set_option linter.unusedVariables false

set_option maxRecDepth 100000 in
theorem canon1_c (w : World) (g : Nat) (t : RT) (h : Rep NT w g t) :
    Calls Try.prog 53 #[ptr g] w fun e w' => e = .returned (.bool (!t.brB)) ∧ Ext w w' := by
  have HC := Lib.hid (branch_c _ w g t (Nat.lt_succ_self _) h)
  obtain ⟨b, hb⟩ : ∃ b, b = t.brB := ⟨_, rfl⟩
  rw [← hb] at HC ⊢
  clear hb h
  go_enter Try.func53, Try.ntmps53
  repeat' (first | go_at_call 54 | go_skip | go_guarded | go_step)
  refine HC.out.mono ?_
  rintro e w1 ⟨rfl, f1⟩
  have H1 := Lib.hid f1
  clear f1
  go_simp
  repeat' (first | go_skip | go_guarded | go_step)
  go_ret
  exact ⟨rfl, H1.out⟩

set_option maxRecDepth 100000 in
set_option maxHeartbeats 1000000 in
theorem canon_c (w : World) (g : Nat) (t : RT) (h : Rep NT w g t) :
    Calls Try.prog 25 #[ptr g] w fun e w' => e = .returned (.bool t.canB) ∧ Ext w w' := by
  obtain ⟨kv, ow, ps, nd, sl, rp⟩ := h.open
  obtain ⟨c0, c1, c2, c3, c4⟩ := nd.cells
  have HR := Lib.hid (rises_c w g t h)
  have HCT : Hid (∀ W, Ext w W → Calls Try.prog 52 #[kv, fnV 53] W fun e w' => e = .returned (.bool (!brsB t.kids)) ∧ Ext W w') := Lib.hid (fun W hW => by
    rw [← any_not_br]
    exact contfA_c _ W kv ps t.kids (sl.below hW) (rp.ext hW) (fun W' p k hW' hk hr => canon1_c W' p k hr))
  have HN := Lib.hid c3
  have hcan : t.canB = (t.lab.isEmpty && risesB t.kids && brsB t.kids) := rfl
  obtain ⟨A, C, rfl, _, hn, hC, hs⟩ := sl
  obtain ⟨m, hm⟩ : ∃ m, m = ps.length := ⟨_, rfl⟩
  rw [← hm] at hn c3 HCT HN
  obtain ⟨rb, hrb⟩ : ∃ b, b = risesB t.kids := ⟨_, rfl⟩
  rw [← hrb] at HR hcan
  obtain ⟨bb, hbb⟩ : ∃ b, b = brsB t.kids := ⟨_, rfl⟩
  rw [← hbb] at HCT hcan
  rw [hcan]
  obtain ⟨lab, hlab⟩ : ∃ l, l = t.lab := ⟨_, rfl⟩
  rw [← hlab] at c0 ⊢
  clear hcan hrb hbb hlab hm hs rp nd h c1 c2 c3 c4
  rcases lab with _ | ⟨x, l⟩
  · go_enter Try.func25, Try.ntmps25
    repeat' (first | go_at_call 51 | go_skip | go_guarded | go_step)
    refine HR.out.mono ?_
    rintro e w1 ⟨rfl, f1⟩
    have H1 := Lib.hid f1
    have k3 := (f1.cell (World.block_lt_of_cell? w _ HN.out)).trans HN.out
    clear f1
    cases rb with
    | false =>
      go_simp
      repeat' (first | go_skip | go_guarded | go_step)
      go_ret
      exact ⟨rfl, H1.out⟩
    | true =>
      go_simp
      repeat' (first | go_at_call 52 | go_skip | go_guarded | go_step)
      refine (HCT.out w1 H1.out).mono ?_
      rintro e w2 ⟨rfl, f2⟩
      have H2 := Lib.hid (H1.out.trans f2)
      clear f2
      go_simp
      repeat' (first | go_skip | go_guarded | go_step)
      go_ret
      exact ⟨by cases bb <;> rfl, H2.out⟩
  · go_enter Try.func25, Try.ntmps25
    repeat' (first | go_skip | go_guarded | go_step)
    go_ret
    exact ⟨rfl, Ext.refl _⟩

/-! ### Len -/
theorem prs_len' (t : RT) : t.prs.length = (if t.val.isSome then 1 else 0) + (belows t.kids).length := by
  rw [below_eq, List.length_append]
  congr 1
  cases t.val <;> rfl
theorem belows_take' {ks : List RT} {j : Nat} {k : RT} (h : ks[j]? = some k) : (belows (ks.take (j + 1))).length = (belows (ks.take j)).length + k.prs.length := by
  rw [take_snoc h, belows_append, belows_cons, belows_nil, List.append_nil, List.length_append]
  simp [pre]
theorem belows_le' {ks : List RT} (j : Nat) : (belows (ks.take j)).length ≤ (belows ks).length := by
  conv => rhs; rw [← List.take_append_drop j ks]
  rw [belows_append, List.length_append]
  omega

set_option maxRecDepth 100000 in
set_option maxHeartbeats 1000000 in
theorem lenR_c : ∀ (N : Nat) (w : World) (g : Nat) (t : RT), SizeOf.sizeOf t < N → Rep NT w g t → t.prs.length ≤ 1000000 → (∀ k ∈ t.kids, True) → Wide t →
    Calls Try.prog 31 #[ptr g] w fun e w' => e = .returned (.int .i64 t.prs.length) ∧ Ext w w' := by
  intro N
  induction N with
  | zero => intro w g t h; omega
  | succ N ih =>
  intro w g t hN h hl _ hwd
  have H := Lib.hid h
  obtain ⟨kv, ow, ps, nd, sl, rp⟩ := h.open
  obtain ⟨hw1, hw2⟩ := hwd.open
  have hpl := prs_len' t
  have HI0 := Lib.hid ih
  have HKC : Hid (∀ W, Ext w W → Calls Try.prog 33 #[ptr g] W fun e w' => ∃ v', e = .returned v' ∧ w'.ownsRow W.heap.size 26 1 v' ps.length (ptrs ps) ∧ Ext W w') := Lib.hid (fun W hW => kids_c W g kv ps (nd.ext hW).cells.2.2.2.1 (sl.below hW) (by have := rp.1; omega))
  have HVC := Lib.hid (value_c w g _ _ nd.cells.2.1 nd.cells.2.2.1)
  have HN : Hid (Reps NT w ps t.kids ∧ (∀ k ∈ t.kids, Wide k) ∧ (∀ k ∈ t.kids, SizeOf.sizeOf k < N)) := Lib.hid ⟨rp, hw2, fun k hk => by have := kid_size hk; omega⟩
  have hmm : ps.length ≤ 1000000000 := by have := rp.1; omega
  clear ih h nd sl rp hwd hw1 hw2 hN
  go_enter Try.func31, Try.ntmps31
  repeat' (first | go_at_call 30 | go_skip | go_guarded | go_step)
  refine HVC.out.mono ?_
  rintro e w1 ⟨rfl, f1⟩
  have H1 := Lib.hid f1
  clear f1
  obtain ⟨c0, hc0⟩ : ∃ c0 : Nat, c0 = (if t.val.isSome then 1 else 0) := ⟨_, rfl⟩
  rw [← hc0] at hpl
  have hc1 : c0 ≤ 1 := by rw [hc0]; split <;> omega
  obtain ⟨has, hhas⟩ : ∃ has, has = t.val.isSome := ⟨_, rfl⟩
  rw [← hhas] at hc0 ⊢
  obtain ⟨val, hval⟩ : ∃ val, val = t.val.getD [] := ⟨_, rfl⟩
  rw [← hval]
  clear hhas hval
  go_simp
  repeat' (go_not_at_if 13; (first | go_skip | go_guarded | go_step))
  have HC := Lib.hid hc0
  clear hc0
  go_cut [3] (fun v3 wx => Hid (v3 = .int .i64 c0 ∧ w1 = wx))
  case first =>
    cases has with
    | true =>
      have hc : c0 = 1 := by have := HC.out; simpa using this
      subst hc
      repeat' (first | go_skip | go_guarded | go_step)
      go_meet
      exact Lib.hid ⟨rfl, rfl⟩
    | false =>
      have hc : c0 = 0 := by have := HC.out; simpa using this
      subst hc
      repeat' (first | go_skip | go_guarded | go_step)
      go_meet
      exact Lib.hid ⟨rfl, rfl⟩
  case rest =>
  obtain ⟨hv3, hwx⟩ := hcut.out
  subst hv3 hwx
  clear hcut
  repeat' (first | go_at_call 33 | go_skip | go_guarded | go_step)
  refine (HKC.out w1 H1.out).mono ?_
  rintro e x4 ⟨v4, rfl, o4, f4⟩
  obtain ⟨A, C, rfl, _, _, hC, hs⟩ := Sl.of_own o4
  obtain ⟨m, hm⟩ : ∃ m, m = ps.length := ⟨_, rfl⟩
  have H4 : Hid (Ext w x4 ∧ Seg x4 A (ptrs ps) ∧ Reps NT x4 ps t.kids ∧ m = ps.length) := Lib.hid ⟨Ext.trans H1.out f4, hs, HN.out.1.ext (Ext.trans H1.out f4), hm⟩
  have hm9 : m ≤ 1000000000 := by omega
  rw [← hm] at ⊢
  clear f4 hs hm o4 hmm
  go_simp
  repeat' (go_not_at_region 6; (first | go_skip | go_guarded | go_step))
  go_loopg [3, 17] m (fun gk v3 v17 wr => ∃ (j c : Nat), v3 = .int .i64 c ∧ v17 = .int .i64 j ∧ j ≤ m ∧ m - j ≤ gk ∧ c = c0 + (belows (t.kids.take j)).length ∧ Hid (Ext x4 wr))
  case atStart => exact ⟨0, c0, rfl, rfl, Nat.zero_le _, by omega, by simp [belows_nil], Lib.hid (Ext.refl _)⟩
  case round =>
    obtain ⟨j, c, rfl, rfl, hjm, hgk, hcc, HI⟩ := hrel
    have hbl := belows_le' (ks := t.kids) j
    rcases Nat.lt_or_ge j m with hlt | hge
    · have d1 : decide (j < m) = true := by simp [hlt]
      obtain ⟨p, hp⟩ := get_of_lt ps (show j < ps.length by have := H4.out.2.2.2; omega)
      obtain ⟨k, hkk⟩ := get_of_lt t.kids (show j < t.kids.length by have := H4.out.2.2.2; have := H4.out.2.2.1.1; omega)
      obtain ⟨b, o, rfl, hcl⟩ := (Seg.below H4.out.2.1 HI.out) (fun e => by have := ptrs_get hp; rw [e] at this; simp at this)
      have hq := hcl j _ (ptrs_get hp)
      have hi1 : (j : Int) < (m : Int) := by omega
      have hbt := belows_take' hkk
      have hbl2 := belows_le' (ks := t.kids) (j + 1)
      have hmem := List.mem_of_getElem? hkk
      have HC := Lib.hid (HI0.out wr p k (HN.out.2.2 k hmem) ((H4.out.2.2.1.2 j p k hp hkk).ext HI.out) (by omega) (fun _ _ => trivial) (HN.out.2.1 k hmem))
      obtain ⟨kl, hkl⟩ : ∃ kl, kl = k.prs.length := ⟨_, rfl⟩
      rw [← hkl] at hbt HC
      have hsum : c + kl ≤ 1000000 := by omega
      have hcast : (c : Int) + (kl : Int) = ((c + kl : Nat) : Int) := by omega
      clear hcl hp hkk hkl hmem
      repeat' (first | go_at_call 31 | go_skip | go_guarded | go_step)
      refine HC.out.mono ?_
      rintro e x5 ⟨rfl, f5⟩
      have H6 := Lib.hid f5
      clear f5
      go_simp
      repeat' (first | go_skip | go_guarded | go_step)
      go_roundg (m - (j + 1))
      case measure => omega
      case rel => exact ⟨j + 1, c + kl, by go_num, by go_num, by omega, Nat.le_refl _, by omega, Lib.hid (Ext.trans HI.out H6.out)⟩
    · obtain rfl : j = m := by omega
      have d1 : decide (j < j) = false := by simp
      repeat' (first | go_skip | go_guarded | go_step)
      go_ret
      refine ⟨?_, Ext.trans H4.out.1 HI.out⟩
      rw [List.take_of_length_le (by have := H4.out.2.2.2; have := H4.out.2.2.1.1; omega)] at hcc
      rw [hpl, ← hcc]; rfl
end Go.Proofs.Ytmpeniboccahdaa
