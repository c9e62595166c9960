/- Contract: the document's Of: the tree of a list that rises. -/
import Derived.Test.YtmpeniboccahdaaUd
namespace Go.Proofs.Ytmpeniboccahdaa
open Go.RowKit Go.QS
set_option linter.unusedVariables false

theorem run_fromU {P : Program} {t e : TypeId} {size : Nat} (ht : P.underlying t = some (.slice e)) (hi : ∃ i z, P.info? e = some i ∧ i.zero = some z ∧ i.size = size ∧ i.bytes = 32 ∧ z.cells.size = size) (A : Option Addr) {n c i : Nat} (hin : i ≤ n) (hnc : n ≤ c) :
    ∃ A2, (∀ w, (Instr.slice t (.slice A n c) (some (.int .i64 (i : Int))) none none).run P w = .ok (.slice A2 (n - i) (c - i)) w) ∧
      ∀ (w : World) (xs : List Value), xs.length = n * size → Seg w A xs → Seg w A2 (xs.drop (i * size)) := by
  obtain ⟨inf, z, hi, hz, hs, hb, hzs⟩ := hi
  refine ⟨if c = i then A else A.map (·.add (i * size)), fun w => ?_, fun w xs hl hs => ?_⟩
  · have h1 : (0 : Int) ≤ (i : Int) := by omega
    have h2 : (i : Int) ≤ (n : Int) := by omega
    simp [Instr.slice, Instr.sliceBounds, Instr.sliceBound, asIntOf, run_underlying ht, sizeOf, typeInfo, hi, hs, hin]
  · by_cases h : c = i
    · have : xs.drop (i * size) = [] := List.drop_eq_nil_of_le (by rw [hl]; exact Nat.mul_le_mul_right _ (by omega))
      rw [this]; exact Seg.nil _ _
    · rw [if_neg h]
      intro hne
      obtain ⟨b, o, hA, hc⟩ := hs (fun e => hne (by simp [e]))
      subst hA
      have := Seg.drop (w := w) (b := b) (o := o) hs (i * size)
      obtain ⟨b', o', hA', hc'⟩ := this hne
      cases hA'
      exact ⟨b, o + i * size, by simp [Addr.add_lit], hc'⟩

theorem rise_ne {p : Pr} {r : List Pr} (h : Rise (p :: r)) : ∀ q ∈ r, q.1 ≠ [] := by
  intro q hq e
  have := (rise_cons.1 h).1 q hq
  rw [e] at this
  exact absurd this (List.not_lt_nil _)

set_option maxRecDepth 100000 in
set_option maxHeartbeats 2000000 in
theorem rof_c (N : Nat) (hN : N ≤ 1000000) (w : World) (v : Value) (l : List Pr) (h : PS w v l) (hr : Rise l) (hk : ∀ p ∈ l, p.1.length ≤ N) (h9 : l.length ≤ 1000000) :
    Calls Try.prog 57 #[v] w fun e w' => ∃ q t, e = .returned (ptr q) ∧ RepD DT DP w.heap.size w' q t ∧ t.lab = [] ∧ Kd N t.kids ∧ t.prs = l ∧ Ext w w' := by
  have HG := Lib.hid (groups_c N hN)
  have H := Lib.hid h
  have HL := Lib.hid (And.intro hr hk)
  obtain ⟨A, C, rfl, hl, hn, hC, hs⟩ := h
  have hT7 : TreeAt DT (w.alloc (.cells #[str [], .bool false, str [], .slice none 0 0] DT)) w.heap.size [] none (.slice none 0 0) := TreeAt.new (lab := []) (val := none) DT w rfl
  have hE7 : Ext w (w.alloc (.cells #[str [], .bool false, str [], .slice none 0 0] DT)) := (Ext.refl w).alloc (Nat.le_refl _) _
  obtain ⟨w7, hw7'⟩ : ∃ w7, w7 = w.alloc (.cells #[str [], .bool false, str [], .slice none 0 0] DT) := ⟨_, rfl⟩
  obtain ⟨g7, hg7'⟩ : ∃ g, g = w.heap.size := ⟨_, rfl⟩
  have hg7 : w.heap.size ≤ g7 := by omega
  have hw7 : g7 < w7.heap.size := by rw [hw7', hg7']; simp
  rw [← hw7', ← hg7'] at hT7
  rw [← hw7'] at hE7
  have hsz7 : w7.heap.size = w.heap.size + 1 := by rw [hw7']; simp
  have H7 := Lib.hid (And.intro hT7 hE7)
  have HW : Hid (w.alloc (.cells #[Value.string ⟨#[]⟩, Value.bool false, Value.string ⟨#[]⟩, Value.slice none 0 0] DT) = w7 ∧ w.heap.size = g7) := Lib.hid ⟨hw7'.symm, hg7'.symm⟩
  rcases l with _ | ⟨⟨k0, u0⟩, r⟩
  · clear hl hr hk hs hT7 hE7 hw7' hg7' hsz7
    go_enter Try.func57, Try.ntmps57
    repeat' (first | go_at_call 79 | go_skip | go_guarded | go_step)
    rw [HW.out.1, HW.out.2]
    refine (HG.out w7 _ [] (H.out.below H7.out.2) HL.out.1 (fun p hp => by cases hp) (by simp)).mono ?_
    rintro e w9 ⟨v9, qs, ks, rfl, o9, r9, k9, b9, f9⟩
    obtain ⟨A9, c9, rfl⟩ := own_slice' o9
    have T9 := H7.out.1.ext f9
    obtain ⟨s0, s1, s2, s3⟩ := T9.cells
    have sf := T9.free
    have H9 := Lib.hid (And.intro o9 (And.intro r9 (And.intro k9 (And.intro b9 (And.intro f9 T9)))))
    have hg9 := T9.lt
    clear o9 r9 k9 b9 f9 T9
    go_simp
    repeat' (first | go_skip | go_guarded | go_step)
    go_ret
    obtain ⟨o9, r9, k9, b9, f9, T9⟩ := H9.out
    refine ⟨g7, RT.node [] none ks, rfl, RepD.mk (t := RT.node [] none ks) (T9.set3 _) hg7 (own_base' (row_set o9 ⟨g7, 3, none⟩ _ hw7) H7.out.2.size) r9.1 (fun jj p k h1 h2 => repD_mono (repD_set (r9.2 jj p k h1 h2) ⟨g7, 3, none⟩ _ hw7) H7.out.2.size), rfl, k9, ?_, (H7.out.2.trans f9).setCell hg7 _⟩
    rw [below_eq]
    show ownP none ++ belows ks = _
    rw [b9]; rfl
  · obtain ⟨n, hn2⟩ : ∃ n, n = r.length := ⟨_, rfl⟩
    obtain ⟨b, o, rfl, hq1, hq2⟩ := seg_pair hs (i := 0) (p := (k0, u0)) rfl
    simp only [Nat.zero_mul, Nat.add_zero, Nat.zero_add] at hq1 hq2
    have hq1' := (hE7.cell (World.block_lt_of_cell? w _ hq1)).trans hq1
    have hq2' := (hE7.cell (World.block_lt_of_cell? w _ hq2)).trans hq2
    simp only [List.length_cons] at hn h9 ⊢
    rw [← hn2] at hn h9 ⊢
    have d1 : (0 : Int) < (n : Int) + 1 := by omega
    rcases k0 with _ | ⟨x0, k0⟩
    · obtain ⟨A2, hrun, hseg⟩ := run_fromU Try.underlying28 infoRU (some ⟨b, o, none⟩) (n := n + 1) (c := C) (i := 1) (by omega) hn
      have hrun' : ∀ w, (Instr.slice 28 (.slice (some ⟨b, o, none⟩) (n + 1) C) (some (.int .i64 1)) none none).run Try.prog w = .ok (.slice A2 n (C - 1)) w := fun w => hrun w
      have hne := rise_ne hr
      have hT8 := hT7.set12 u0
      have hE8 : Ext w ((w7.setCell ⟨g7, 1, none⟩ (.bool true)).setCell ⟨g7, 2, none⟩ (str u0)) := (hE7.setCell hg7 _).setCell hg7 _
      have hps : PS ((w7.setCell ⟨g7, 1, none⟩ (.bool true)).setCell ⟨g7, 2, none⟩ (str u0)) (.slice A2 n (C - 1)) r := by
        refine ⟨A2, C - 1, by rw [hn2], by rw [flat_length], by omega, by omega, ?_⟩
        have := hseg _ (flat (([], u0) :: r)) (by rw [flat_length, List.length_cons]; omega) (hs.below hE8)
        rwa [Nat.one_mul, show (flat (([], u0) :: r)).drop 2 = flat r from rfl] at this
      obtain ⟨c0, c1, c2, c3⟩ := hT7.cells
      have cf := hT7.free
      obtain ⟨w8, hw8⟩ : ∃ w8, w8 = (w7.setCell ⟨g7, 1, none⟩ (.bool true)).setCell ⟨g7, 2, none⟩ (str u0) := ⟨_, rfl⟩
      rw [← hw8] at hT8 hE8 hps
      have hsz8 : w8.heap.size = w7.heap.size := by rw [hw8]; simp
      have hw8' : g7 < w8.heap.size := by omega
      have H8 := Lib.hid (And.intro hT8 (And.intro hE8 hps))
      have HW8 : Hid ((w7.setCell ⟨g7, 1, none⟩ (.bool true)).setCell ⟨g7, 2, none⟩ (Value.string (bs u0)) = w8) := Lib.hid hw8.symm
      have HNE : Hid ((∀ q ∈ r, q.1 ≠ []) ∧ n = r.length) := Lib.hid ⟨hne, hn2⟩
      clear hl hr hk hs hT7 hE7 hw7' hg7' hseg hrun hne hT8 hE8 hps hw8 hsz8 hn2 hq1 hq2 hsz7
      replace hrun := hrun'
      clear hrun'
      go_enter Try.func57, Try.ntmps57
      repeat' (go_not_at_region 2; (first | go_skip | go_guarded | go_step))
      rw [HW.out.1, HW.out.2]
      repeat' (first | go_at_call 79 | go_skip | go_guarded | go_step)
      rw [HW8.out]
      refine (HG.out w8 _ r H8.out.2.2 (rise_cons.1 HL.out.1).2 (fun p hp => ⟨HNE.out.1 p hp, HL.out.2 p (List.mem_cons_of_mem _ hp)⟩) (by rw [← HNE.out.2]; omega)).mono ?_
      rintro e w9 ⟨v9, qs, ks, rfl, o9, r9, k9, b9, f9⟩
      obtain ⟨A9, c9, rfl⟩ := own_slice' o9
      have T9 := H8.out.1.ext f9
      obtain ⟨s0, s1, s2, s3⟩ := T9.cells
      have sf := T9.free
      have H9 := Lib.hid (And.intro o9 (And.intro r9 (And.intro k9 (And.intro b9 (And.intro f9 T9)))))
      have hg9 := T9.lt
      clear o9 r9 k9 b9 f9 T9
      go_simp
      repeat' (first | go_skip | go_guarded | go_step)
      go_ret
      obtain ⟨o9, r9, k9, b9, f9, T9⟩ := H9.out
      refine ⟨g7, RT.node [] (some u0) ks, rfl, RepD.mk (t := RT.node [] (some u0) ks) (T9.set3 _) hg7 (own_base' (row_set o9 ⟨g7, 3, none⟩ _ hw8') H8.out.2.1.size) r9.1 (fun jj p k h1 h2 => repD_mono (repD_set (r9.2 jj p k h1 h2) ⟨g7, 3, none⟩ _ hw8') H8.out.2.1.size), rfl, k9, ?_, (H8.out.2.1.trans f9).setCell hg7 _⟩
      rw [below_eq]
      show ownP (some u0) ++ belows ks = _
      rw [b9]; rfl
    · have hne : ∀ q ∈ ((x0 :: k0, u0) :: r), q.1 ≠ [] := by
        intro q hq
        rcases List.mem_cons.1 hq with rfl | hq
        · simp
        · exact rise_ne hr q hq
      have HNE : Hid ((∀ q ∈ ((x0 :: k0, u0) :: r), q.1 ≠ []) ∧ n = r.length) := Lib.hid ⟨hne, hn2⟩
      clear hl hr hk hs hT7 hE7 hw7' hg7' hne hn2 hq1 hq2 hsz7
      go_enter Try.func57, Try.ntmps57
      repeat' (go_not_at_region 2; (first | go_skip | go_guarded | go_step))
      rw [HW.out.1, HW.out.2]
      repeat' (first | go_at_call 79 | go_skip | go_guarded | go_step)
      refine (HG.out w7 _ ((x0 :: k0, u0) :: r) (by have := H.out.below H7.out.2; rw [List.length_cons, ← HNE.out.2] at this; exact this) HL.out.1 (fun p hp => ⟨HNE.out.1 p hp, HL.out.2 p hp⟩) (by rw [List.length_cons, ← HNE.out.2]; omega)).mono ?_
      rintro e w9 ⟨v9, qs, ks, rfl, o9, r9, k9, b9, f9⟩
      obtain ⟨A9, c9, rfl⟩ := own_slice' o9
      have T9 := H7.out.1.ext f9
      obtain ⟨s0, s1, s2, s3⟩ := T9.cells
      have sf := T9.free
      have H9 := Lib.hid (And.intro o9 (And.intro r9 (And.intro k9 (And.intro b9 (And.intro f9 T9)))))
      have hg9 := T9.lt
      clear o9 r9 k9 b9 f9 T9
      go_simp
      repeat' (first | go_skip | go_guarded | go_step)
      go_ret
      obtain ⟨o9, r9, k9, b9, f9, T9⟩ := H9.out
      refine ⟨g7, RT.node [] none ks, rfl, RepD.mk (t := RT.node [] none ks) (T9.set3 _) hg7 (own_base' (row_set o9 ⟨g7, 3, none⟩ _ hw7) H7.out.2.size) r9.1 (fun jj p k h1 h2 => repD_mono (repD_set (r9.2 jj p k h1 h2) ⟨g7, 3, none⟩ _ hw7) H7.out.2.size), rfl, k9, ?_, (H7.out.2.trans f9).setCell hg7 _⟩
      rw [below_eq]
      show ownP none ++ belows ks = _
      rw [b9]; rfl
end Go.Proofs.Ytmpeniboccahdaa
