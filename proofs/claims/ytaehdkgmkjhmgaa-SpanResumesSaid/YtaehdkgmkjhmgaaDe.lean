/- Contract: a cursor's Copy. -/
import Derived.Test.YtaehdkgmkjhmgaaDg
namespace Go.Proofs.Ytaehdkgmkjhmgaa
open Go.RowKit Go.QS
set_option linter.unusedVariables false

set_option maxRecDepth 100000 in
theorem clone_w (w : World) (v : Value) (l : List Wk) (h : Sl w 3 v l.length (flatW l)) (h9 : l.length ≤ 1000000) :
    Calls Try.prog 64 #[v] w fun e w' => ∃ v', e = .returned v' ∧ w'.ownsRow w.heap.size WT 3 v' l.length (flatW l) ∧ Ext w w' := by
  obtain ⟨A, c, rfl, hl, hn, hc, hs⟩ := h
  cases A with
  | none =>
    have hl0 : l = [] := by
      cases l with
      | nil => rfl
      | cons p l => obtain ⟨b, o, h, _⟩ := hs (by simp [flatW, encW]); cases h
    subst hl0
    have hnil := fun w : World => Lib.run_eql_slice_nil (P := Try.prog) w 82 WT none 0 c 0 0 Try.underlying82
    go_enter Try.func64, Try.ntmps64
    repeat' go_step
    go_ret
    exact ⟨_, rfl, World.ownsRow_nil _ _ _ _, Ext.refl _⟩
  | some a =>
    have hnil := fun w : World => Lib.run_eql_slice_nil (P := Try.prog) w 82 WT (some a) l.length c 0 0 Try.underlying82
    go_enter Try.func64, Try.ntmps64
    repeat' (first | (at_builtin; refine wpList_appE (W := w) rfl (.tmp 5) (.tmp 6) _ rfl WT 3 32 Try.underlying82 infoW (by decide) _ 0 [] rfl (own_lit [] 0 (by decide) rfl (Nat.le_refl _)) ((Ext.refl w).alloc (Nat.le_refl _) _) _ _ c (flatW l) rfl hl (hs.alloc _) (flatW_one _) (by unfold maxLen; omega) (by omega) ?_; intro v1 w1 hown hb) | go_step)
    go_ret
    refine ⟨_, rfl, ?_, hb⟩
    simpa using hown

set_option maxRecDepth 100000 in
set_option maxHeartbeats 1000000 in
theorem copy_c (W0 w : World) (c : Nat) (V : Value) (cs : List Wk) (st : List Wn) (s : Sp) (back : Bool) (h : CurAt W0 w c V cs st s back) (hc9 : cs.length ≤ 1000000) :
    Calls Try.prog 30 #[ptr c] w fun e w' => ∃ d V', e = .returned (ptr d) ∧ CurAt W0 w' d V' cs st s back ∧ Ext w w' ∧ w.heap.size ≤ d := by
  have hH := Lib.hid h
  obtain ⟨A, C, rfl⟩ := own_slice h.row
  have hcl := heap_lt h.cell
  have hcc : ∀ x : World, Ext w x → x.cell? ⟨c, 0, none⟩ = some (.slice A cs.length C) ∧ x.cell? ⟨c, 1, none⟩ = some (str s.f) ∧ x.cell? ⟨c, 2, none⟩ = some (str s.t) ∧ x.cell? ⟨c, 3, none⟩ = some (.bool s.o) ∧ x.cell? ⟨c, 4, none⟩ = some (.bool back) := fun x hx => by
    have := box_ext hH.out.cell hx
    simp [World.cell?, this]
  have HCC := Lib.hid hcc
  obtain ⟨c0, c1, c2, c3, c4⟩ := hcc w (Ext.refl _)
  clear h hcc
  go_enter Try.func30, Try.ntmps30
  repeat' (first | go_at_call 64 | go_skip | go_guarded | go_step)
  obtain ⟨x1, hx1⟩ : ∃ x1, x1 = w.alloc (.cells #[.slice A cs.length C, str s.f, str s.t, .bool s.o, .bool back] CT) := ⟨_, rfl⟩
  obtain ⟨d, hd⟩ : ∃ d, d = w.heap.size := ⟨_, rfl⟩
  have hE1 : Ext w x1 := by rw [hx1]; exact (Ext.refl _).alloc (Nat.le_refl _) _
  have hb1 := heap_new w (.cells #[.slice A cs.length C, str s.f, str s.t, .bool s.o, .bool back] CT)
  have hs1 : x1.heap.size = d + 1 := by rw [hx1, hd]; simp
  rw [← hx1, ← hd] at hb1
  have hx1' : w.alloc (.cells #[.slice A cs.length C, Value.string (bs s.f), Value.string (bs s.t), .bool s.o, .bool back] 84) = x1 := hx1.symm
  rw [hx1', ← hd]
  have H1 : Hid (Ext w x1 ∧ x1.heap[d]? = some (.cells #[.slice A cs.length C, str s.f, str s.t, .bool s.o, .bool back] CT (0, 0)) ∧ x1.heap.size = d + 1 ∧ w.heap.size ≤ d) := Lib.hid ⟨hE1, hb1, hs1, by omega⟩
  clear hx1 hd hE1 hb1 hs1 hx1' c0 c1 c2 c3 c4
  refine (clone_w x1 _ cs ((Sl.of_own hH.out.row).below H1.out.1) hc9).mono ?_
  rintro e w2 ⟨v2, rfl, r2, f2⟩
  rw [H1.out.2.2.1] at r2
  obtain ⟨A2, C2, rfl⟩ := own_slice r2
  have hb2 := box_ext H1.out.2.1 f2
  have d0 : w2.cell? ⟨d, 0, none⟩ = some (.slice A cs.length C) := by simp [World.cell?, hb2]
  have df := box_free hb2 0
  have H2 : Hid (Ext w w2 ∧ w2.heap[d]? = some (.cells #[.slice A cs.length C, str s.f, str s.t, .bool s.o, .bool back] CT (0, 0)) ∧ w2.ownsRow (d + 1) WT 3 (.slice A2 cs.length C2) cs.length (flatW cs)) := Lib.hid ⟨Ext.trans H1.out.1 f2, hb2, r2⟩
  have hdl := heap_lt hb2
  clear r2 f2 hb2
  go_simp
  repeat' (first | go_skip | go_guarded | go_step)
  go_ret
  have E3 : Ext w (w2.setCell ⟨d, 0, none⟩ (.slice A2 cs.length C2)) := H2.out.1.setCell H1.out.2.2.2 _
  refine ⟨d, _, rfl, ⟨heap_set H2.out.2.1 0 _, row_set H2.out.2.2 _ _ (Nat.lt_succ_self _), hH.out.wks, Ext.trans hH.out.ext E3, Nat.le_trans hH.out.ext.size H1.out.2.2.2⟩, E3, H1.out.2.2.2⟩
end Go.Proofs.Ytaehdkgmkjhmgaa
