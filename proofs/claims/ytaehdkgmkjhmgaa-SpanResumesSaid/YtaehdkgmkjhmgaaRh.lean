/- Contract: put, without a token: at a node itself; a new leaf. -/
import Derived.Test.YtaehdkgmkjhmgaaRg
import Derived.Test.YtaehdkgmkjhmgaaRk
import Derived.Deep.DeepCutAuto
namespace Go.Proofs.Ytaehdkgmkjhmgaa
open Go.RowKit Go.QS
set_option linter.unusedVariables false

set_option maxRecDepth 100000 in
theorem put_same (w : World) (g : Nat) (t : RT) (v : List UInt8) (h : Rep NT w g t) (hv : t.val = some v) :
    Calls Try.prog 67 #[ptr g, .pointer none, str [], str v] w fun e w' => e = .returned (.tuple #[ptr g, .bool false, .bool false]) ∧ Ext w w' := by
  obtain ⟨kv, ow, ps, nd, sl, rp⟩ := h.open
  rw [hv] at nd
  obtain ⟨c0, c1, c2, c3, c4⟩ := nd.cells
  simp only [Option.isSome_some, Option.getD_some] at c1 c2
  clear h nd sl rp hv c0 c3 c4
  have he : (v == v) = true := by simp
  go_enter Try.func67, Try.ntmps67
  repeat' (first | go_skip | go_guarded | go_step)
  go_ret3
  exact ⟨rfl, Ext.refl _⟩

set_option maxRecDepth 100000 in
theorem put_here (w : World) (g : Nat) (t : RT) (v : List UInt8) (h : Rep NT w g t) (hv : t.val ≠ some v) (h9 : t.kids.length ≤ 1000000000) :
    Calls Try.prog 67 #[ptr g, .pointer none, str [], str v] w fun e w' => ∃ g', e = .returned (.tuple #[ptr g', .bool t.val.isNone, .bool true]) ∧ Ext w w' ∧ w.heap.size ≤ g' ∧ Rep NT w' g' (.node t.lab (some v) t.kids) := by
  obtain ⟨kv, ow, ps, nd, sl, rp⟩ := h.open
  obtain ⟨lab, val, kids⟩ := t
  simp only [RT.lab_node, RT.val_node, RT.kids_node] at hv h9 nd rp ⊢
  obtain ⟨c0, c1, c2, c3, c4⟩ := nd.cells
  have hg := nd.lt
  have H0 : Hid (_ ∧ _ ∧ _) := Lib.hid ⟨nd, sl, rp⟩
  have hps : ps.length ≤ 1000000000 := by have := rp.1; omega
  clear h nd sl rp c0 c3 c4
  have fin : ∀ (x1 x3 : World) (g1 : Nat) (kv1 : Value), Ext w x1 → NodeAt NT x1 g1 lab val kv1 none → x1.ownsRow (g1 + 1) PT 1 kv1 ps.length (ptrs ps) → w.heap.size ≤ g1 → Ext ((x1.setCell ⟨g1, 1, none⟩ (.bool true)).setCell ⟨g1, 2, none⟩ (str v)) x3 → Ext w x3 ∧ Rep NT x3 g1 (.node lab (some v) kids) := by
    intro x1 x3 g1 kv1 E1 n1 r1 hg1 E3
    obtain ⟨nd, sl, rp⟩ := H0.out
    have E2 := (E1.setCell (p := ⟨g1, 1, none⟩) hg1 (.bool true)).setCell (p := ⟨g1, 2, none⟩) hg1 (str v)
    exact ⟨Ext.trans E2 E3, Rep.make (t := .node lab (some v) kids) ((n1.set12 true v).ext E3) ((Sl.of_own (row_set (row_set r1 _ _ (Nat.lt_succ_self _)) _ _ (Nat.lt_succ_self _))).below E3) (rp.ext (Ext.trans E2 E3))⟩
  have FIN := Lib.hid fin
  clear fin
  cases val with
  | none =>
    simp only [Option.isSome_none, Option.getD_none] at c1 c2
    clear hv
    go_enter Try.func67, Try.ntmps67
    repeat' (go_not_at_region 4; (first | go_skip | go_guarded | go_step))
    go_region_held3 (fun w' => w'.cell? ⟨g, 1, none⟩ = some (.bool false))
      (first | exact (Below.cell (p := ⟨g, 1, none⟩) k3.out hg).trans c1 | exact (Below.cell (p := ⟨g, 1, none⟩) k1.out hg).trans c1 | exact (Below.cell (p := ⟨g, 1, none⟩) (below_drewN (Ext.refl w) _) hg).trans c1 | exact c1)
      (first
        | (go_at_call 81; refine (own_c _ g lab none kv ow ps (H0.out.1.ext (Ext.refl w).drew) (H0.out.2.1.below (Ext.refl w).drew) hps).mono ?_; rintro e x1 ⟨g1, kv1, rfl, f1, n1, r1, hg1⟩; have k1 : Hid (Ext w x1) := Lib.hid (Ext.trans (Ext.refl w).drew f1))
        | (go_at_call 82; refine (valued_c _ _ _ _ _ n1.cells.2.1 n1.cells.2.2.1 (n1.free 1) (n1.free 2)).mono ?_; rintro e x3 ⟨rfl, f3⟩; have kk := FIN.out x1 x3 g1 kv1 k1.out n1 r1 hg1 f3; have k3 := Lib.hid kk.1; have rr := Lib.hid kk.2))
    repeat' go_step
    go_ret3
    exact ⟨_, rfl, k3.out, hg1, rr.out⟩
  | some u =>
    simp only [Option.isSome_some, Option.getD_some] at c1 c2
    have he : (u == v) = false := by
      rw [beq_eq_false_iff_ne]; intro e; exact hv (by rw [e])
    clear hv
    go_enter Try.func67, Try.ntmps67
    repeat' (go_not_at_region 4; (first | go_skip | go_guarded | go_step))
    go_region_held3 (fun w' => w'.cell? ⟨g, 1, none⟩ = some (.bool true))
      (first | exact (Below.cell (p := ⟨g, 1, none⟩) k3.out hg).trans c1 | exact (Below.cell (p := ⟨g, 1, none⟩) k1.out hg).trans c1 | exact (Below.cell (p := ⟨g, 1, none⟩) (below_drewN (Ext.refl w) _) hg).trans c1 | exact c1)
      (first
        | (go_at_call 81; refine (own_c _ g lab (some u) kv ow ps (H0.out.1.ext (Ext.refl w).drew) (H0.out.2.1.below (Ext.refl w).drew) hps).mono ?_; rintro e x1 ⟨g1, kv1, rfl, f1, n1, r1, hg1⟩; have k1 : Hid (Ext w x1) := Lib.hid (Ext.trans (Ext.refl w).drew f1))
        | (go_at_call 82; refine (valued_c _ _ _ _ _ n1.cells.2.1 n1.cells.2.2.1 (n1.free 1) (n1.free 2)).mono ?_; rintro e x3 ⟨rfl, f3⟩; have kk := FIN.out x1 x3 g1 kv1 k1.out n1 r1 hg1 f3; have k3 := Lib.hid kk.1; have rr := Lib.hid kk.2))
    repeat' go_step
    go_ret3
    exact ⟨_, rfl, k3.out, hg1, rr.out⟩
end Go.Proofs.Ytaehdkgmkjhmgaa
