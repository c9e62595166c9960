/- Texts joined. -/
import Derived.Test.YtbplddiopajocaaRf
import Derived.Test.YtbplddiopajocaaMc
import Derived.Deep.DeepCutAuto
set_option linter.unusedVariables false
set_option linter.unusedSimpArgs false
/- Contract: a branch, cut where its label and a key part. -/
namespace Go.Proofs.Ytbplddiopajocaa
open Go.RowKit Go.QS
set_option linter.unusedVariables false

theorem cell_far {w : World} {g h i j : Nat} {v u : Value} (hne : h ≠ g) (hc : w.cell? ⟨g, j, none⟩ = some u) : (w.setCell ⟨h, i, none⟩ v).cell? ⟨g, j, none⟩ = some u := by
  rw [World.cell?_setCell_other _ _ _ _ (by intro e; cases e; exact hne rfl)]; exact hc

theorem NodeAt.far {T : TypeId} {w : World} {g h i : Nat} {lab : List UInt8} {val : Option (List UInt8)} {kv v : Value} {ow : Option Addr} (n : NodeAt T w g lab val kv ow) (hne : h ≠ g) : NodeAt T (w.setCell ⟨h, i, none⟩ v) g lab val kv ow :=
  (Below.heap_setCell w ⟨h, i, none⟩ v g (fun e => hne e.symm)).trans n

set_option maxRecDepth 100000 in
theorem split_c (w : World) (g : Nat) (t : RT) (k : Nat) (h : Rep NT w g t) (hk : k < t.lab.length) (hl : t.lab.length ≤ 1000000000) (h9 : t.kids.length ≤ 1000000000) :
    Calls Try.prog 70 #[ptr g, .pointer none, .int .i64 k] w fun e w' => ∃ g', e = .returned (ptr g') ∧ Ext w w' ∧ w.heap.size ≤ g' ∧ Rep NT w' g' (tsplit t k) := by
  obtain ⟨kv, ow, ps, nd, sl, rp⟩ := h.open
  obtain ⟨lab, val, kids⟩ := t
  simp only [RT.lab_node, RT.val_node, RT.kids_node] at hk hl h9 nd rp
  have c0 := nd.cells.1
  have hg := nd.lt
  have H0 : Hid (_ ∧ _ ∧ _) := Lib.hid ⟨nd, sl, rp⟩
  have hps : ps.length ≤ 1000000000 := by have := rp.1; omega
  have hk1 : (k : Int) ≤ (lab.length : Int) := by omega
  have hk0 : (0 : Int) ≤ (k : Int) := by omega
  have h1 : NodeAt NT (w.alloc (.cells #[.string ⟨#[]⟩, .bool false, .string ⟨#[]⟩, .slice none 0 0, .pointer none] NT)).drew w.heap.size [] none (.slice none 0 0) none := (NodeAt.new (lab := []) (val := none) (kv := .slice none 0 0) (ow := none) NT w rfl).ext (Ext.refl _).drew
  have H1 := Lib.hid h1
  clear h nd sl rp h1
  go_enter Try.func70, Try.ntmps70
  repeat' go_step
  go_region_held3 (fun w' => w'.cell? ⟨g, 0, none⟩ = some (str lab))
    (first | exact (f1.cell (p := ⟨g, 0, none⟩) (by simp; omega)).trans (by assumption) | exact cell_far (by omega) (by assumption) | exact (((Ext.refl w).alloc (Nat.le_refl _) _).drew.cell (p := ⟨g, 0, none⟩) (by simp; omega)).trans c0 | exact c0)
    (first
      | (go_at_call 64; refine (own_c _ _ [] none (.slice none 0 0) none [] H1.out (Sl.nil _ _) (by simp)).mono ?_; rintro e x1 ⟨g1, kv1, rfl, f1, n1, r1, hg1⟩; have hgl : w.heap.size < g1 := by simp at hg1; omega)
      | (go_at_call 89; refine (named_c _ _ _ _ n1.cells.1 (n1.free 0)).mono ?_; rintro e x2 ⟨rfl, rfl⟩))
  obtain ⟨K1, C1, rfl⟩ := own_slice r1
  have n2 := n1.set0 (lab.take k)
  have E1 : Ext w x1 := ((((Ext.refl w).alloc (Nat.le_refl _) _).drew).trans (f1.mono (by simp)))
  have E2 : Ext w (x1.setCell ⟨g1, 0, none⟩ (str (List.take k lab))) := E1.setCell (Nat.le_of_lt hgl) _
  have hg1x := n1.lt
  have hg2 : g1 < (x1.setCell ⟨g1, 0, none⟩ (str (List.take k lab))).heap.size := n2.lt
  obtain ⟨x2, hx2⟩ : ∃ x2, x2 = x1.setCell ⟨g1, 0, none⟩ (str (List.take k lab)) := ⟨_, rfl⟩
  rw [← hx2] at n2 E2 hg2 ⊢
  have H2 := Lib.hid (And.intro n2 E2)
  clear n2 E2 E1 hx2 f1 n1 r1 hg1 hg1x H1
  repeat' (first | go_skip | go_guarded | go_step)
  refine (own_c _ g lab val kv ow ps (H0.out.1.ext H2.out.2) (H0.out.2.1.below H2.out.2) hps).mono ?_
  rintro e x3 ⟨g2, kv2, rfl, f3, n3, r3, hg3⟩
  have d0 := n3.cells.1
  have hf := n3.free
  have hlt3 := n3.lt
  have u3 := H2.out.1.ext f3
  have uf := u3.free
  obtain ⟨_, _, _, u33, _⟩ := u3.cells
  have hle := f3.size
  have H3 := Lib.hid (And.intro f3 (And.intro n3 (And.intro r3 u3)))
  clear f3 n3 r3 u3
  have d03 : x3.cell? ⟨g1, 3, none⟩ = some (.slice K1 ([] : List Nat).length C1) := u33
  have hne : g2 ≠ g1 := by omega
  have hl1 : g1 < x3.heap.size := by omega
  go_simp
  repeat' (first | go_at_call 89 | go_skip | go_guarded | go_step)
  have e1 : List.take (lab.length - k) (List.drop k lab) = lab.drop k := List.take_of_length_le (by simp)
  refine (named_c _ _ _ _ d0 (hf 0)).mono ?_
  rintro e x4 ⟨rfl, hx4⟩
  rw [e1] at hx4
  have c4 : x4.cell? ⟨g1, 3, none⟩ = some (.slice K1 ([] : List Nat).length C1) := by rw [hx4]; exact cell_far hne d03
  have f4 : x4.frozen? ⟨g1, 3, none⟩ = false := by rw [hx4, World.frozen?_setCell]; exact uf 3
  have l4 : g1 < x4.heap.size := by rw [hx4]; simpa using hl1
  have H4 := Lib.hid hx4
  clear hx4 d0 hf uf u33 d03
  go_simp
  repeat' (first | go_skip | go_guarded | go_step)
  go_ret
  obtain ⟨nd, sl, rp⟩ := H0.out
  obtain ⟨n2, E2⟩ := H2.out
  obtain ⟨f3, n3, r3, u3⟩ := H3.out
  have hx4 := H4.out
  have hw2 := E2.size
  have hE3 : Ext w x3 := Ext.trans E2 f3
  have hE4 : Ext w x4 := by rw [hx4]; exact hE3.setCell (show w.heap.size ≤ g2 by omega) _
  have hE5 := (hE4.setCell (p := ⟨g1, 3, none⟩) (Nat.le_of_lt hgl) (.slice (some ⟨x4.heap.size, 0, none⟩) 1 1)).alloc (by simpa using hE4.size) (.cells #[ptr g2] 26)
  have m1 : NodeAt NT x4 g1 (lab.take k) none (Value.slice K1 ([] : List Nat).length C1) none := by rw [hx4]; exact NodeAt.far u3 hne
  have m2 : NodeAt NT x4 g2 (lab.drop k) val kv2 none := by rw [hx4]; exact n3.set0 _
  have m1' := (m1.set3 (.slice (some ⟨x4.heap.size, 0, none⟩) 1 1)).ext ((Ext.refl _).alloc (Nat.le_refl _) (.cells #[ptr g2] 26))
  have m2' := (NodeAt.far (i := 3) (v := .slice (some ⟨x4.heap.size, 0, none⟩) 1 1) m2 (fun e => hne e.symm)).ext ((Ext.refl _).alloc (Nat.le_refl _) (.cells #[ptr g2] 26))
  have rr : x4.ownsRow (g2 + 1) PT 1 kv2 ps.length (ptrs ps) := by rw [hx4]; exact row_set r3 _ _ (Nat.lt_succ_self _)
  have rr2 := (row_set rr ⟨g1, 3, none⟩ (.slice (some ⟨x4.heap.size, 0, none⟩) 1 1) (show g1 < g2 + 1 by omega)).alloc (.cells #[ptr g2] 26)
  have hsg : Sl ((x4.setCell ⟨g1, 3, none⟩ (.slice (some ⟨x4.heap.size, 0, none⟩) 1 1)).alloc (.cells #[ptr g2] 26)) 1 (.slice (some ⟨x4.heap.size, 0, none⟩) 1 1) [g2].length (ptrs [g2]) :=
    ⟨_, _, rfl, rfl, Nat.le_refl _, by decide, Seg.new _ [ptr g2] _ (by simp)⟩
  have kd : Rep NT ((x4.setCell ⟨g1, 3, none⟩ (.slice (some ⟨x4.heap.size, 0, none⟩) 1 1)).alloc (.cells #[ptr g2] 26)) g2 (RT.node (lab.drop k) val kids) :=
    Rep.make m2' (Sl.of_own rr2) (rp.ext hE5)
  refine ⟨g1, rfl, hE5, Nat.le_of_lt hgl, Rep.make (t := tsplit (RT.node lab val kids) k) (ps := [g2]) m1' hsg ⟨rfl, ?_⟩⟩
  intro j p q h1 h2
  match j with
  | 0 =>
    simp [tsplit] at h1 h2
    subst h1 h2
    exact kd
  | j + 1 => simp at h1
end Go.Proofs.Ytbplddiopajocaa
/- Contract: put, without a token: at a node itself; a new leaf. -/
namespace Go.Proofs.Ytbplddiopajocaa
open Go.RowKit Go.QS
set_option linter.unusedVariables false

set_option maxRecDepth 100000 in
theorem put_same (w : World) (g : Nat) (t : RT) (v : List UInt8) (h : Rep NT w g t) (hv : t.val = some v) :
    Calls Try.prog 44 #[ptr g, .pointer none, str [], str v] w fun e w' => e = .returned (.tuple #[ptr g, .bool false, .bool false]) ∧ Ext w w' := by
  obtain ⟨kv, ow, ps, nd, sl, rp⟩ := h.open
  rw [hv] at nd
  obtain ⟨c0, c1, c2, c3, c4⟩ := nd.cells
  simp only [Option.isSome_some, Option.getD_some] at c1 c2
  clear h nd sl rp hv c0 c3 c4
  have he : (v == v) = true := by simp
  go_enter Try.func44, Try.ntmps44
  repeat' (first | go_skip | go_guarded | go_step)
  go_ret3
  exact ⟨rfl, Ext.refl _⟩

set_option maxRecDepth 100000 in
theorem put_here (w : World) (g : Nat) (t : RT) (v : List UInt8) (h : Rep NT w g t) (hv : t.val ≠ some v) (h9 : t.kids.length ≤ 1000000000) :
    Calls Try.prog 44 #[ptr g, .pointer none, str [], str v] w fun e w' => ∃ g', e = .returned (.tuple #[ptr g', .bool t.val.isNone, .bool true]) ∧ Ext w w' ∧ w.heap.size ≤ g' ∧ Rep NT w' g' (.node t.lab (some v) t.kids) := by
  obtain ⟨kv, ow, ps, nd, sl, rp⟩ := h.open
  obtain ⟨lab, val, kids⟩ := t
  simp only [RT.lab_node, RT.val_node, RT.kids_node] at hv h9 nd rp ⊢
  obtain ⟨c0, c1, c2, c3, c4⟩ := nd.cells
  have hg := nd.lt
  have H0 : Hid (_ ∧ _ ∧ _) := Lib.hid ⟨nd, sl, rp⟩
  have hps : ps.length ≤ 1000000000 := by have := rp.1; omega
  clear h nd sl rp c0 c3 c4
  have fin : ∀ (x1 x3 : World) (g1 : Nat) (kv1 : Value), Ext w x1 → NodeAt NT x1 g1 lab val kv1 none → x1.ownsRow (g1 + 1) PT 1 kv1 ps.length (ptrs ps) → w.heap.size ≤ g1 → Ext ((x1.setCell ⟨g1, 1, none⟩ (.bool true)).setCell ⟨g1, 2, none⟩ (str v)) x3 → Ext w x3 ∧ Rep NT x3 g1 (.node lab (some v) kids) := by
    intro x1 x3 g1 kv1 E1 n1 r1 hg1 E3
    obtain ⟨nd, sl, rp⟩ := H0.out
    have E2 := (E1.setCell (p := ⟨g1, 1, none⟩) hg1 (.bool true)).setCell (p := ⟨g1, 2, none⟩) hg1 (str v)
    exact ⟨Ext.trans E2 E3, Rep.make (t := .node lab (some v) kids) ((n1.set12 true v).ext E3) ((Sl.of_own (row_set (row_set r1 _ _ (Nat.lt_succ_self _)) _ _ (Nat.lt_succ_self _))).below E3) (rp.ext (Ext.trans E2 E3))⟩
  have FIN := Lib.hid fin
  clear fin
  cases val with
  | none =>
    simp only [Option.isSome_none, Option.getD_none] at c1 c2
    clear hv
    go_enter Try.func44, Try.ntmps44
    repeat' (go_not_at_region 4; (first | go_skip | go_guarded | go_step))
    go_region_held3 (fun w' => w'.cell? ⟨g, 1, none⟩ = some (.bool false))
      (first | exact (Below.cell (p := ⟨g, 1, none⟩) k3.out hg).trans c1 | exact (Below.cell (p := ⟨g, 1, none⟩) k1.out hg).trans c1 | exact (Below.cell (p := ⟨g, 1, none⟩) (below_drewN (Ext.refl w) _) hg).trans c1 | exact c1)
      (first
        | (go_at_call 64; refine (own_c _ g lab none kv ow ps (H0.out.1.ext (Ext.refl w).drew) (H0.out.2.1.below (Ext.refl w).drew) hps).mono ?_; rintro e x1 ⟨g1, kv1, rfl, f1, n1, r1, hg1⟩; have k1 : Hid (Ext w x1) := Lib.hid (Ext.trans (Ext.refl w).drew f1))
        | (go_at_call 65; refine (valued_c _ _ _ _ _ n1.cells.2.1 n1.cells.2.2.1 (n1.free 1) (n1.free 2)).mono ?_; rintro e x3 ⟨rfl, f3⟩; have kk := FIN.out x1 x3 g1 kv1 k1.out n1 r1 hg1 f3; have k3 := Lib.hid kk.1; have rr := Lib.hid kk.2))
    repeat' go_step
    go_ret3
    exact ⟨_, rfl, k3.out, hg1, rr.out⟩
  | some u =>
    simp only [Option.isSome_some, Option.getD_some] at c1 c2
    have he : (u == v) = false := by
      rw [beq_eq_false_iff_ne]; intro e; exact hv (by rw [e])
    clear hv
    go_enter Try.func44, Try.ntmps44
    repeat' (go_not_at_region 4; (first | go_skip | go_guarded | go_step))
    go_region_held3 (fun w' => w'.cell? ⟨g, 1, none⟩ = some (.bool true))
      (first | exact (Below.cell (p := ⟨g, 1, none⟩) k3.out hg).trans c1 | exact (Below.cell (p := ⟨g, 1, none⟩) k1.out hg).trans c1 | exact (Below.cell (p := ⟨g, 1, none⟩) (below_drewN (Ext.refl w) _) hg).trans c1 | exact c1)
      (first
        | (go_at_call 64; refine (own_c _ g lab (some u) kv ow ps (H0.out.1.ext (Ext.refl w).drew) (H0.out.2.1.below (Ext.refl w).drew) hps).mono ?_; rintro e x1 ⟨g1, kv1, rfl, f1, n1, r1, hg1⟩; have k1 : Hid (Ext w x1) := Lib.hid (Ext.trans (Ext.refl w).drew f1))
        | (go_at_call 65; refine (valued_c _ _ _ _ _ n1.cells.2.1 n1.cells.2.2.1 (n1.free 1) (n1.free 2)).mono ?_; rintro e x3 ⟨rfl, f3⟩; have kk := FIN.out x1 x3 g1 kv1 k1.out n1 r1 hg1 f3; have k3 := Lib.hid kk.1; have rr := Lib.hid kk.2))
    repeat' go_step
    go_ret3
    exact ⟨_, rfl, k3.out, hg1, rr.out⟩
end Go.Proofs.Ytbplddiopajocaa
