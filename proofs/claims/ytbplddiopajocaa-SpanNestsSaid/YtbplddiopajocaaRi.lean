/- Contract: put, without a token: a new leaf. -/
import Derived.Test.YtbplddiopajocaaMf
import Derived.Deep.RegionWith
set_option linter.unusedVariables false
set_option linter.unusedSimpArgs false
namespace Go.Proofs.Ytbplddiopajocaa
open Go.RowKit Go.QS
set_option linter.unusedVariables false

theorem Rep.leaf {T : TypeId} {w w' : World} {g : Nat} {l : List UInt8} {v : Option (List UInt8)} (h : Rep T w g (.node l v [])) (hb : w'.heap[g]? = w.heap[g]?) : Rep T w' g (.node l v []) := by
  obtain ⟨kv, ow, ps, nd, sl, rp⟩ := h.open
  have hp : ps = [] := List.eq_nil_of_length_eq_zero (by have := rp.1; simpa using this)
  subst hp
  obtain ⟨A, c, h1, h2, h3, h4, _⟩ := sl
  exact Rep.make (ps := []) (hb.trans nd) ⟨A, c, h1, h2, h3, h4, Seg.nil _ _⟩ ⟨rfl, fun j p k h => by simp at h⟩

set_option maxHeartbeats 2000000 in
set_option maxRecDepth 100000 in
theorem put_ins (w : World) (N g : Nat) (t : RT) (c : UInt8) (key v : List UInt8) (h : Rep NT w g t) (hk : Kd N t.kids) (hf : fH t.kids c.toNat = false) :
    Calls Try.prog 44 #[ptr g, .pointer none, str (c :: key), str v] w fun e w' => ∃ g', e = .returned (.tuple #[ptr g', .bool true, .bool true]) ∧ Ext w w' ∧ w.heap.size ≤ g' ∧ Rep NT w' g' (.node t.lab t.val (t.kids.take (fI t.kids c.toNat) ++ RT.node (c :: key) (some v) [] :: t.kids.drop (fI t.kids c.toNat))) := by
  have HF := Lib.hid (findk_c w g t c.toNat (UInt8.toNat_lt _) h hk.ne hk.heads (by have := hk.len; omega))
  rw [hf] at HF
  have hle := fI_le t.kids c.toNat
  have hlen := hk.len
  obtain ⟨i, hi⟩ : ∃ i, i = fI t.kids c.toNat := ⟨_, rfl⟩
  rw [← hi] at HF hle ⊢
  obtain ⟨kv, ow, ps, nd, sl, rp⟩ := h.open
  obtain ⟨lab, val, kids⟩ := t
  simp only [RT.lab_node, RT.val_node, RT.kids_node] at hle hlen nd rp ⊢
  have hps : ps.length ≤ 256 := by have := rp.1; omega
  have hip : i ≤ ps.length := by have := rp.1; omega
  have H0 : Hid (_ ∧ _ ∧ _) := Lib.hid ⟨nd, sl, rp⟩
  have hidx : ∀ w, (Instr.index 9 (str (c :: key)) (.int .i64 0)).run Try.prog w = .ok (.int .u8 (c.toNat : Int)) w := idx_str Try.underlying9 (a := c :: key) (k := 0) (x := c) rfl
  have hke : (c :: key == ([] : List UInt8)) = false := by simp
  clear h hk hf hi hlen hle nd sl rp
  go_enter Try.func44, Try.ntmps44
  repeat' (first | (go_at_call 66; refine HF.out.mono ?_; rintro e w1 ⟨rfl, rfl⟩; go_simp) | go_skip | go_guarded | (go_not_at_region 7; go_step))
  repeat' (first | go_at_call 64 | go_skip | go_guarded | go_step)
  refine (own_c _ g lab val kv ow ps H0.out.1 H0.out.2.1 (by omega)).mono ?_
  rintro e x1 ⟨g1, kv1, rfl, f1, n1, r1, hg1⟩
  obtain ⟨A1, C1, rfl⟩ := own_slice r1
  have e3 := n1.cells.2.2.2.1
  have ef := n1.free 3
  have hg1x := n1.lt
  have H1 : Hid (_ ∧ _ ∧ _) := Lib.hid ⟨f1, n1, r1⟩
  clear f1 n1 r1
  go_simp
  repeat' (go_not_at_region 8; go_step)
  have hnb : ∀ x2 : World, Ext x1 x2 → (Value.slice A1 ps.length C1).ownBlock ≠ some x2.heap.size := by
    intro x2 hx e
    have := (World.ownsRow.lt H1.out.2.2 _ e).2
    have := hx.size
    omega
  have hnb1 : some g1 ≠ (Value.slice A1 ps.length C1).ownBlock := by
    intro e
    have := (World.ownsRow.lt H1.out.2.2 _ e.symm).1
    omega
  have fin : ∀ (Y x3 : World) (g2 n3 C3 : Nat) (A3 : Option Addr), Ext x1 Y → Rep NT Y g2 (.node (c :: key) (some v) []) → x1.heap.size ≤ g2 → x3.ownsRow (g1 + 1) PT 1 (.slice A3 n3 C3) (ps.take i ++ g2 :: ps.drop i).length (ptrs (ps.take i ++ g2 :: ps.drop i)) → Y.grownBy x3 (Value.slice A1 ps.length C1).ownBlock →
      Ext w (x3.setCell ⟨g1, 3, none⟩ (.slice A3 n3 C3)) ∧ Rep NT (x3.setCell ⟨g1, 3, none⟩ (.slice A3 n3 C3)) g1 (.node lab val (kids.take i ++ RT.node (c :: key) (some v) [] :: kids.drop i)) := by
    intro Y x3 g2 n3 C3 A3 hY n2 hg2 r3 f3
    obtain ⟨nd, sl, rp⟩ := H0.out
    obtain ⟨f1, n1, r1⟩ := H1.out
    have E1 : Ext w Y := Ext.trans f1 hY
    have E3 : Ext w x3 := E1.grown f3 E1.size fun k hk => by have := (World.ownsRow.lt r1 _ hk).1; omega
    have E4 : Ext w (x3.setCell ⟨g1, 3, none⟩ (.slice A3 n3 C3)) := E3.setCell hg1 _
    refine ⟨E4, ?_⟩
    have m1 : NodeAt NT x3 g1 lab val (.slice A1 ps.length C1) none := (f3.block g1 (Nat.lt_of_lt_of_le hg1x hY.size) hnb1).trans (n1.ext hY)
    have hrow : some g2 ≠ (Value.slice A1 ps.length C1).ownBlock := fun e => by have := (World.ownsRow.lt r1 _ e.symm).2; omega
    have l2 : Rep NT (x3.setCell ⟨g1, 3, none⟩ (.slice A3 n3 C3)) g2 (.node (c :: key) (some v) []) :=
      Rep.leaf n2 ((Below.heap_setCell x3 ⟨g1, 3, none⟩ _ g2 (by show g2 ≠ g1; omega)).trans (f3.block g2 n2.lt hrow))
    refine Rep.make (ps := ps.take i ++ g2 :: ps.drop i) (m1.set3 _) (Sl.of_own (row_set r3 _ _ (Nat.lt_succ_self _))) ?_
    exact (rp.ext E4).insert hip l2
  have FIN := Lib.hid fin
  clear fin
  go_region_with (first
      | (go_at_call 68; refine (fresh_c _ (c :: key) v).mono ?_; rintro e x2 ⟨g2, rfl, f2, n2, hg2⟩; have k2 : Hid (Ext x1 x2) := Lib.hid (Ext.trans (below_drewN (Ext.refl x1) 1) f2); have k3 : Hid ((x2.alloc (Obj.cells #[ptr g2] 26)).cell? ⟨g1, 3, none⟩ = some (Value.slice A1 ps.length C1)) := Lib.hid ((Below.cell (p := ⟨g1, 3, none⟩) (k2.out.alloc k2.out.size _) hg1x).trans e3); have e32 := (Below.cell (p := ⟨g1, 3, none⟩) k2.out hg1x).trans e3; have hx2l : g1 < x2.heap.size := Nat.lt_of_lt_of_le hg1x k2.out.size)
      | (go_at_call 67; refine (insert_c (g1 + 1) _ _ ps i x2.heap.size g2 ((row_ext H1.out.2.2 k2.out).alloc _) hip (heap_new x2 _) (hnb x2 k2.out) (by omega) (by have := k2.out.size; simp; omega)).mono ?_; rintro e x3 ⟨v3, rfl, r3, f3⟩; have k4 := Lib.hid (f3.cell k3.out hnb1); have k4' := k4.out; have hf3 : x3.frozen? ⟨g1, 3, none⟩ = false := (f3.frozen_far ⟨g1, 3, none⟩ (by have := k2.out.size; simp; omega) hnb1).trans ((Below.frozen (p := ⟨g1, 3, none⟩) (k2.out.alloc k2.out.size _) hg1x).trans ef); obtain ⟨A3, C3, rfl⟩ := own_slice r3))
  all_goals
    have hfin := Lib.hid (FIN.out _ x3 g2 _ C3 A3 (k2.out.alloc k2.out.size _) (n2.ext ((Ext.refl _).alloc (Nat.le_refl _) _)) (Nat.le_trans (by simp) hg2) r3 f3)
    have hlq : (ps.take i ++ g2 :: ps.drop i).length = i + (ps.length - i + 1) := by simp; omega
    rw [hlq] at hfin
    repeat' go_step
    go_ret3
    exact ⟨_, rfl, hfin.out.1, hg1, hfin.out.2⟩
end Go.Proofs.Ytbplddiopajocaa
