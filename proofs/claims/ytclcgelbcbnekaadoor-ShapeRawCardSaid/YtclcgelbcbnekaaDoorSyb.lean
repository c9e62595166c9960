/- Contracts: shape.put, Of of any node. -/
import Derived.Test.YtclcgelbcbnekaaDoorM07
import Derived.Test.YtclcgelbcbnekaaDoorM05
import Derived.Deep.DeepCutAuto
set_option linter.unusedVariables false
set_option linter.unusedSimpArgs false
namespace Go.Proofs.YtclcgelbcbnekaaDoor
open Go.RowKit Go.QS Go.QS.Nk
set_option linter.unusedVariables false
variable [Zero (Nat → Prop)]
set_option linter.unusedSectionVars false

/-- What put does at a node. -/
def PutSh (W : World) (lv : Nat) (g : Nat) (B : List UInt8) : Prop :=
  ∀ (w : World) (v : Value) (l : List UInt8), w.ownsRow W.heap.size 5 1 v l.length (encB l) → Below W.heap.size W w → l.length + B.length ≤ 900000000 →
    Calls Tryd.prog 30 #[v, ptr g, .int .i64 (lv : Int)] w fun e w' => ∃ v', e = .returned v' ∧ w'.ownsRow W.heap.size 5 1 v' (l ++ B).length (encB (l ++ B)) ∧ Gr w v w' v'
theorem PutSh.below {W w w' : World} {v v' : Value} {n : Nat} {xs : List Value} (h : Gr w v w' v') (hr : w.ownsRow W.heap.size 5 1 v n xs) (hb : Below W.heap.size W w) : Below W.heap.size W w' := hb.trans (h.below hb.size fun k hk => (World.ownsRow.lt hr k hk).1)
theorem below_ext {B : Nat} {W w w' : World} (h : Below B W w) (f : Ext w w') (hB : B ≤ w.heap.size) : Below B W w' := h.trans (f.mono hB)

set_option maxRecDepth 100000 in
set_option maxHeartbeats 2000000 in
theorem sput_bk (W : World) (lv g : Nat) (ps : List Pr) (ow : Option Addr) (pv kv : Value) (h : Nd ND W g 0 0 ps [] true ow pv kv) (h9 : ps.length ≤ 100000) (hlv : lv ≤ 13) : PutSh W lv g (buckB ps) := by
  intro w v l hr hb hl9
  obtain ⟨Al, Cl, rfl⟩ := own_slice hr
  have HH := Lib.hid (And.intro h (And.intro hr hb))
  have hsz := hb.size
  have hlen : (buckB ps).length = 3 + (prsB ps).length := by simp [buckB, layB_len]; omega
  have hpv := h.pairs
  have hkv := h.kids
  obtain ⟨Ap, Cp, hpv1, _, _, _, _⟩ := hpv
  obtain ⟨Ak, Ck, hkv1, _, _, _, _⟩ := hkv
  clear h hr hb
  go_enter Tryd.func30, Tryd.ntmps30
  repeat' (first | go_at_call 52 | go_skip | go_guarded | go_step)
  refine (isb_c w g true (HH.out.1.node.ext HH.out.2.2).cells.2.2.2.2.1).mono ?_
  rintro e w1 ⟨rfl, f1⟩
  have H1 : Hid (w1.ownsRow W.heap.size 5 1 (.slice Al l.length Cl) l.length (encB l) ∧ Gr w (.slice Al l.length Cl) w1 (.slice Al l.length Cl) ∧ Below W.heap.size W w1) := Lib.hid ⟨row_ext HH.out.2.1 f1, Gr.of_ext f1, below_ext HH.out.2.2 f1 hsz⟩
  clear f1
  go_simp
  repeat' (first
    | (at_builtin; refine wpList_app rfl (.tmp 11) (.tmp 12) _ rfl W.heap.size 5 1 1 Tryd.underlying34 infoB (by decide) (.slice Al l.length Cl) l.length (encB l) rfl (H1.out.1.alloc _) _ 1 1 [.int .u8 1] rfl rfl (Seg.new _ [_] _ rfl) (by intro u hu; simp at hu; subst hu; rfl) (by unfold maxLen; omega) (by omega) (by have := H1.out.2.2.size; simp; omega) ?_
       intro v2 w2 r2 g2 n2
       have hG2 := H1.out.2.1.trans ((Gr.of_ext ((Ext.refl _).alloc (Nat.le_refl _) _)).trans (Gr.of_app g2 n2))
       have H2 : Hid (w2.ownsRow W.heap.size 5 1 v2 (l ++ [1]).length (encB (l ++ [1])) ∧ Gr w (.slice Al l.length Cl) w2 v2 ∧ Below W.heap.size W w2) := Lib.hid ⟨by rw [List.length_append, encB_append]; exact r2, hG2, PutSh.below hG2 HH.out.2.1 HH.out.2.2⟩
       clear r2 g2 n2 hG2)
    | go_at_call 58 | go_skip | go_guarded | go_step)
  refine (nlen_c w2 g ps.length 0 Cp Ck Ap Ak (by have := (HH.out.1.node.ext H2.out.2.2).cells.2.2.1; rw [hpv1] at this; exact this) (by have := (HH.out.1.node.ext H2.out.2.2).cells.2.2.2.1; rw [hkv1] at this; exact this) (by omega)).mono ?_
  rintro e w3 ⟨rfl, f3⟩
  rw [Nat.add_zero]
  have H3 : Hid (w3.ownsRow W.heap.size 5 1 v2 (l ++ [1]).length (encB (l ++ [1])) ∧ Gr w (.slice Al l.length Cl) w3 v2 ∧ Below W.heap.size W w3) := Lib.hid ⟨row_ext H2.out.1 f3, H2.out.2.1.trans (Gr.of_ext f3), below_ext H2.out.2.2 f3 H2.out.2.2.size⟩
  obtain ⟨np, hnp⟩ : ∃ n, n = ps.length := ⟨_, rfl⟩
  rw [← hnp]
  have hnp9 : np ≤ 100000 := by omega
  have HNP := Lib.hid hnp
  clear f3 H2 hnp
  go_simp
  repeat' (first | go_at_call 57 | go_skip | go_guarded | go_step)
  refine (layO_c W.heap.size w3 v2 (l ++ [1]) np 2 H3.out.1 H3.out.2.2.size (by omega) (by omega) (by simp; omega)).mono ?_
  rintro e w4 ⟨v4, rfl, r4, g4⟩
  have hG4 := H3.out.2.1.trans g4
  have H4 : Hid (w4.ownsRow W.heap.size 5 1 v4 (l ++ [1] ++ layB np 2).length (encB (l ++ [1] ++ layB np 2)) ∧ Gr w (.slice Al l.length Cl) w4 v4 ∧ Below W.heap.size W w4) := Lib.hid ⟨r4, hG4, PutSh.below hG4 HH.out.2.1 HH.out.2.2⟩
  clear r4 g4 hG4 H3
  go_simp
  repeat' (first | go_at_call 59 | go_skip | go_guarded | go_step)
  refine (npairs_c w4 g pv ps (HH.out.1.node.ext H4.out.2.2).cells.2.2.1 (HH.out.1.pairs.below H4.out.2.2) (by omega)).mono ?_
  rintro e w5 ⟨v5, rfl, r5, f5⟩
  have H5 : Hid (PS w5 v5 ps ∧ w5.ownsRow W.heap.size 5 1 v4 (l ++ [1] ++ layB np 2).length (encB (l ++ [1] ++ layB np 2)) ∧ Gr w (.slice Al l.length Cl) w5 v4 ∧ Below W.heap.size W w5) := Lib.hid ⟨PS.of_own r5, row_ext H4.out.1 f5, H4.out.2.1.trans (Gr.of_ext f5), below_ext H4.out.2.2 f5 H4.out.2.2.size⟩
  clear r5 f5 H4
  go_simp
  repeat' (first | go_at_call 56 | go_skip | go_guarded | go_step)
  refine (spairs_c W w5 v4 v5 _ ps H5.out.2.1 H5.out.2.2.2 H5.out.1 (by have := HNP.out; omega) (by simp [layB_len]; omega)).mono ?_
  rintro e w6 ⟨v6, rfl, r6, b6, _, g6⟩
  have H6 := Lib.hid (And.intro r6 (H5.out.2.2.1.trans g6))
  clear r6 b6 g6
  go_simp
  repeat' (first | go_skip | go_guarded | go_step)
  go_ret
  refine ⟨_, rfl, ?_, H6.out.2⟩
  have e : l ++ buckB ps = l ++ [1] ++ layB np 2 ++ prsB ps := by rw [buckB, ← HNP.out]; simp
  rw [e]
  exact H6.out.1
end Go.Proofs.YtclcgelbcbnekaaDoor
