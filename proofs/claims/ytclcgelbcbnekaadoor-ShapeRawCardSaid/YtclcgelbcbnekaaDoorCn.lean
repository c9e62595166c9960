/- Contracts: champ's some, Get, Len. -/
import Derived.Test.YtclcgelbcbnekaaDoorM20
import Derived.Deep.LoopGhost
set_option linter.unusedVariables false
set_option linter.unusedSimpArgs false
namespace Go.Proofs.YtclcgelbcbnekaaDoor
open Go.RowKit Go.QS Go.QS.Nk
set_option linter.unusedVariables false
variable [Zero (Nat → Prop)]
set_option linter.unusedSectionVars false

theorem empty_c (h : Hs) (w : World) (hnw : ∀ k, w.heap.size ≤ k → S9 k) : Calls Tryd.prog 23 #[] w fun e w' => ∃ g, e = .returned (ptr g) ∧ TR ND h.hash w' 13 g [] ∧ Ext w w' := by
  go_enter Tryd.func23, Tryd.ntmps23
  repeat' (first | go_at_call 20 | go_skip | go_guarded | go_step)
  refine (inner0_c w hnw).mono ?_
  rintro e w1 ⟨g, rfl, N1, f1, s1⟩
  have H1 := Lib.hid (And.intro N1 f1)
  clear N1 f1
  go_simp
  repeat' (first | go_skip | go_guarded | go_step)
  go_ret
  exact ⟨g, rfl, TR.none H1.out.1, H1.out.2⟩
/-- A root, or none (which counts as one of no pairs). -/
def Rot (h : Hs) (w : World) (v : Value) (l : List Pr) : Prop := ∀ W, Ext w W → Calls Tryd.prog 49 #[v] W fun e w' => ∃ g, e = .returned (ptr g) ∧ Ext W w' ∧ TR ND h.hash w' 13 g l ∧ ∀ g0, v = ptr g0 → g = g0
theorem Rot.of {h : Hs} {w : World} {g : Nat} {l : List Pr} (hT : TR ND h.hash w 13 g l) : Rot h w (ptr g) l := fun W hW => by
  have HT := Lib.hid hT
  have HW := Lib.hid hW
  clear hT hW
  go_enter Tryd.func49, Tryd.ntmps49
  repeat' (first | go_skip | go_guarded | go_step)
  go_ret
  exact ⟨g, rfl, Ext.refl _, TR.ext HW.out 13 HT.out, fun g0 e => by cases e; rfl⟩
theorem Rot.nil (h : Hs) (w : World) (hnw : ∀ k, w.heap.size ≤ k → S9 k) : Rot h w nil0 [] := fun W hW => by
  have hnW : ∀ k, W.heap.size ≤ k → S9 k := fun k hk => hnw k (Nat.le_trans hW.size hk)
  clear hW
  go_enter Tryd.func49, Tryd.ntmps49
  repeat' (first | go_at_call 23 | go_skip | go_guarded | go_step)
  refine (empty_c h W hnW).mono ?_
  rintro e w1 ⟨g, rfl, R1, f1⟩
  have H1 := Lib.hid (And.intro R1 f1)
  clear R1 f1
  go_simp
  repeat' (first | go_skip | go_guarded | go_step)
  go_ret
  exact ⟨g, rfl, H1.out.2, H1.out.1, fun g0 e => by cases e⟩

/-- At a key's chunk. -/
theorem tr_at {h : Hs} {w : World} {f g : Nat} {l : List Pr} {sl : List (Slot Nat)} (hN : In ND w g sl) (hT : ∀ c s, sl[c]? = some s → SlotOk (TR ND h.hash w f) s (Go.QS.part h.hash (12 - f) c l)) (k : List UInt8) : ∃ s, sl[chk (h.hash k) (12 - f)]? = some s ∧ SlotOk (TR ND h.hash w f) s (Go.QS.part h.hash (12 - f) (chk (h.hash k) (12 - f)) l) ∧ getL k (Go.QS.part h.hash (12 - f) (chk (h.hash k) (12 - f)) l) = getL k l ∧ hasK (Go.QS.part h.hash (12 - f) (chk (h.hash k) (12 - f)) l) k = hasK l k := by
  obtain ⟨s, hs, ok⟩ := TR.get hN hT (chk_lt (h.hash k) (12 - f))
  exact ⟨s, hs, ok, part_get, part_has⟩

end Go.Proofs.YtclcgelbcbnekaaDoor
