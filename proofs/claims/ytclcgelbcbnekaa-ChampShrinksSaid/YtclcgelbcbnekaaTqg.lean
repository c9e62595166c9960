/- ChampShrinks returns true for every hasher, every two lists of pairs and every list of bytes, and leaves them as they were. No condition. -/
import Derived.Test.YtclcgelbcbnekaaTqf
import Derived.Test.YtclcgelbcbnekaaBo
set_option linter.unusedVariables false
set_option linter.unusedSimpArgs false
namespace Go.Proofs.Ytclcgelbcbnekaa.champShrinks
open Go.RowKit Go.QS Go.ChangeShapes Go.WideShapes Go.ChangeAt
open Go.ChangeMaps (open_string shut_string)
set_option linter.unusedVariables false

theorem own : ownKnob Try.prog.godebug = none := by kernel_rfl
theorem laidOut : laidOutB Try.prog = true := by kernel_rfl

/-- The texts behind this one speak of a set of blocks; here all blocks will do. -/
instance anyBlock : Zero (Nat → Prop) := ⟨fun _ => True⟩

set_option maxRecDepth 100000 in
theorem contract (H : Type) (enc : TypeId × Value → H) (W : World) (base : Nat) (args : Array Value) (ds : List (DataW H)) (p : List MemPlace)
    (hval : ∀ (j : Nat) t v, Try.f8.params[j]? = some t → args[j]? = some v → Value.okWide Try.prog W .any base t v)
    (hA : DataW.TrodAll enc Try.prog W 0 (fun _ => true) true Try.f8.params.toList args.toList ds p) :
    Calls Try.prog 8 args W fun e w' => e = .returned (.bool true) ∧ Ext W w' := by
  rw [Try.params8] at hA hval
  obtain ⟨v0, vs0, d0, ds0, p0, q0, hargs, rfl, rfl, h0, r0⟩ := trodAll_cons hA
  obtain ⟨v1, vs1, d1, ds1, p1, q1, rfl, rfl, rfl, h1, r1⟩ := trodAll_cons r0
  obtain ⟨v2, vs2, d2, ds2, p2, q2, rfl, rfl, rfl, h2, r2⟩ := trodAll_cons r1
  obtain ⟨v3, vs3, d3, ds3, p3, q3, rfl, rfl, rfl, h3, r3⟩ := trodAll_cons r2
  obtain ⟨rfl, rfl, rfl⟩ := trodAll_nil r3
  obtain rfl : args = #[v0, v1, v2, v3] := by cases args; simp_all
  obtain ⟨a0, rfl, b0⟩ := open_hs (hval 0 _ v0 rfl rfl) h0
  obtain ⟨l1, k1, b1⟩ := open_ps Try.underlying22 Try.underlying36 (by kernel_rfl) (by kernel_rfl) Try.underlying9 Try.underlying9 (hval 1 _ v1 rfl rfl) h1
  obtain ⟨l2, k2, b2⟩ := open_ps Try.underlying22 Try.underlying36 (by kernel_rfl) (by kernel_rfl) Try.underlying9 Try.underlying9 (hval 2 _ v2 rfl rfl) h2
  obtain ⟨l3, k3, b3⟩ := open_u8s (hval 3 _ v3 rfl rfl) h3
  exact champShrinks_c W a0 b0 v1 v2 v3 l1 l2 l3 k1 k2 k3

set_option maxRecDepth 100000 in
theorem lifted (os : Os) (started : os.Started) (H : Type) (enc : TypeId × Value → H) :
    ReturnsInHanded {} Try.checked os 8 .any (Rows.champShrinksSpec.pre6 enc Try.prog Try.f8 Rows.champShrinksRow.domain false) (Rows.champShrinksSpec.post enc Try.prog Try.f8 false true false false) := by
  refine returnsInHanded_of_change (C := Try.checked) own started (by kernel_rfl) Try.func8
    (ChangeSpec.witness6 (enc := enc) (C := Try.checked) false ⟨#[], #[.agg #[.int .u64 0, .int .u64 0, .int .u64 0], .slice none 0 0, .slice none 0 0, .slice none 0 0], []⟩ 8 (by kernel_rfl) (by kernel_rfl) (by kernel_rfl) (by kernel_rfl)) ?_
  intro W base args ds gs before hval0 hW hcnd _
  have hW' := hW
  obtain ⟨p, q, hA, hV, rfl, hfz, hnd⟩ := hW
  refine (contract H enc W base args ds p hval0 hA).mono fun e W' ⟨he, bel⟩ => ?_
  subst he
  refine ⟨_, rfl, ?_⟩
  obtain ⟨rfl, rfl⟩ := trodVars_none hV
  rw [Try.params8] at hA
  obtain ⟨v0, vs0, d0, ds0, p0, q0, hargs, rfl, rfl, h0, r0⟩ := trodAll_cons hA
  obtain ⟨v1, vs1, d1, ds1, p1, q1, rfl, rfl, rfl, h1, r1⟩ := trodAll_cons r0
  obtain ⟨v2, vs2, d2, ds2, p2, q2, rfl, rfl, rfl, h2, r2⟩ := trodAll_cons r1
  obtain ⟨v3, vs3, d3, ds3, p3, q3, rfl, rfl, rfl, h3, r3⟩ := trodAll_cons r2
  obtain ⟨rfl, rfl, rfl⟩ := trodAll_nil r3
  exact law_post laidOut (by kernel_rfl) rfl Try.underlying4 hW' rfl rfl rfl rfl bel

theorem over : Rows.champShrinksRow.holds Try.pinned (OpenSpec.ofChange Rows.champShrinksSpec) :=
  OpenClaim.holds_of_wide 8 Try.f8 rfl rfl rfl rfl rfl rfl rfl ⟨rfl, rfl, rfl, rfl, rfl⟩ rfl rfl rfl rfl rfl (by kernel_rfl) Try.func8 (by kernel_rfl)
    (of_decide_eq_true (by kernel_rfl)) (by unfold Func.isWrapper; first | (rw [if_pos (by decide +kernel)]; kernel_rfl) | (rw [if_neg (by decide +kernel)]; exact ⟨rfl, rfl⟩))
    (fun os started H enc _ => lifted os started H enc)

theorem proved : Rows.ChampShrinksSaid := over
end Go.Proofs.Ytclcgelbcbnekaa.champShrinks
