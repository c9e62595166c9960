/- Contracts: champ's Len; Put and Drop of a root, or none. -/
import Derived.Test.YtkfiinmoecibcaaCn
import Derived.Test.YtkfiinmoecibcaaCj
import Derived.Test.YtkfiinmoecibcaaCm
set_option linter.unusedVariables false
set_option linter.unusedSimpArgs false
namespace Go.Proofs.Ytkfiinmoecibcaa
open Go.RowKit Go.QS Go.QS.Nk
set_option linter.unusedVariables false

theorem sumL_take_le (Ls : List (List Pr)) (n : Nat) : sumL (Ls.take n) ≤ sumL Ls := by
  have := sumL_append (Ls.take n) (Ls.drop n)
  rw [List.take_append_drop] at this
  omega
theorem sumL_mem {Ls : List (List Pr)} {j : Nat} {x : List Pr} (h : Ls[j]? = some x) : x.length ≤ sumL Ls := by
  have h1 := sumL_take_le Ls (j + 1)
  rw [take_snoc h, sumL_append] at h1
  simp only [sumL] at h1
  omega
end Go.Proofs.Ytkfiinmoecibcaa
