/- Contract: slices.Reverse at the works of a cursor. -/
import Derived.Test.YtbplddiopajocaaSc
import Derived.Shelf.SlicesQ.Reverse
import Derived.Lib.RowBridge
set_option linter.unusedVariables false
set_option linter.unusedSimpArgs false
namespace Go.Proofs.Ytbplddiopajocaa
open Go.RowKit Go.QS Go.Shelf Go.Sort
set_option linter.unusedVariables false

def revRen : Go.Shelf.Ren := ⟨fun | 35 => 76 | x => x, fun | 0 => 0 | 3 => 3 | 4 => 4 | 22 => 97 | 23 => 101 | x => x, fun x => x⟩

theorem revLay : SlLaysE0.n35 Try.prog revRen := {
  mixed := by kernel_rfl
  f35 := ⟨Try.f76.name, by decide, by kernel_rfl⟩
  t0 := Try.underlying0
  a0 := Try.isAgg0
  z0 := Try.sizeOf0
  v0 := Try.zeroValue0
  t3 := Try.underlying3
  a3 := Try.isAgg3
  z3 := Try.sizeOf3
  v3 := Try.zeroValue3
  t4 := Try.underlying4
  a4 := Try.isAgg4
  z4 := Try.sizeOf4
  v4 := Try.zeroValue4
  t22 := Try.underlying97
  a22 := Try.isAgg97
  z22 := Try.sizeOf97
  v22 := Try.zeroValue97 }

/-- A work in memory: a node, the bytes that lead to it, only its own? -/
abbrev Wk := Nat × List UInt8 × Bool
def encW (x : Wk) : List Value := [ptr x.1, str x.2.1, .bool x.2.2]
def flatW (l : List Wk) : List Value := l.flatMap encW
theorem flatW_length (l : List Wk) : (flatW l).length = l.length * 3 := by
  induction l with
  | nil => rfl
  | cons p l ih => simp only [flatW, List.flatMap_cons, List.length_append, List.length_cons] at ih ⊢; rw [ih]; simp [encW]; omega
theorem flatW_append (a b : List Wk) : flatW (a ++ b) = flatW a ++ flatW b := by simp [flatW]
theorem flatW_cons (p : Wk) (l : List Wk) : flatW (p :: l) = encW p ++ flatW l := by simp [flatW]
theorem flatW_one (l : List Wk) : ∀ u ∈ flatW l, u.oneCell' = true := by
  intro u hu
  obtain ⟨p, _, hp⟩ := List.mem_flatMap.1 hu
  simp [encW] at hp
  rcases hp with rfl | rfl | rfl <;> rfl
theorem flatW_get {l : List Wk} {i : Nat} {p : Wk} (h : l[i]? = some p) (r : Nat) (hr : r < 3) : (flatW l)[i * 3 + r]? = (encW p)[r]? := by
  induction l generalizing i with
  | nil => cases h
  | cons q l ih =>
    rw [flatW_cons]
    have h3 : (encW q).length = 3 := rfl
    cases i with
    | zero =>
      cases h
      rw [Nat.zero_mul, Nat.zero_add, List.getElem?_append_left (by omega)]
    | succ i =>
      rw [List.getElem?_append_right (by omega), h3, show (i + 1) * 3 + r - 3 = i * 3 + r by omega]
      exact ih h
theorem flatK_W (l : List Wk) : (flatK encW 3 l.toArray).toList = flatW l := by
  refine List.ext_getElem? fun j => ?_
  rcases Nat.lt_or_ge j (l.length * 3) with h | h
  · have hd : j / 3 < l.length := by omega
    have hm := Nat.mod_lt j (show 3 > 0 by decide)
    have := flatW_get (List.getElem?_eq_getElem hd) (j % 3) hm
    rw [show j / 3 * 3 + j % 3 = j by omega] at this
    rw [this, Array.getElem?_toList, Array.getElem?_eq_getElem (by simpa using h)]
    have h2 := get_flatK encW 3 l.toArray j (by simpa using h)
    rw [getElem!_pos (flatK encW 3 l.toArray) j (by simpa using h)] at h2
    rw [h2]
    have e1 : l.toArray[j / 3]! = l[j / 3] := by rw [getElem!_pos l.toArray (j / 3) (by simpa using hd)]; simp
    rw [e1, getElem!_pos (encW l[j / 3]) (j % 3) (show j % 3 < (encW l[j / 3]).length from hm), List.getElem?_eq_getElem]
  · rw [List.getElem?_eq_none (by simpa using h), List.getElem?_eq_none (by rw [flatW_length]; exact h)]

abbrev WT : TypeId := 101

theorem rev_c (base : Nat) (w : World) (v : Value) (l : List Wk) (h : w.ownsRow base WT 3 v l.length (flatW l)) (h9 : l.length ≤ 1000000000) (hne : l ≠ []) :
    Calls Try.prog 76 #[v] w fun e w' => e = .returned (.tuple #[]) ∧ w'.ownsRow base WT 3 v l.length (flatW l.reverse) ∧ w.grownBy w' v.ownBlock := by
  rcases h.2 with ⟨rfl, h0⟩ | ⟨g, cap, cur, rfl, hg, hh, hnc, hcm, hsz, htk⟩
  · exact absurd (List.eq_nil_of_length_eq_zero h0) hne
  · have hH : HoldsK encW 3 w g 0 l.toArray := by
      intro j hj
      have hj' : j < l.length * 3 := by simpa using hj
      refine ⟨?_, by simp [World.frozen?, hh]⟩
      rw [Nat.zero_add, seg_of_heap hh, ← Array.getElem?_toList]
      have e1 : (flatW l)[j]? = cur.toList[j]? := by rw [← htk, List.getElem?_take_of_lt hj']
      rw [← e1, ← flatK_W, Array.getElem?_toList, Array.getElem?_eq_getElem hj, getElem!_pos (flatK encW 3 l.toArray) j hj]; rfl
    have hc := AnyQ.slices_Reverse revLay 3 Try.isAgg101 Try.sizeOf101 encW (fun _ => rfl) (fun x u hu => by simp [encW] at hu; rcases hu with rfl | rfl | rfl <;> rfl) g 0 cap l.toArray w hH (by simp; omega)
    change Calls Try.prog 76 #[.slice (some ⟨g, 0, none⟩) l.toArray.size cap] w _ at hc
    rw [show l.toArray.size = l.length by simp] at hc
    refine hc.mono ?_
    rintro e w' ⟨rfl, n, rfl⟩
    have hw : putRowK encW 3 (Sort.ahead w n) g 0 l.toArray.reverse = (w.drewN n).setCells g 0 (flatW l.reverse) := by
      have := Lib.putRow_eq_setCells id w g 0 (flatK encW 3 l.toArray) (flatW l.reverse) n hH (by rw [flatW_length]; simp)
      rw [List.map_id] at this
      rw [← this]
      unfold putRowK
      congr 1
      rw [show l.toArray.reverse = l.reverse.toArray by simp, ← flatK_W]
    rw [hw]
    obtain ⟨c1, k1, k2, k3⟩ := heap_setCells g WT (0, 0) (flatW l.reverse) 0 (w.drewN n) cur hh (by rw [flatW_length]; simp; omega)
    refine ⟨rfl, ⟨by rw [flatW_length]; simp, .inr ⟨g, cap, c1, rfl, hg, k1, hnc, hcm, by omega, ?_⟩⟩, World.grownBy.trans (grown_ext' (below_drewN (Ext.refl w) n)) (grown_setCells g _ _ _)⟩
    rw [k3, List.take_zero, List.nil_append, List.take_append_of_le_length (by rw [flatW_length]; simp), List.take_of_length_le (by rw [flatW_length]; simp)]
end Go.Proofs.Ytbplddiopajocaa
