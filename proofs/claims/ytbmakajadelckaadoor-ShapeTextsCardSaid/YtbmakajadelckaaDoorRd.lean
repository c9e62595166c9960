/- Contract: slices.Insert at the slices of nodes, of a row of one's own. -/
import Derived.Test.YtbmakajadelckaaDoorRc
set_option linter.unusedVariables false
set_option linter.unusedSimpArgs false
namespace Go.Proofs.YtbmakajadelckaaDoor
open Go.RowKit Go.QS Go.Lib
set_option linter.unusedVariables false

theorem heap_setCells (b : Nat) (e : TypeId) (f : Nat × Nat) : ∀ (vs : List Value) (o : Nat) (w : World) (cur : Array Value), w.heap[b]? = some (.cells cur e f) → o + vs.length ≤ cur.size →
    ∃ cur', (w.setCells b o vs).heap[b]? = some (.cells cur' e f) ∧ cur'.size = cur.size ∧ cur'.toList = cur.toList.take o ++ vs ++ cur.toList.drop (o + vs.length)
  | [], o, w, cur, h, hl => ⟨cur, h, rfl, by simp⟩
  | v :: r, o, w, cur, h, hl => by
    simp only [List.length_cons] at hl
    obtain ⟨cur', h1, h2, h3⟩ := heap_setCells b e f r (o + 1) (w.setCell ⟨b, o, none⟩ v) _ (heap_set h o v) (by simp; omega)
    refine ⟨cur', h1, by simpa using h2, ?_⟩
    rw [h3]
    have ho : o < cur.toList.length := by simp; omega
    rw [Array.toList_setIfInBounds, List.take_set, List.drop_set_of_lt (by omega), List.length_cons, List.take_succ_eq_append_getElem ho, show o + 1 + r.length = o + (r.length + 1) by omega]
    have : ((cur.toList.take o) ++ [cur.toList[o]]).set o v = cur.toList.take o ++ [v] := by
      rw [List.set_append_right _ _ (by simp; omega)]
      have : o - (cur.toList.take o).length = 0 := by simp; omega
      rw [this]; rfl
    rw [this]
    simp

theorem grown_setCell' (w : World) (g j : Nat) (u : Value) : w.grownBy (w.setCell ⟨g, j, none⟩ u) (some g) :=
  ⟨rfl, rfl, rfl, by simp, fun k _ hne => Below.heap_setCell w ⟨g, j, none⟩ u k (fun h => hne (by rw [h]))⟩
theorem grown_setCells (b : Nat) : ∀ (vs : List Value) (o : Nat) (w : World), w.grownBy (w.setCells b o vs) (some b)
  | [], o, w => World.grownBy.refl w _
  | v :: r, o, w => World.grownBy.trans (grown_setCell' w b o v) (grown_setCells b r (o + 1) _)
theorem grown_ext' {w w' : World} {row : Option Nat} (hb : Ext w w') : w.grownBy w' row := ⟨hb.os, hb.tape, hb.output, hb.size, fun k hk _ => hb.block k hk⟩
theorem ext_grown {w w' : World} (hb : w.grownBy w' none) : Ext w w' := ⟨hb.os, hb.tape, hb.output, hb.size, fun k hk => hb.block k hk (by simp)⟩
theorem below_setCells {B : Nat} {a : World} (b : Nat) (hb : B ≤ b) : ∀ (vs : List Value) (o : Nat) (w : World), Below B a w → Below B a (w.setCells b o vs)
  | [], o, w, h => h
  | v :: r, o, w, h => below_setCells b hb r (o + 1) _ (h.setCell hb v)

theorem heap_new (w : World) (o : Obj) : (w.alloc o).heap[w.heap.size]? = some o := by
  simp only [World.alloc]; simp
theorem seg_of_heap {w : World} {b : Nat} {e : TypeId} {f : Nat × Nat} {cur : Array Value} (h : w.heap[b]? = some (.cells cur e f)) (j : Nat) : w.cell? ⟨b, j, none⟩ = cur[j]? := by
  simp [World.cell?, h]

end Go.Proofs.YtbmakajadelckaaDoor
