/- The words of the node chapter: a node's block; an inner node, a bucket in memory. -/
import Derived.Test.YtbmakajadelckaaDoorRows
import Derived.Test.YtbmakajadelckaaDoorNd
import Derived.Test.YtbmakajadelckaaDoorNe
set_option linter.unusedVariables false
set_option linter.unusedSimpArgs false
namespace Go.QS
open Go.RowKit Go.QS.Nk

/-- A node's block. -/
def NdAt (T : TypeId) (w : World) (g d n : Nat) (pv kv : Value) (bk : Bool) (ow : Option Addr) : Prop :=
  w.heap[g]? = some (.cells #[.int .u32 d, .int .u32 n, pv, kv, .bool bk, .pointer ow] T (0, 0))
section
variable {T PT KT : TypeId} {w w' : World} {g d n base : Nat} {pv kv : Value} {bk : Bool} {ow : Option Addr} {sl : List (Slot Nat)} {l : List Pr}
theorem NdAt.lt (h : NdAt T w g d n pv kv bk ow) : g < w.heap.size := heap_lt h
theorem NdAt.ext (h : NdAt T w g d n pv kv bk ow) (hb : Ext w w') : NdAt T w' g d n pv kv bk ow := (hb.block g h.lt).trans h
theorem NdAt.only {S : Nat → Prop} (h : NdAt T w g d n pv kv bk ow) (hb : Only S w w') (hS : ¬ S g) : NdAt T w' g d n pv kv bk ow := hb.heap h hS
theorem NdAt.cells (h : NdAt T w g d n pv kv bk ow) : w.cell? ⟨g, 0, none⟩ = some (.int .u32 d) ∧ w.cell? ⟨g, 1, none⟩ = some (.int .u32 n) ∧ w.cell? ⟨g, 2, none⟩ = some pv ∧ w.cell? ⟨g, 3, none⟩ = some kv ∧ w.cell? ⟨g, 4, none⟩ = some (.bool bk) ∧ w.cell? ⟨g, 5, none⟩ = some (.pointer ow) := by
  unfold NdAt at h
  simp [World.cell?, h]
theorem NdAt.free (h : NdAt T w g d n pv kv bk ow) (j : Nat) : w.frozen? ⟨g, j, none⟩ = false := by
  unfold NdAt at h
  simp [World.frozen?, h]
theorem NdAt.set0 (h : NdAt T w g d n pv kv bk ow) (d' : Nat) : NdAt T (w.setCell ⟨g, 0, none⟩ (.int .u32 d')) g d' n pv kv bk ow := heap_set h 0 _
theorem NdAt.set1 (h : NdAt T w g d n pv kv bk ow) (n' : Nat) : NdAt T (w.setCell ⟨g, 1, none⟩ (.int .u32 n')) g d n' pv kv bk ow := heap_set h 1 _
theorem NdAt.set2 (h : NdAt T w g d n pv kv bk ow) (v : Value) : NdAt T (w.setCell ⟨g, 2, none⟩ v) g d n v kv bk ow := heap_set h 2 _
theorem NdAt.set3 (h : NdAt T w g d n pv kv bk ow) (v : Value) : NdAt T (w.setCell ⟨g, 3, none⟩ v) g d n pv v bk ow := heap_set h 3 _
theorem NdAt.set5 (h : NdAt T w g d n pv kv bk ow) (o : Option Addr) : NdAt T (w.setCell ⟨g, 5, none⟩ (.pointer o)) g d n pv kv bk o := heap_set h 5 _
theorem NdAt.new (T : TypeId) (w : World) (hg : g = w.heap.size) : NdAt T (w.alloc (.cells #[.int .u32 d, .int .u32 n, pv, kv, .bool bk, .pointer ow] T)) g d n pv kv bk ow := by
  subst hg; simp only [NdAt, World.alloc]; simp

/-- A node in memory: its bits, its pairs, its kids. -/
structure Nd (T : TypeId) (w : World) (g d n : Nat) (ps : List Pr) (ks : List Nat) (bk : Bool) (ow : Option Addr) (pv kv : Value) : Prop where
  node : NdAt T w g d n pv kv bk ow
  pairs : PS w pv ps
  kids : Sl w 1 kv ks.length (ptrs ks)
/-- The same, its rows being its own. -/
structure NdO (T PT KT : TypeId) (base : Nat) (w : World) (g d n : Nat) (ps : List Pr) (ks : List Nat) (bk : Bool) (ow : Option Addr) (pv kv : Value) : Prop where
  node : NdAt T w g d n pv kv bk ow
  pairs : w.ownsRow base PT 2 pv ps.length (flat ps)
  kids : w.ownsRow base KT 1 kv ks.length (ptrs ks)
variable {ps : List Pr} {ks : List Nat}
theorem Nd.ext (h : Nd T w g d n ps ks bk ow pv kv) (f : Ext w w') : Nd T w' g d n ps ks bk ow pv kv := ⟨h.node.ext f, h.pairs.below f, h.kids.below f⟩
theorem NdO.nd (h : NdO T PT KT base w g d n ps ks bk ow pv kv) : Nd T w g d n ps ks bk ow pv kv := ⟨h.node, PS.of_own h.pairs, Sl.of_own h.kids⟩
theorem NdO.ext (h : NdO T PT KT base w g d n ps ks bk ow pv kv) (f : Ext w w') : NdO T PT KT base w' g d n ps ks bk ow pv kv := ⟨h.node.ext f, row_ext h.pairs f, row_ext h.kids f⟩

/-- An inner node of these chunks. -/
def In (T : TypeId) (w : World) (g : Nat) (sl : List (Slot Nat)) : Prop := sl.length = 32 ∧ ∃ ow pv kv, Nd T w g (dataOf sl) (nodesOf sl) (prsOf sl) (kdsOf sl) false ow pv kv
/-- A bucket of these pairs. -/
def Bk (T : TypeId) (w : World) (g : Nat) (l : List Pr) : Prop := ∃ ow pv kv, Nd T w g 0 0 l [] true ow pv kv
theorem In.ext (h : In T w g sl) (f : Ext w w') : In T w' g sl := by
  obtain ⟨h0, ow, pv, kv, h1⟩ := h
  exact ⟨h0, ow, pv, kv, h1.ext f⟩
theorem Bk.ext (h : Bk T w g l) (f : Ext w w') : Bk T w' g l := by
  obtain ⟨ow, pv, kv, h1⟩ := h
  exact ⟨ow, pv, kv, h1.ext f⟩
end
end Go.QS
