/- Contracts: how a tree looks, byte by byte; are two alike? -/
import Derived.Test.YtbmakajadelckaaDoorTb
import Derived.Test.YtbmakajadelckaaDoorRb
import Derived.Deep.RegionHeld3
import Derived.Deep.DeepCutAuto
set_option linter.unusedVariables false
set_option linter.unusedSimpArgs false
namespace Go.Proofs.YtbmakajadelckaaDoor
open Go.RowKit Go.QS
set_option linter.unusedVariables false

theorem kid_size {t k : RT} (h : k ∈ t.kids) : SizeOf.sizeOf k < SizeOf.sizeOf t := by
  obtain ⟨a, b, c⟩ := t
  have := List.sizeOf_lt_of_mem h
  simp only [RT.kids_node] at this
  simp; omega

def headB_len' (lab : List UInt8) (val : Option (List UInt8)) : Nat := 5 + lab.length + vlen val
theorem byte_len (n : Nat) : (n : Int) % 256 = ((UInt8.ofNat n).toNat : Int) := by simp
theorem keep_n {w w' : World} {g : Nat} {u0 u1 u2 u3 : Value} (f : Ext w w') (h : w.cell? ⟨g, 0, none⟩ = some u0 ∧ w.cell? ⟨g, 1, none⟩ = some u1 ∧ w.cell? ⟨g, 2, none⟩ = some u2 ∧ w.cell? ⟨g, 3, none⟩ = some u3) :
    w'.cell? ⟨g, 0, none⟩ = some u0 ∧ w'.cell? ⟨g, 1, none⟩ = some u1 ∧ w'.cell? ⟨g, 2, none⟩ = some u2 ∧ w'.cell? ⟨g, 3, none⟩ = some u3 :=
  ⟨(f.cell (World.block_lt_of_cell? w _ h.1)).trans h.1, (f.cell (World.block_lt_of_cell? w _ h.2.1)).trans h.2.1, (f.cell (World.block_lt_of_cell? w _ h.2.2.1)).trans h.2.2.1, (f.cell (World.block_lt_of_cell? w _ h.2.2.2)).trans h.2.2.2⟩

theorem ext_alloc {a b : World} (h : Ext a b) (o : Obj) : Ext a (b.alloc o) := h.alloc h.size o
theorem ext_drew {a b : World} (h : Ext a b) : Ext a b.drew := h.drew
theorem bs_of_own {W w : World} {v : Value} {l : List UInt8} (h : w.ownsRow W.heap.size 5 1 v l.length (encB l)) : BS w v l := BS.of_own h

end Go.Proofs.YtbmakajadelckaaDoor
