/- Contract: a branch of the document's tree, of its groups. -/
import Derived.Test.YtigoffdehdobiaaGreatUb
set_option linter.unusedVariables false
set_option linter.unusedSimpArgs false
namespace Go.Proofs.YtigoffdehdobiaaGreat
open Go.RowKit Go.QS
set_option linter.unusedVariables false

theorem keep3' {w w' : World} {g1 g2 i1 i2 : Nat} {u1 u2 : Value} (f : Ext w w') (h : w.cell? ⟨g1, i1, none⟩ = some u1 ∧ w.cell? ⟨g2, i2, none⟩ = some u2) : w'.cell? ⟨g1, i1, none⟩ = some u1 ∧ w'.cell? ⟨g2, i2, none⟩ = some u2 :=
  ⟨(f.cell (World.block_lt_of_cell? w _ h.1)).trans h.1, (f.cell (World.block_lt_of_cell? w _ h.2)).trans h.2⟩

theorem own_slice' {w : World} {base : Nat} {e : TypeId} {k n : Nat} {v : Value} {xs : List Value} (h : w.ownsRow base e k v n xs) : ∃ A c, v = .slice A n c := by
  rcases h.2 with ⟨rfl, rfl⟩ | ⟨g, cap, cur, h1, h2, h3, h4⟩
  · exact ⟨_, _, rfl⟩
  · exact ⟨_, _, h1⟩
theorem arm3 {T : TypeId} {w wa X w3 : World} {g7 g10 : Nat} {lab : List UInt8} {val : Option (List UInt8)} {kv v8 : Value} {o : Obj} (hX : Ext wa X) (hg : X.grownBy w3 v8.ownBlock) (hrow : ∀ g, v8.ownBlock = some g → g7 + 1 ≤ g ∧ g < g10)
    (hw : Ext w wa) (hw7 : w.heap.size ≤ g7) (T7 : TreeAt T wa g7 lab val kv) (hB : wa.heap[g10]? = some o) : Ext w w3 ∧ TreeAt T w3 g7 lab val kv ∧ w3.heap[g10]? = some o := by
  refine ⟨(hw.trans hX).grown hg (hw.trans hX).size (fun k hk => by have := hrow k hk; omega), ?_, ?_⟩
  · have h := T7.ext hX
    exact (hg.block g7 h.lt (fun e => by have := hrow g7 e.symm; omega)).trans h
  · have h := (hX.block g10 (heap_lt hB)).trans hB
    exact (hg.block g10 (heap_lt h) (fun e => by have := hrow g10 e.symm; omega)).trans h
theorem ext_alloc' {a b : World} (h : Ext a b) (o : Obj) : Ext a (b.alloc o) := h.alloc h.size o
theorem ext_drew' {a b : World} (h : Ext a b) : Ext a b.drew := h.drew
theorem box_cells' {w : World} {g : Nat} {a b : Value} {t : TypeId} {f : Nat × Nat} (h : w.heap[g]? = some (.cells #[a, b] t f)) : w.cell? ⟨g, 0, none⟩ = some a ∧ w.cell? ⟨g, 1, none⟩ = some b := by
  simp [World.cell?, h]

end Go.Proofs.YtigoffdehdobiaaGreat
