/- Texts joined. -/
import Derived.Test.YtigoffdehdobiaaGreatN02
import Derived.BigQuiet
set_option linter.unusedVariables false
set_option linter.unusedSimpArgs false
/- Contract: a branch of the document's tree, of its groups. -/
namespace Go.Proofs.YtigoffdehdobiaaGreat
open Go.RowKit Go.QS
set_option linter.unusedVariables false

theorem keep3' {w w' : World} {g1 g2 i1 i2 : Nat} {u1 u2 : Value} (f : Ext w w') (h : w.cell? ⟨g1, i1, none⟩ = some u1 ∧ w.cell? ⟨g2, i2, none⟩ = some u2) : w'.cell? ⟨g1, i1, none⟩ = some u1 ∧ w'.cell? ⟨g2, i2, none⟩ = some u2 :=
  ⟨(f.cell (World.block_lt_of_cell? w _ h.1)).trans h.1, (f.cell (World.block_lt_of_cell? w _ h.2)).trans h.2⟩

theorem own_slice' {w : World} {base : Nat} {e : TypeId} {k n : Nat} {v : Value} {xs : List Value} (h : w.ownsRow base e k v n xs) : ∃ A c, v = .slice A n c := by
  rcases h.2 with ⟨rfl, rfl⟩ | ⟨g, cap, cur, h1, h2, h3, h4⟩
  · exact ⟨_, _, rfl⟩
  · exact ⟨_, _, h1⟩
theorem arm3 {T : TypeId} {w wa X w3 : World} {g7 g10 : Nat} {lab : List UInt8} {val : Option (List UInt8)} {kv v8 : Value} {o : Obj} (hX : Ext wa X) (hg : X.grownBy w3 v8.ownBlock) (hrow : ∀ g, v8.ownBlock = some g → g7 + 1 ≤ g ∧ g < g10)
    (hw : Ext w wa) (hw7 : w.heap.size ≤ g7) (T7 : TreeAt T wa g7 lab val kv) (hB : wa.heap[g10]? = some o) : Ext w w3 ∧ TreeAt T w3 g7 lab val kv ∧ w3.heap[g10]? = some o := by
  refine ⟨(hw.trans hX).grown hg (hw.trans hX).size (fun k hk => by have := hrow k hk; omega), ?_, ?_⟩
  · have h := T7.ext hX
    exact (hg.block g7 h.lt (fun e => by have := hrow g7 e.symm; omega)).trans h
  · have h := (hX.block g10 (heap_lt hB)).trans hB
    exact (hg.block g10 (heap_lt h) (fun e => by have := hrow g10 e.symm; omega)).trans h
theorem ext_alloc' {a b : World} (h : Ext a b) (o : Obj) : Ext a (b.alloc o) := h.alloc h.size o
theorem ext_drew' {a b : World} (h : Ext a b) : Ext a b.drew := h.drew
theorem box_cells' {w : World} {g : Nat} {a b : Value} {t : TypeId} {f : Nat × Nat} (h : w.heap[g]? = some (.cells #[a, b] t f)) : w.cell? ⟨g, 0, none⟩ = some a ∧ w.cell? ⟨g, 1, none⟩ = some b := by
  simp [World.cell?, h]

end Go.Proofs.YtigoffdehdobiaaGreat
/- Contracts: the document's groups, Of. -/
namespace Go.Proofs.YtigoffdehdobiaaGreat
open Go.RowKit Go.QS
set_option linter.unusedVariables false

theorem reps_grow {T TP : TypeId} {B : Nat} {X w8 : World} {v v' : Value} {ps : List Nat} {ks : List RT} (hR : RepsS T TP (fun b => B ≤ b ∧ v.ownBlock ≠ some b) X ps ks) (hg : X.grownBy w8 v.ownBlock) (hor : v'.ownBlock = v.ownBlock ∨ v'.ownBlock = some X.heap.size) :
    RepsS T TP (fun b => B ≤ b ∧ v'.ownBlock ≠ some b) w8 ps ks := by
  have h1 : RepsS T TP (fun b => (B ≤ b ∧ v.ownBlock ≠ some b) ∧ v'.ownBlock ≠ some b) X ps ks := hR.mono fun b hlt hb => ⟨hb, by
    rcases hor with h | h
    · rw [h]; exact hb.2
    · rw [h]; intro e; cases e; exact Nat.lt_irrefl _ hlt⟩
  have h2 := h1.keep (w' := w8) fun b hb hlt => hg.block b hlt (fun e => hb.1.2 e.symm)
  exact h2.mono fun b _ hb => ⟨hb.1.1, hb.2⟩
theorem ps_cut {w : World} {b o n C i k : Nat} {l : List Pr} (hn : n = l.length) (hs : Seg w (some ⟨b, o, none⟩) (flat l)) (hC : C ≤ maxLen) (hnC : n ≤ C) (hik : i ≤ k) (hkn : k ≤ n) : PS w (.slice (some ⟨b, o + i * 2, none⟩) (k - i) (C - i)) ((l.drop i).take (k - i)) := by
  have hl : ((l.drop i).take (k - i)).length = k - i := by rw [List.length_take, List.length_drop]; omega
  refine ⟨_, _, by rw [hl], by rw [flat_length], by omega, by omega, ?_⟩
  rw [flat_take, flat_drop]
  exact (hs.drop (i * 2)).take _

end Go.Proofs.YtigoffdehdobiaaGreat
/- Contract: the document's Of: the tree of a list that rises. -/
namespace Go.Proofs.YtigoffdehdobiaaGreat
open Go.RowKit Go.QS
set_option linter.unusedVariables false

theorem run_fromU {P : Program} {t e : TypeId} {size : Nat} (ht : P.underlying t = some (.slice e)) (hi : ∃ i z, P.info? e = some i ∧ i.zero = some z ∧ i.size = size ∧ i.bytes = 32 ∧ z.cells.size = size) (A : Option Addr) {n c i : Nat} (hin : i ≤ n) (hnc : n ≤ c) :
    ∃ A2, (∀ w, (Instr.slice t (.slice A n c) (some (.int .i64 (i : Int))) none none).run P w = .ok (.slice A2 (n - i) (c - i)) w) ∧
      ∀ (w : World) (xs : List Value), xs.length = n * size → Seg w A xs → Seg w A2 (xs.drop (i * size)) := by
  obtain ⟨inf, z, hi, hz, hs, hb, hzs⟩ := hi
  refine ⟨if c = i then A else A.map (·.add (i * size)), fun w => ?_, fun w xs hl hs => ?_⟩
  · have h1 : (0 : Int) ≤ (i : Int) := by omega
    have h2 : (i : Int) ≤ (n : Int) := by omega
    simp [Instr.slice, Instr.sliceBounds, Instr.sliceBound, asIntOf, run_underlying ht, sizeOf, typeInfo, hi, hs, hin]
  · by_cases h : c = i
    · have : xs.drop (i * size) = [] := List.drop_eq_nil_of_le (by rw [hl]; exact Nat.mul_le_mul_right _ (by omega))
      rw [this]; exact Seg.nil _ _
    · rw [if_neg h]
      intro hne
      obtain ⟨b, o, hA, hc⟩ := hs (fun e => hne (by simp [e]))
      subst hA
      have := Seg.drop (w := w) (b := b) (o := o) hs (i * size)
      obtain ⟨b', o', hA', hc'⟩ := this hne
      cases hA'
      exact ⟨b, o + i * size, by simp [Addr.add_lit], hc'⟩

theorem rise_ne {p : Pr} {r : List Pr} (h : Rise (p :: r)) : ∀ q ∈ r, q.1 ≠ [] := by
  intro q hq e
  have := (rise_cons.1 h).1 q hq
  rw [e] at this
  exact absurd this (List.not_lt_nil _)

end Go.Proofs.YtigoffdehdobiaaGreat
