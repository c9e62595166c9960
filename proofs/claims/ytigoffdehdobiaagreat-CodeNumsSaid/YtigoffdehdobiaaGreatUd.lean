/- Contracts: the document's groups, Of. -/
import Derived.Test.YtigoffdehdobiaaGreatUc
import Derived.BigQuiet
set_option linter.unusedVariables false
set_option linter.unusedSimpArgs false
namespace Go.Proofs.YtigoffdehdobiaaGreat
open Go.RowKit Go.QS
set_option linter.unusedVariables false

theorem reps_grow {T TP : TypeId} {B : Nat} {X w8 : World} {v v' : Value} {ps : List Nat} {ks : List RT} (hR : RepsS T TP (fun b => B ≤ b ∧ v.ownBlock ≠ some b) X ps ks) (hg : X.grownBy w8 v.ownBlock) (hor : v'.ownBlock = v.ownBlock ∨ v'.ownBlock = some X.heap.size) :
    RepsS T TP (fun b => B ≤ b ∧ v'.ownBlock ≠ some b) w8 ps ks := by
  have h1 : RepsS T TP (fun b => (B ≤ b ∧ v.ownBlock ≠ some b) ∧ v'.ownBlock ≠ some b) X ps ks := hR.mono fun b hlt hb => ⟨hb, by
    rcases hor with h | h
    · rw [h]; exact hb.2
    · rw [h]; intro e; cases e; exact Nat.lt_irrefl _ hlt⟩
  have h2 := h1.keep (w' := w8) fun b hb hlt => hg.block b hlt (fun e => hb.1.2 e.symm)
  exact h2.mono fun b _ hb => ⟨hb.1.1, hb.2⟩
theorem ps_cut {w : World} {b o n C i k : Nat} {l : List Pr} (hn : n = l.length) (hs : Seg w (some ⟨b, o, none⟩) (flat l)) (hC : C ≤ maxLen) (hnC : n ≤ C) (hik : i ≤ k) (hkn : k ≤ n) : PS w (.slice (some ⟨b, o + i * 2, none⟩) (k - i) (C - i)) ((l.drop i).take (k - i)) := by
  have hl : ((l.drop i).take (k - i)).length = k - i := by rw [List.length_take, List.length_drop]; omega
  refine ⟨_, _, by rw [hl], by rw [flat_length], by omega, by omega, ?_⟩
  rw [flat_take, flat_drop]
  exact (hs.drop (i * 2)).take _

end Go.Proofs.YtigoffdehdobiaaGreat
