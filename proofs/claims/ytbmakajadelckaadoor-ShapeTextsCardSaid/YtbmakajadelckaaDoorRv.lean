/- Plain law: a branch put together of its label, its own pair and its kids (for the document's tree). No program. -/
import Derived.Test.YtbmakajadelckaaDoorRu
set_option linter.unusedVariables false
set_option linter.unusedSimpArgs false
namespace Go.QS

theorem asm {N : Nat} {l : List Pr} {lab : List UInt8} {val : Option (List UInt8)} {ks : List RT} (hne : l ≠ []) (hr : Rise l) (h1 : lab ≠ []) (hN : lab.length ≤ N)
    (hp : ∀ p ∈ l, p.1.take lab.length = lab) (hv : ∀ v, val = some v ↔ (lab, v) ∈ l) (hk : Kd (N - lab.length) ks)
    (hb : ∀ q, q ∈ belows ks ↔ q.1 ≠ [] ∧ (lab ++ q.1, q.2) ∈ l) (hmax : ∀ c, ∃ p ∈ l, p.1.take (lab.length + 1) ≠ lab ++ [c]) :
    Br N (RT.node lab val ks) ∧ pre lab (RT.node lab val ks).prs = l := by
  have hsplit : ∀ p ∈ l, p.1 = lab ++ p.1.drop lab.length := fun p h => by
    conv => rhs; lhs; rw [← hp p h]
    exact (List.take_append_drop _ _).symm
  constructor
  · refine ⟨h1, hN, ?_, hk⟩
    by_cases hs : val.isSome = true
    · exact .inl hs
    · right
      have hvn : val = none := by
        cases hv' : val with
        | none => rfl
        | some v => rw [hv'] at hs; exact absurd rfl hs
      have hlong : ∀ p ∈ l, p.1.drop lab.length ≠ [] := by
        intro p h e
        have e1 := hsplit p h
        rw [e, List.append_nil] at e1
        have := (hv p.2).2 (by rw [← e1]; exact h)
        rw [hvn] at this; cases this
      have hin : ∀ p ∈ l, (p.1.drop lab.length, p.2) ∈ belows ks := fun p h => (hb _).2 ⟨hlong p h, by rw [← hsplit p h]; exact h⟩
      obtain ⟨p, hpl⟩ := List.exists_mem_of_ne_nil l hne
      show 2 ≤ ks.length
      rcases ks with _ | ⟨k, _ | ⟨k2, r⟩⟩
      · have := hin p hpl
        rw [belows_nil] at this; cases this
      · obtain ⟨c, m, hkl⟩ := List.exists_cons_of_ne_nil (hk.ne k (List.mem_singleton_self k))
        obtain ⟨q, hq, hqn⟩ := hmax c
        exfalso
        apply hqn
        have := hin q hq
        rw [belows_cons, belows_nil, List.append_nil] at this
        obtain ⟨x, _, e⟩ := mem_pre.1 this
        simp only [Prod.mk.injEq] at e
        rw [hsplit q hq, e.1, hkl, List.take_append, List.take_of_length_le (Nat.le_succ _)]
        simp
      · simp
  · refine rise_ext _ _ (rise_pre (prs_rise_of hk hk.rise)) hr fun q => ?_
    rw [mem_pre]
    constructor
    · rintro ⟨p, hpp, rfl⟩
      rcases mem_below.1 hpp with ⟨e1, e2⟩ | h
      · simp only [RT.val_node] at e2
        rw [e1, List.append_nil]
        exact (hv p.2).1 e2
      · exact ((hb p).1 h).2
    · intro h
      refine ⟨(q.1.drop lab.length, q.2), ?_, ?_⟩
      · by_cases e : q.1.drop lab.length = []
        · refine mem_below.2 (.inl ⟨e, (hv q.2).2 ?_⟩)
          have e1 := hsplit q h
          rw [e, List.append_nil] at e1
          rw [← e1]; exact h
        · exact mem_below.2 (.inr ((hb _).2 ⟨e, by rw [← hsplit q h]; exact h⟩))
      · show q = (lab ++ q.1.drop lab.length, q.2)
        rw [← hsplit q h]
end Go.QS
