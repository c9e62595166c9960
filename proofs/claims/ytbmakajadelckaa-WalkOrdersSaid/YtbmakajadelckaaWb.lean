/- What comes and goes again: plain laws of lists. No program. -/
import Derived.Test.YtbmakajadelckaaM02
set_option linter.unusedVariables false
set_option linter.unusedSimpArgs false
namespace Go.QS

/-- The keys of K are those by which Y is more than X. -/
def Gone (X Y : List Pr) (K : List (List UInt8)) : Prop := ∀ q : Pr, (q ∈ Y ∧ q.1 ∉ K) ↔ q ∈ X
theorem Gone.nil (X : List Pr) : Gone X X [] := fun q => by simp
theorem Gone.put {X Y : List Pr} {K : List (List UInt8)} {p : Pr} (hn : hasK X p.1 = false) (h : Gone X Y K) : Gone X (rput Y p) (K ++ [p.1]) := by
  have hx : ∀ q ∈ X, q.1 ≠ p.1 := by
    intro q hq e
    have : hasK X p.1 = true := hasK_iff.2 ⟨q, hq, e⟩
    rw [hn] at this; cases this
  intro q
  rw [mem_rput, List.mem_append, List.mem_singleton]
  constructor
  · rintro ⟨h1, h2⟩
    have h3 : q.1 ∉ K := fun h => h2 (.inl h)
    have h4 : q.1 ≠ p.1 := fun h => h2 (.inr h)
    rcases h1 with rfl | ⟨h1, _⟩
    · exact absurd rfl h4
    · exact (h q).1 ⟨h1, h3⟩
  · intro hq
    have := (h q).2 hq
    refine ⟨.inr ⟨this.1, hx q hq⟩, ?_⟩
    rintro (h | h)
    · exact this.2 h
    · exact hx q hq h
theorem mem_swap {α : Type} {K : List α} {i j : Nat} {a b : α} (hi : K[i]? = some a) (hj : K[j]? = some b) (k : α) : k ∈ (K.set i b).set j a ↔ k ∈ K := by
  have hil := (List.getElem?_eq_some_iff.1 hi).1
  have hjl := (List.getElem?_eq_some_iff.1 hj).1
  simp only [List.mem_iff_getElem?]
  constructor
  · rintro ⟨n, hn⟩
    by_cases h1 : j = n
    · rw [List.getElem?_set, if_pos h1] at hn
      rw [if_pos (by simpa using hjl)] at hn
      cases hn
      exact ⟨i, hi⟩
    · rw [List.getElem?_set_ne h1] at hn
      by_cases h2 : i = n
      · rw [List.getElem?_set, if_pos h2, if_pos hil] at hn
        cases hn
        exact ⟨j, hj⟩
      · rw [List.getElem?_set_ne h2] at hn
        exact ⟨n, hn⟩
  · rintro ⟨n, hn⟩
    by_cases h1 : n = i
    · subst h1
      rw [hi] at hn
      cases hn
      refine ⟨j, ?_⟩
      rw [List.getElem?_set, if_pos rfl, if_pos (by simpa using hjl)]
    · by_cases h2 : n = j
      · subst h2
        rw [hj] at hn
        cases hn
        refine ⟨i, ?_⟩
        by_cases h3 : n = i
        · exact absurd h3 h1
        · rw [List.getElem?_set_ne h3, List.getElem?_set, if_pos rfl, if_pos hil]
      · refine ⟨n, ?_⟩
        rw [List.getElem?_set_ne (fun e => h2 e.symm), List.getElem?_set_ne (fun e => h1 e.symm)]
        exact hn
/-- So far gone. -/
def GoneTo (Y Z : List Pr) (K : List (List UInt8)) : Prop := ∀ q : Pr, q ∈ Z ↔ q ∈ Y ∧ q.1 ∉ K
theorem GoneTo.nil (Y : List Pr) : GoneTo Y Y [] := fun q => by simp
theorem GoneTo.drop {Y Z : List Pr} {K : List (List UInt8)} (h : GoneTo Y Z K) (k : List UInt8) : GoneTo Y (rdrop Z k) (K ++ [k]) := by
  intro q
  rw [mem_rdrop, h q, List.mem_append, List.mem_singleton]
  constructor
  · rintro ⟨⟨h1, h2⟩, h3⟩
    exact ⟨h1, fun h => h.elim h2 h3⟩
  · rintro ⟨h1, h2⟩
    exact ⟨⟨h1, fun h => h2 (.inl h)⟩, fun h => h2 (.inr h)⟩
theorem gone_end {X Y Z : List Pr} {K L : List (List UInt8)} (hX : Rise X) (hZ : Rise Z) (h1 : Gone X Y K) (h2 : ∀ k, k ∈ L ↔ k ∈ K) (h3 : GoneTo Y Z L) : Z = X :=
  rise_ext Z X hZ hX fun q => by rw [h3 q, h2, h1 q]
end Go.QS
