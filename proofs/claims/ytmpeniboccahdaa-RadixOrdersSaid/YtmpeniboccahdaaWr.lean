/- In which order pairs come says nothing: plain laws of lists. No program. -/
import Derived.Test.YtmpeniboccahdaaMi
namespace Go.QS

/-- So far, at most so many, cut. -/
def cutM (N : Nat) (l : List Pr) (i : Nat) : List Pr := ((l.take i).take N).map fun p => (p.1.take 40, p.2.take 40)
theorem cutM_zero (N : Nat) (l : List Pr) : cutM N l 0 = [] := by simp [cutM]
theorem cutM_step {N : Nat} {l : List Pr} {i : Nat} {p : Pr} (h : l[i]? = some p) (hi : i < N) : cutM N l (i + 1) = cutM N l i ++ [(p.1.take 40, p.2.take 40)] := by
  unfold cutM
  have hl : i < l.length := (List.getElem?_eq_some_iff.1 h).1
  have e1 : ((l.take i ++ [p]).take N) = l.take i ++ [p] := List.take_of_length_le (by simp; omega)
  have e2 : (l.take i).take N = l.take i := List.take_of_length_le (by simp; omega)
  rw [take_snoc h, e1, e2, List.map_append]
  rfl
theorem cutM_stay {N : Nat} {l : List Pr} {i : Nat} (hi : N ≤ i) : cutM N l (i + 1) = cutM N l i := by
  unfold cutM
  rw [List.take_take, List.take_take, show min N (i + 1) = N by omega, show min N i = N by omega]
theorem cutM_length (N : Nat) (l : List Pr) (i : Nat) : (cutM N l i).length ≤ N := by simp [cutM]; omega
theorem cutM_short {N : Nat} {l : List Pr} {i : Nat} {q : Pr} (h : q ∈ cutM N l i) : q.1.length ≤ 40 ∧ q.2.length ≤ 40 := by
  obtain ⟨p, _, rfl⟩ := List.mem_map.1 h
  simp; omega

/-- Pairs that rise, put one behind the other. -/
theorem rput_take {X : List Pr} (hr : Rise X) {i : Nat} {p : Pr} (h : X[i]? = some p) : rput (X.take i) p = X.take (i + 1) := by
  have hri : ∀ j, Rise (X.take j) := fun j => List.Pairwise.sublist (List.take_sublist j X) hr
  refine rise_ext _ _ (rput_rise (hri i) p) (hri (i + 1)) fun q => ?_
  rw [mem_rput, take_snoc h, List.mem_append, List.mem_singleton]
  constructor
  · rintro (rfl | ⟨h1, _⟩)
    · exact .inr rfl
    · exact .inl h1
  · rintro (h1 | rfl)
    · refine .inr ⟨h1, fun e => ?_⟩
      have hp := hri (i + 1)
      rw [take_snoc h] at hp
      have := (List.pairwise_append.1 hp).2.2 q h1 p (by simp)
      rw [e] at this
      exact k_irrefl _ this
    · exact .inl rfl

/-- Pairs put, of which no two unlike have one key. -/
theorem mem_puts {M0 : List Pr} : ∀ (L : List Pr), (∀ p ∈ L, ∀ q ∈ L, p.1 = q.1 → p = q) → ∀ q, q ∈ L.foldl rput M0 ↔ q ∈ L ∨ (q ∈ M0 ∧ ∀ p ∈ L, p.1 ≠ q.1) := by
  intro L
  induction L using snoc_ind with
  | h0 => intro _ q; simp
  | h1 L x ih =>
    intro hu q
    rw [List.foldl_append]
    simp only [List.foldl_cons, List.foldl_nil]
    rw [mem_rput, ih (fun p hp q hq => hu p (by simp [hp]) q (by simp [hq])) q]
    simp only [List.mem_append, List.mem_singleton]
    constructor
    · rintro (rfl | ⟨h1 | ⟨h1, h2⟩, h3⟩)
      · exact .inl (.inr rfl)
      · exact .inl (.inl h1)
      · refine .inr ⟨h1, fun p hp => ?_⟩
        rcases hp with hp | rfl
        · exact h2 p hp
        · exact fun e => h3 e.symm
    · rintro ((h1 | h1) | ⟨h1, h2⟩)
      · by_cases e : q.1 = x.1
        · exact .inl (hu q (by simp [h1]) x (by simp) e)
        · exact .inr ⟨.inl h1, e⟩
      · exact .inl h1
      · exact .inr ⟨.inr ⟨h1, fun p hp => h2 p (.inl hp)⟩, fun e => h2 x (.inr rfl) e.symm⟩

/-- What came and went, and what came in another order. -/
theorem order_end {X Tn M0 M2 : List Pr} {K : List UInt8 → Prop} (hX : Rise X) (hM : Rise M2) (hT : ∀ q, q ∈ Tn ↔ q ∈ X) (h0 : ∀ q ∈ M0, K q.1)
    (h1 : ∀ q ∈ X, q ∈ Tn.foldl rput M0 → q ∈ M2) (h2 : ∀ q ∈ M2, q ∈ Tn.foldl rput M0) (h3 : ∀ q ∈ M2, K q.1 → hasK X q.1 = true) : M2 = X := by
  have huX : ∀ p ∈ X, ∀ q ∈ X, p.1 = q.1 → p = q := by
    intro p hp q hq e
    obtain ⟨i, hi⟩ := List.mem_iff_getElem?.1 hp
    obtain ⟨j, hj⟩ := List.mem_iff_getElem?.1 hq
    have hil := (List.getElem?_eq_some_iff.1 hi)
    have hjl := (List.getElem?_eq_some_iff.1 hj)
    obtain ⟨hi1, hi2⟩ := hil
    obtain ⟨hj1, hj2⟩ := hjl
    rcases Nat.lt_trichotomy i j with h | h | h
    · have := List.pairwise_iff_getElem.1 hX i j hi1 hj1 h
      rw [hi2, hj2, e] at this
      exact absurd this (k_irrefl _)
    · subst h; rw [hi] at hj; exact Option.some.inj hj
    · have := List.pairwise_iff_getElem.1 hX j i hj1 hi1 h
      rw [hi2, hj2, e] at this
      exact absurd this (k_irrefl _)
  have hu : ∀ p ∈ Tn, ∀ q ∈ Tn, p.1 = q.1 → p = q := fun p hp q hq e => huX p ((hT p).1 hp) q ((hT q).1 hq) e
  refine rise_ext _ _ hM hX fun q => ⟨fun hq => ?_, fun hq => h1 q hq ((mem_puts Tn hu q).2 (.inl ((hT q).2 hq)))⟩
  rcases (mem_puts Tn hu q).1 (h2 q hq) with h | ⟨h, hn⟩
  · exact (hT q).1 h
  · obtain ⟨p, hp, e⟩ := hasK_iff.1 (h3 q hq (h0 q h))
    exact absurd e (hn p ((hT p).2 hp))
end Go.QS
