/- Plain laws of kids in order: where one is, or would be. No program. -/
import Derived.Test.YtbmakajadelckaaDoorRt
set_option linter.unusedVariables false
set_option linter.unusedSimpArgs false
namespace Go.QS

/-- Labels' first bytes rise. -/
def Heads (ks : List RT) : Prop := ks.Pairwise fun a b => a.hd < b.hd

theorem fI_cons (x : RT) (l : List RT) (c : Nat) : fI (x :: l) c = if x.hd < c then fI l c + 1 else 0 := by
  unfold fI
  rw [List.takeWhile_cons]
  by_cases h : x.hd < c <;> simp [h]
theorem fI_nil (c : Nat) : fI [] c = 0 := rfl
theorem fI_le (l : List RT) (c : Nat) : fI l c ≤ l.length := (List.takeWhile_sublist _).length_le

theorem fI_first : ∀ {l : List RT} {c i : Nat}, i ≤ l.length → (∀ t q, t < i → l[t]? = some q → q.hd < c) → (∀ q, l[i]? = some q → ¬ q.hd < c) → i = fI l c
  | [], c, i, h, _, _ => by simpa [fI] using h
  | x :: l, c, 0, _, _, h => by
    rw [fI_cons, if_neg (h x rfl)]
  | x :: l, c, i + 1, hi, h1, h2 => by
    rw [fI_cons, if_pos (h1 0 x (Nat.zero_lt_succ _) rfl), ← fI_first (by simpa using hi) (fun t q ht hq => h1 (t + 1) q (Nat.succ_lt_succ ht) hq) (fun q hq => h2 q hq)]

theorem fI_lt {l : List RT} {c t : Nat} {q : RT} (ht : t < fI l c) (hq : l[t]? = some q) : q.hd < c := by
  induction l generalizing t with
  | nil => cases hq
  | cons x l ih =>
    rw [fI_cons] at ht
    split at ht
    · cases t with
      | zero => cases hq; assumption
      | succ t => exact ih (Nat.lt_of_succ_lt_succ ht) hq
    · omega

theorem heads_cons {x : RT} {l : List RT} : Heads (x :: l) ↔ (∀ q ∈ l, x.hd < q.hd) ∧ Heads l := List.pairwise_cons

theorem fI_ge {l : List RT} {c t : Nat} {q : RT} (hs : Heads l) (ht : fI l c ≤ t) (hq : l[t]? = some q) : c ≤ q.hd := by
  induction l generalizing t with
  | nil => cases hq
  | cons x l ih =>
    rw [heads_cons] at hs
    rw [fI_cons] at ht
    split at ht
    · cases t with
      | zero => omega
      | succ t => exact ih hs.2 (by omega) hq
    · rename_i hx
      cases t with
      | zero => cases hq; omega
      | succ t => have := hs.1 q (List.mem_of_getElem? hq); omega

theorem fH_iff {l : List RT} {c : Nat} : fH l c = true ↔ ∃ q ∈ l, q.hd = c := by simp [fH]

theorem fH_at {l : List RT} {c : Nat} (hs : Heads l) : fH l c = (match l[fI l c]? with | some q => q.hd == c | none => false) := by
  cases h : l[fI l c]? with
  | none =>
    rw [Bool.eq_false_iff]
    intro hc
    obtain ⟨q, hq, e⟩ := fH_iff.1 hc
    obtain ⟨t, ht⟩ := List.getElem?_of_mem hq
    have h1 := (List.getElem?_eq_some_iff.1 ht).1
    have h2 := List.getElem?_eq_none_iff.1 h
    have := fI_lt (show t < fI l c by omega) ht
    omega
  | some q =>
    show fH l c = (q.hd == c)
    rw [Bool.eq_iff_iff, fH_iff, beq_iff_eq]
    constructor
    · rintro ⟨p, hp, e⟩
      obtain ⟨t, ht⟩ := List.getElem?_of_mem hp
      rcases Nat.lt_trichotomy t (fI l c) with h1 | h1 | h1
      · have := fI_lt h1 ht; omega
      · subst h1; rw [ht] at h; cases h; exact e
      · have hq := fI_ge hs (Nat.le_refl _) h
        obtain ⟨e1, e2⟩ := List.getElem?_eq_some_iff.1 h
        obtain ⟨e3, e4⟩ := List.getElem?_eq_some_iff.1 ht
        have := List.pairwise_iff_getElem.1 hs _ _ e1 e3 h1
        rw [e2, e4] at this
        omega
    · intro e
      exact ⟨q, List.mem_of_getElem? h, e⟩
end Go.QS
