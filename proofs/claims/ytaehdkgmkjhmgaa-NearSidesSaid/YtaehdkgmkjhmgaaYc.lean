/- Plain laws: who is near a key in a list that rises, by its place. No program. -/
import Derived.Test.YtaehdkgmkjhmgaaYa
namespace Go.QS

/-- The pair at a place, if there is one. -/
def atI (x : List Pr) (i : Int) : Option Pr := if i < 0 then none else x[i.toNat]?
theorem atI_nat (x : List Pr) (i : Nat) : atI x (i : Int) = x[i]? := by
  unfold atI
  rw [if_neg (by omega)]
  rfl
theorem atI_neg (x : List Pr) {i : Int} (h : i < 0) : atI x i = none := if_pos h
theorem atI_out (x : List Pr) {i : Int} (h : (x.length : Int) ≤ i) : atI x i = none := by
  unfold atI
  split
  · rfl
  · exact List.getElem?_eq_none_iff.2 (by omega)

theorem cutK : ∀ {x : List Pr}, Rise x → ∀ key, ∃ A B C, x = A ++ (B ++ C) ∧ (∀ p ∈ A, p.1 < key) ∧ (B = [] ∨ ∃ v, B = [(key, v)]) ∧ (∀ p ∈ C, key < p.1)
  | [], _, key => ⟨[], [], [], rfl, by simp, .inl rfl, by simp⟩
  | p :: x, h, key => by
    have h' := rise_cons.1 h
    rcases k_tri p.1 key with h1 | h1 | h1
    · obtain ⟨A, B, C, e, ha, hb, hc⟩ := cutK h'.2 key
      refine ⟨p :: A, B, C, by rw [e]; rfl, ?_, hb, hc⟩
      intro q hq
      rcases List.mem_cons.1 hq with rfl | hq
      · exact h1
      · exact ha q hq
    · obtain ⟨k, v⟩ := p
      simp only at h1
      subst h1
      exact ⟨[], [(k, v)], x, rfl, by simp, .inr ⟨v, rfl⟩, fun q hq => h'.1 q hq⟩
    · refine ⟨[], [], p :: x, rfl, by simp, .inl rfl, ?_⟩
      intro q hq
      rcases List.mem_cons.1 hq with rfl | hq
      · exact h1
      · exact k_trans h1 (h'.1 q hq)

section
variable {A B C : List Pr} {key : List UInt8} (ha : ∀ p ∈ A, p.1 < key) (hb : B = [] ∨ ∃ v, B = [(key, v)]) (hc : ∀ p ∈ C, key < p.1)
include ha hb hc
theorem rank3 : rankL key (A ++ (B ++ C)) = A.length := by
  unfold rankL
  rw [List.filter_append, List.filter_append, List.filter_eq_self.2 (fun p hp => by simpa using ha p hp)]
  have h1 : B.filter (fun p => decide (p.1 < key)) = [] := by
    rcases hb with rfl | ⟨v, rfl⟩
    · rfl
    · simp [k_irrefl]
  have h2 : C.filter (fun p => decide (p.1 < key)) = [] := by
    rw [List.filter_eq_nil_iff]
    intro p hp
    simpa using k_asymm (hc p hp)
  rw [h1, h2]; simp
theorem near3 (d i : Bool) : nearL d i key (A ++ (B ++ C)) = pick d (if d then (if i then A ++ B else A) else (if i then B ++ C else C)) := by
  unfold nearL
  congr 1
  rw [List.filter_append, List.filter_append]
  have hA : ∀ p ∈ A, prd d i key p = d := by
    intro p hp
    have := ha p hp
    cases d
    · simp [prd, k_asymm this, k_ne this]
    · simp [prd, this]
  have hC : ∀ p ∈ C, prd d i key p = !d := by
    intro p hp
    have := hc p hp
    cases d
    · simp [prd, this]
    · have h2 : p.1 ≠ key := fun e => k_ne this e.symm
      simp [prd, k_asymm this, h2]
  have hB : ∀ p ∈ B, prd d i key p = i := by
    intro p hp
    rcases hb with rfl | ⟨v, rfl⟩
    · cases hp
    · rw [List.mem_singleton] at hp
      subst hp
      cases d <;> cases i <;> simp [prd, k_irrefl]
  have f1 : A.filter (prd d i key) = if d then A else [] := by
    cases d
    · exact List.filter_eq_nil_iff.2 fun p hp => by simp [hA p hp]
    · exact List.filter_eq_self.2 fun p hp => hA p hp
  have f2 : C.filter (prd d i key) = if d then [] else C := by
    cases d
    · exact List.filter_eq_self.2 fun p hp => hC p hp
    · exact List.filter_eq_nil_iff.2 fun p hp => by simp [hC p hp]
  have f3 : B.filter (prd d i key) = if i then B else [] := by
    cases i
    · exact List.filter_eq_nil_iff.2 fun p hp => by simp [hB p hp]
    · exact List.filter_eq_self.2 fun p hp => hB p hp
  rw [f1, f2, f3]
  cases d <;> cases i <;> simp
end

/-- Is a key at a place? -/
def hereB (x : List Pr) (key : List UInt8) : Bool := match x[rankL key x]? with
  | some p => p.1 == key
  | none => false
def nearI (x : List Pr) (key : List UInt8) (kind : Nat) : Int :=
  if kind = 0 then (if hereB x key then (rankL key x : Int) else (rankL key x : Int) - 1)
  else if kind = 2 then (rankL key x : Int) - 1
  else if kind = 3 then (if hereB x key then (rankL key x : Int) + 1 else (rankL key x : Int))
  else (rankL key x : Int)

theorem last_at (A : List Pr) (X : List Pr) : atI (A ++ X) ((A.length : Int) - 1) = A.getLast? := by
  rcases List.eq_nil_or_concat A with rfl | ⟨l, p, rfl⟩
  · exact atI_neg _ (by simp)
  · rw [List.concat_eq_append]
    have : (((l ++ [p]).length : Int) - 1) = (l.length : Int) := by simp
    rw [this, atI_nat]
    simp

theorem near_doc {x : List Pr} (h : Rise x) (key : List UInt8) (kind : Nat) (hk : kind < 4) : nearL (decide (kind = 0 ∨ kind = 2)) (decide (kind = 0 ∨ kind = 1)) key x = atI x (nearI x key kind) := by
  obtain ⟨A, B, C, rfl, ha, hb, hc⟩ := cutK h key
  rw [near3 ha hb hc]
  have hr := rank3 ha hb hc
  have hh : hereB (A ++ (B ++ C)) key = !B.isEmpty := by
    unfold hereB
    rw [hr, List.getElem?_append_right (Nat.le_refl _), Nat.sub_self]
    rcases hb with rfl | ⟨v, rfl⟩
    · cases C with
      | nil => rfl
      | cons c C =>
        have := hc c (List.mem_cons_self ..)
        have h2 : c.1 ≠ key := fun e => k_ne this e.symm
        simp [h2]
    · simp
  unfold nearI
  rw [hr, hh]
  match kind, hk with
  | 0, _ =>
    rcases hb with rfl | ⟨v, rfl⟩
    · simp only [decide_true, true_or, if_true, List.isEmpty_nil, Bool.not_true, Bool.false_eq_true, if_false, List.append_nil, List.nil_append]
      rw [last_at]; rfl
    · simp only [decide_true, true_or, if_true, List.isEmpty_cons, Bool.not_false]
      rw [atI_nat]
      simp [pick]
  | 1, _ =>
    simp only [show ¬ (1 : Nat) = 0 by decide, show ¬ (1 : Nat) = 2 by decide, show ¬ (1 : Nat) = 3 by decide, or_self, or_true, decide_false, decide_true, if_true, if_false, Bool.false_eq_true]
    rw [atI_nat, List.getElem?_append_right (Nat.le_refl _), Nat.sub_self]
    simp [pick, List.head?_eq_getElem?]
  | 2, _ =>
    simp only [show ¬ (2 : Nat) = 0 by decide, show ¬ (2 : Nat) = 1 by decide, or_self, or_true, decide_false, decide_true, if_true, if_false, Bool.false_eq_true]
    rw [last_at]; rfl
  | 3, _ =>
    simp only [show ¬ (3 : Nat) = 0 by decide, show ¬ (3 : Nat) = 1 by decide, show ¬ (3 : Nat) = 2 by decide, or_self, decide_false, if_true, if_false, Bool.false_eq_true]
    rcases hb with rfl | ⟨v, rfl⟩
    · simp only [List.isEmpty_nil, Bool.not_true, Bool.false_eq_true, if_false, List.nil_append]
      rw [atI_nat, List.getElem?_append_right (Nat.le_refl _), Nat.sub_self]
      simp [pick, List.head?_eq_getElem?]
    · simp only [List.isEmpty_cons, Bool.not_false, if_true]
      rw [show (A.length : Int) + 1 = ((A.length + 1 : Nat) : Int) by omega, atI_nat, List.getElem?_append_right (by omega), show A.length + 1 - A.length = 1 by omega]
      simp [pick, List.head?_eq_getElem?]

theorem rank_at {x : List Pr} (h : Rise x) {i : Nat} {p : Pr} (hp : x[i]? = some p) : rankL p.1 x = i ∧ hereB x p.1 = true := by
  have h0 : rankL p.1 x = i := by
    obtain ⟨hi, rfl⟩ := List.getElem?_eq_some_iff.1 hp
    have e : x = x.take i ++ x.drop i := (List.take_append_drop i x).symm
    have hpw := List.pairwise_iff_getElem.1 h
    have h1 : (x.take i).filter (fun q => decide (q.1 < x[i].1)) = x.take i := by
      refine List.filter_eq_self.2 fun q hq => ?_
      obtain ⟨t, ht⟩ := List.getElem?_of_mem hq
      have htl : t < i := by have := (List.getElem?_eq_some_iff.1 ht).1; rw [List.length_take] at this; omega
      rw [List.getElem?_take_of_lt htl] at ht
      obtain ⟨ht1, rfl⟩ := List.getElem?_eq_some_iff.1 ht
      simpa using hpw t i ht1 hi htl
    have h2 : (x.drop i).filter (fun q => decide (q.1 < x[i].1)) = [] := by
      refine List.filter_eq_nil_iff.2 fun q hq => ?_
      obtain ⟨t, ht⟩ := List.getElem?_of_mem hq
      rw [List.getElem?_drop] at ht
      obtain ⟨ht1, rfl⟩ := List.getElem?_eq_some_iff.1 ht
      cases t with
      | zero => simp [k_irrefl]
      | succ t => simpa using k_asymm (hpw i (i + (t + 1)) hi ht1 (by omega))
    have h3 : x.filter (fun q => decide (q.1 < x[i].1)) = x.take i := by
      obtain ⟨f, hf⟩ : ∃ f : Pr → Bool, f = fun q => decide (q.1 < x[i].1) := ⟨_, rfl⟩
      rw [← hf] at h1 h2 ⊢
      conv => lhs; rw [e]
      rw [List.filter_append, h1, h2, List.append_nil]
    unfold rankL
    rw [h3, List.length_take]
    omega
  refine ⟨h0, ?_⟩
  unfold hereB
  rw [h0, hp]
  simp

theorem begB_len {key a b : List UInt8} (ha : begB key a = true) (hb : begB key b = true) (h : a < b) : a.length < b.length := by
  obtain ⟨r, hr⟩ := begB_iff.1 ha
  obtain ⟨s, hs⟩ := begB_iff.1 hb
  rcases Nat.lt_or_ge a.length b.length with h1 | h1
  · exact h1
  · exfalso
    have : b = a.take b.length := by
      have h2 := congrArg (List.take b.length) (hr.symm.trans hs)
      rw [List.take_append_of_le_length h1, List.take_left] at h2
      exact h2.symm
    have e : a = b ++ a.drop b.length := by conv => lhs; rw [← List.take_append_drop b.length a, ← this]
    have h3 : ¬ (b ++ a.drop b.length < b) := by
      intro h3
      have : b ++ a.drop b.length < b ++ [] := by simpa using h3
      rw [app_lt] at this
      exact List.not_lt_nil _ this
    exact h3 (by rw [← e]; exact h)
theorem longL_snoc (key : List UInt8) (x : List Pr) (p : Pr) : longL key (x ++ [p]) = if begB key p.1 then some p else longL key x := by
  rw [longL_app]
  by_cases h : begB key p.1 = true
  · rw [if_pos h]; simp [longL, h]
  · rw [if_neg h]
    have : begB key p.1 = false := by simpa using h
    simp [longL, this]
theorem longL_mem {key : List UInt8} {x : List Pr} {p : Pr} (h : longL key x = some p) : p ∈ x ∧ begB key p.1 = true := by
  have := List.mem_of_getLast? h
  exact List.mem_filter.1 this
end Go.QS
