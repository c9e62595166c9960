/- Where a key is, or would be, in a list that rises; with a pair and without one, cut by places. Plain laws. No program. -/
import Derived.Test.YtbmakajadelckaaDoorMap
set_option linter.unusedVariables false
set_option linter.unusedSimpArgs false
namespace Go.QS

/-- A byte of a string, by its place. -/
theorem idx_str {P : Program} {t : TypeId} (ht : P.underlying t = some .string) {a : List UInt8} {k : Nat} {x : UInt8} (h : a[k]? = some x) (w : World) : (Instr.index t (str a) (.int .i64 (k : Int))).run P w = .ok (.int .u8 (x.toNat : Int)) w := by
  have hk := (List.getElem?_eq_some_iff.1 h).1
  rw [run_index_string w t (bs a) .i64 k ht, dif_pos (by simp; omega)]
  congr 2
  simp only [Int.toNat_natCast, bs_get]
  rw [(List.getElem?_eq_some_iff.1 h).2]

/-- How many are less ahead of the first that isn't. -/
def fndI (l : List Pr) (k : List UInt8) : Nat := (l.takeWhile fun p => decide (p.1 < k)).length
def hasK (l : List Pr) (k : List UInt8) : Bool := l.any fun p => p.1 == k
theorem fndI_le (l : List Pr) (k : List UInt8) : fndI l k ≤ l.length := (List.takeWhile_sublist _).length_le
theorem fndI_cons (x : Pr) (l : List Pr) (k : List UInt8) : fndI (x :: l) k = if x.1 < k then fndI l k + 1 else 0 := by
  unfold fndI
  rw [List.takeWhile_cons]
  split <;> simp_all
theorem fndI_nil (k : List UInt8) : fndI [] k = 0 := rfl

theorem fnd_first : ∀ {l : List Pr} {k : List UInt8} {i : Nat}, i ≤ l.length → (∀ t q, t < i → l[t]? = some q → q.1 < k) → (∀ q, l[i]? = some q → ¬ q.1 < k) → i = fndI l k
  | [], k, i, h, _, _ => by simp at h; rw [h]; rfl
  | x :: l, k, 0, _, _, h2 => by rw [fndI_cons, if_neg (h2 x rfl)]
  | x :: l, k, i + 1, h, h1, h2 => by
    rw [fndI_cons, if_pos (h1 0 x (by omega) rfl)]
    congr 1
    exact fnd_first (by simpa using h) (fun t q ht hq => h1 (t + 1) q (by omega) (by simpa using hq)) (fun q hq => h2 q (by simpa using hq))

/-- Is the key there? As it is asked at the place. -/
theorem hasK_at : ∀ {l : List Pr} {k : List UInt8}, Rise l → hasK l k = (match l[fndI l k]? with | some q => q.1 == k | none => false)
  | [], k, _ => rfl
  | x :: l, k, h => by
    have h' := rise_cons.1 h
    rw [fndI_cons]
    by_cases hx : x.1 < k
    · rw [if_pos hx, List.getElem?_cons_succ, ← hasK_at h'.2]
      have : (x.1 == k) = false := by simp; exact k_ne hx
      simp [hasK, this]
    · rw [if_neg hx, List.getElem?_cons_zero]
      by_cases e : x.1 = k
      · simp [hasK, e]
      · have : hasK l k = false := by
          unfold hasK
          rw [List.any_eq_false]
          intro q hq e'
          have : k = q.1 := (by simpa using e' : q.1 = k).symm
          have h1 := h'.1 q hq
          rw [← this] at h1
          exact hx h1
        have e2 : (x.1 == k) = false := by simp [e]
        show (x.1 == k || hasK l k) = (x.1 == k)
        rw [this, e2]; rfl
theorem hasK_iff {l : List Pr} {k : List UInt8} : hasK l k = true ↔ ∃ q ∈ l, q.1 = k := by simp [hasK]

theorem rdrop_self {l : List Pr} {k : List UInt8} (h : hasK l k = false) : rdrop l k = l := by
  unfold rdrop
  rw [List.filter_eq_self]
  intro q hq
  simp only [hasK, List.any_eq_false] at h
  have := h q hq
  simpa using this

theorem rdrop_cut : ∀ {l : List Pr} {k : List UInt8}, Rise l → hasK l k = true → rdrop l k = l.take (fndI l k) ++ l.drop (fndI l k + 1)
  | [], k, _, h => by cases h
  | x :: l, k, h, hk => by
    have h' := rise_cons.1 h
    rw [fndI_cons]
    by_cases hx : x.1 < k
    · rw [if_pos hx]
      have e : (x.1 == k) = false := by simp; exact k_ne hx
      have hk' : hasK l k = true := by
        have : (x.1 == k || hasK l k) = true := hk
        rwa [e, Bool.false_or] at this
      have e2 : rdrop (x :: l) k = x :: rdrop l k := by unfold rdrop; rw [List.filter_cons, if_pos (by simpa using k_ne hx)]
      rw [e2, rdrop_cut h'.2 hk']; rfl
    · rw [if_neg hx]
      obtain ⟨q, hq, e⟩ := hasK_iff.1 hk
      have hxk : x.1 = k := by
        rcases List.mem_cons.1 hq with rfl | hq
        · exact e
        · exact absurd (by have := h'.1 q hq; rwa [e] at this) hx
      have hno : hasK l k = false := by
        rw [Bool.eq_false_iff]
        intro hh
        obtain ⟨q, hq, e⟩ := hasK_iff.1 hh
        exact k_ne (h'.1 q hq) (by rw [hxk, e])
      have e2 : rdrop (x :: l) k = rdrop l k := by unfold rdrop; rw [List.filter_cons, if_neg (by simpa using hxk)]
      rw [e2, rdrop_self hno]; rfl

theorem insB_cut : ∀ {l : List Pr} {p : Pr}, Rise l → hasK l p.1 = false → insB p l = l.take (fndI l p.1) ++ p :: l.drop (fndI l p.1)
  | [], p, _, _ => rfl
  | x :: l, p, h, hk => by
    have h' := rise_cons.1 h
    have hxk : x.1 ≠ p.1 := fun e => by
      have : (x.1 == p.1 || hasK l p.1) = false := hk
      simp [e] at this
    have hk' : hasK l p.1 = false := by
      have : (x.1 == p.1 || hasK l p.1) = false := hk
      simp only [Bool.or_eq_false_iff] at this
      exact this.2
    rw [fndI_cons]
    unfold insB
    by_cases hx : x.1 < p.1
    · rw [if_neg (k_asymm hx), if_pos hx, insB_cut h'.2 hk']; rfl
    · have : p.1 < x.1 := by
        rcases k_tri p.1 x.1 with e | e | e
        · exact e
        · exact absurd e.symm hxk
        · exact absurd e hx
      rw [if_pos this, if_neg hx]; rfl

theorem fndI_rdrop : ∀ {l : List Pr} {k : List UInt8}, Rise l → fndI (rdrop l k) k = fndI l k
  | [], k, _ => rfl
  | x :: l, k, h => by
    have h' := rise_cons.1 h
    by_cases hx : x.1 = k
    · have e2 : rdrop (x :: l) k = rdrop l k := by unfold rdrop; rw [List.filter_cons, if_neg (by simpa using hx)]
      rw [e2, fndI_rdrop h'.2, fndI_cons, if_neg (by rw [hx]; exact k_irrefl _)]
      cases l with
      | nil => rfl
      | cons y l => rw [fndI_cons, if_neg (by rw [← hx]; exact k_asymm (h'.1 y (by simp)))]
    · have e2 : rdrop (x :: l) k = x :: rdrop l k := by unfold rdrop; rw [List.filter_cons, if_pos (by simpa using hx)]
      rw [e2, fndI_cons, fndI_cons, fndI_rdrop h'.2]

/-- With a pair: cut at its place. -/
theorem rput_cut {l : List Pr} (h : Rise l) (p : Pr) : rput l p = l.take (fndI l p.1) ++ p :: (if hasK l p.1 then l.drop (fndI l p.1 + 1) else l.drop (fndI l p.1)) := by
  have hno : hasK (rdrop l p.1) p.1 = false := by
    rw [Bool.eq_false_iff]
    intro hh
    obtain ⟨q, hq, e⟩ := hasK_iff.1 hh
    exact (mem_rdrop.1 hq).2 e
  unfold rput
  rw [insB_cut (rdrop_rise h _) hno, fndI_rdrop h]
  cases hk : hasK l p.1 with
  | false => rw [rdrop_self hk]; rfl
  | true =>
    rw [rdrop_cut h hk]
    have e : (l.take (fndI l p.1)).length = fndI l p.1 := List.length_take_of_le (fndI_le _ _)
    rw [List.take_append_of_le_length (by omega), List.take_of_length_le (by omega), List.drop_append_of_le_length (by omega), List.drop_eq_nil_of_le (by omega)]
    simp

theorem riseB_idx : ∀ (l : List Pr), riseB l = true ↔ ∀ i p q, l[i]? = some p → l[i + 1]? = some q → p.1 < q.1
  | [] => by simp [riseB]
  | [x] => by simp [riseB]
  | x :: y :: r => by
    rw [riseB, Bool.and_eq_true, decide_eq_true_eq, riseB_idx (y :: r)]
    constructor
    · rintro ⟨h1, h2⟩ i p q hp hq
      cases i with
      | zero => simp at hp hq; rw [← hp, ← hq]; exact h1
      | succ i => exact h2 i p q (by simpa using hp) (by simpa using hq)
    · intro h
      exact ⟨h 0 x y rfl rfl, fun i p q hp hq => h (i + 1) p q (by simpa using hp) (by simpa using hq)⟩
/-- Less, byte by byte. -/
theorem less_at {a b : List UInt8} {k : Nat} {x y : UInt8} (ht : a.take k = b.take k) (hx : a[k]? = some x) (hy : b[k]? = some y) (hne : x ≠ y) : a < b ↔ x.toNat < y.toNat := by
  have ea : a = a.take k ++ x :: a.drop (k + 1) := by rw [← drop_cons hx, List.take_append_drop]
  have eb : b = a.take k ++ y :: b.drop (k + 1) := by rw [ht, ← drop_cons hy, List.take_append_drop]
  rw [ea, eb]
  generalize a.take k = c
  induction c with
  | nil =>
    simp only [List.nil_append, List.cons_lt_cons_iff]
    constructor
    · rintro (h | ⟨h, _⟩)
      · exact UInt8.lt_iff_toNat_lt.1 h
      · exact absurd h hne
    · intro h; exact .inl (UInt8.lt_iff_toNat_lt.2 h)
  | cons z c ih =>
    simp only [List.cons_append, List.cons_lt_cons_iff]
    refine Iff.trans ?_ ih
    constructor
    · rintro (h | ⟨_, h⟩)
      · exact absurd h (UInt8.lt_irrefl _)
      · exact h
    · intro h; exact .inr ⟨trivial, h⟩
theorem less_pre {a b : List UInt8} {k : Nat} (ht : a.take k = b.take k) (hk : k = a.length ∨ k = b.length) (hka : k ≤ a.length) (hkb : k ≤ b.length) : a < b ↔ a.length < b.length := by
  have lt_app : ∀ (c : List UInt8) (x : UInt8) (d : List UInt8), c < c ++ x :: d := by
    intro c x d
    induction c with
    | nil => exact List.nil_lt_cons _ _
    | cons z c ih => exact List.cons_lt_cons_iff.2 (.inr ⟨rfl, ih⟩)
  rcases hk with rfl | rfl
  · rw [List.take_length] at ht
    have e : b = a ++ b.drop a.length := by
      have h := (List.take_append_drop a.length b).symm
      rwa [← ht] at h
    cases hd : b.drop a.length with
    | nil =>
      have : b.length = a.length := by rw [e, hd]; simp
      constructor
      · intro h
        rw [e, hd, List.append_nil] at h
        exact absurd h (List.lt_irrefl _)
      · intro h; omega
    | cons x d =>
      rw [hd] at e
      have e1 : a < b := by rw [e]; exact lt_app a x d
      have e2 : a.length < b.length := by rw [e]; simp
      exact ⟨fun _ => e2, fun _ => e1⟩
  · rw [List.take_length] at ht
    have e : a = b ++ a.drop b.length := by
      have h := (List.take_append_drop b.length a).symm
      rwa [ht] at h
    constructor
    · intro h
      cases hd : a.drop b.length with
      | nil =>
        rw [hd, List.append_nil] at e
        rw [e] at h
        exact absurd h (List.lt_irrefl _)
      | cons x d =>
        rw [hd] at e
        have : b < a := by rw [e]; exact lt_app b x d
        exact absurd (List.lt_trans h this) (List.lt_irrefl _)
    · intro h; omega

/-! ### What PairTurns says -/
theorem rput_comm {s : List Pr} (h : Rise s) {p q : Pr} (hpq : p.1 ≠ q.1) : rput (rput s p) q = rput (rput s q) p := by
  refine rise_ext _ _ (rput_rise (rput_rise h _) _) (rput_rise (rput_rise h _) _) fun x => ?_
  simp only [mem_rput]
  constructor
  · rintro (rfl | ⟨rfl | ⟨h1, h2⟩, h3⟩)
    · exact .inr ⟨.inl rfl, fun e => hpq e.symm⟩
    · exact .inl rfl
    · exact .inr ⟨.inr ⟨h1, h3⟩, h2⟩
  · rintro (rfl | ⟨rfl | ⟨h1, h2⟩, h3⟩)
    · exact .inr ⟨.inl rfl, hpq⟩
    · exact .inl rfl
    · exact .inr ⟨.inr ⟨h1, h3⟩, h2⟩
theorem rput_twice {s : List Pr} (h : Rise s) {p q : Pr} (hpq : p.1 = q.1) : rput (rput s p) q = rput s q := by
  refine rise_ext _ _ (rput_rise (rput_rise h _) _) (rput_rise h _) fun x => ?_
  simp only [mem_rput]
  constructor
  · rintro (rfl | ⟨rfl | ⟨h1, h2⟩, h3⟩)
    · exact .inl rfl
    · exact absurd hpq h3
    · exact .inr ⟨h1, h3⟩
  · rintro (rfl | ⟨h1, h3⟩)
    · exact .inl rfl
    · exact .inr ⟨.inr ⟨h1, by rw [hpq]; exact h3⟩, h3⟩
theorem rput_back {s : List Pr} (h : Rise s) {x : Pr} (hx : x ∈ s) : rput (rdrop s x.1) x = s := by
  refine rise_ext _ _ (rput_rise (rdrop_rise h _) _) h fun y => ?_
  simp only [mem_rput, mem_rdrop]
  constructor
  · rintro (rfl | ⟨⟨h1, _⟩, _⟩)
    · exact hx
    · exact h1
  · intro hy
    by_cases e : y.1 = x.1
    · have a := (lastK_rise h x).2 hx
      have b := (lastK_rise h y).2 hy
      rw [e, a] at b
      exact .inl (Option.some.inj b).symm
    · exact .inr ⟨⟨hy, e⟩, e⟩
theorem rdrop_rput {s : List Pr} (h : Rise s) {p : Pr} (hk : hasK s p.1 = false) : rdrop (rput s p) p.1 = s := by
  refine rise_ext _ _ (rdrop_rise (rput_rise h _) _) h fun y => ?_
  simp only [mem_rput, mem_rdrop]
  constructor
  · rintro ⟨rfl | ⟨h1, _⟩, h2⟩
    · exact absurd rfl h2
    · exact h1
  · intro hy
    have : y.1 ≠ p.1 := fun e => by
      have := hasK_iff.2 ⟨y, hy, e⟩
      rw [hk] at this; cases this
    exact ⟨.inr ⟨hy, this⟩, this⟩
theorem rput_length (l : List Pr) (p : Pr) : (rput l p).length ≤ l.length + 1 := by
  have h1 : ∀ (l : List Pr), (insB p l).length = l.length + 1 := by
    intro l
    induction l with
    | nil => rfl
    | cons x l ih => unfold insB; split <;> simp [ih]
  unfold rput
  rw [h1]
  have : (rdrop l p.1).length ≤ l.length := List.length_filter_le _ _
  omega
theorem rdrop_length (l : List Pr) (k : List UInt8) : (rdrop l k).length ≤ l.length := List.length_filter_le _ _
theorem rsort_length (l : List Pr) : (rsort l).length ≤ l.length := by rw [← sortedP_eq]; exact sortedP_length l
end Go.QS
