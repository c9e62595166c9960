/- Texts joined. -/
import Derived.Test.YtigoffdehdobiaaGreatM06
set_option linter.unusedVariables false
set_option linter.unusedSimpArgs false
/- Lists of pairs that rise: a map's lists. Plain laws. No program. -/
namespace Go.QS

/-- Key by key it rises. -/
def Rise (l : List Pr) : Prop := l.Pairwise fun p q => p.1 < q.1
theorem rise_cons {x : Pr} {l : List Pr} : Rise (x :: l) ↔ (∀ q ∈ l, x.1 < q.1) ∧ Rise l := List.pairwise_cons

theorem rise_ext : ∀ (a b : List Pr), Rise a → Rise b → (∀ p, p ∈ a ↔ p ∈ b) → a = b
  | [], [], _, _, _ => rfl
  | [], y :: t, _, _, h => absurd ((h y).2 (by simp)) (by simp)
  | x :: s, [], _, _, h => absurd ((h x).1 (by simp)) (by simp)
  | x :: s, y :: t, h1, h2, h => by
    have a1 := rise_cons.1 h1
    have a2 := rise_cons.1 h2
    have hxy : x = y := by
      rcases List.mem_cons.1 ((h x).1 (by simp)) with e | e
      · exact e
      · rcases List.mem_cons.1 ((h y).2 (by simp)) with e' | e'
        · exact e'.symm
        · exact absurd (a1.1 _ e') (k_asymm (a2.1 _ e))
    subst hxy
    have : ∀ p, p ∈ s ↔ p ∈ t := by
      intro p
      constructor
      · intro hp
        rcases List.mem_cons.1 ((h p).1 (List.mem_cons_of_mem _ hp)) with e | e
        · subst e; exact absurd (a1.1 _ hp) (k_irrefl _)
        · exact e
      · intro hp
        rcases List.mem_cons.1 ((h p).2 (List.mem_cons_of_mem _ hp)) with e | e
        · subst e; exact absurd (a2.1 _ hp) (k_irrefl _)
        · exact e
    rw [rise_ext s t a1.2 a2.2 this]

/-- Without a key's. -/
def rdrop (l : List Pr) (k : List UInt8) : List Pr := l.filter fun p => p.1 != k
/-- Ahead of the first that is greater. -/
def insB (p : Pr) : List Pr → List Pr
  | [] => [p]
  | q :: r => if p.1 < q.1 then p :: q :: r else q :: insB p r
/-- With a pair. -/
def rput (l : List Pr) (p : Pr) : List Pr := insB p (rdrop l p.1)
/-- The document's sorted list. -/
def rsort (l : List Pr) : List Pr := l.foldl rput []

theorem mem_rdrop {l : List Pr} {k : List UInt8} {q : Pr} : q ∈ rdrop l k ↔ q ∈ l ∧ q.1 ≠ k := by simp [rdrop]
theorem mem_insB {p q : Pr} : ∀ {l : List Pr}, q ∈ insB p l ↔ q = p ∨ q ∈ l
  | [] => by simp [insB]
  | x :: r => by
    unfold insB
    split
    · simp
    · rw [List.mem_cons, mem_insB (l := r), List.mem_cons]
      constructor
      · rintro (h | h | h) <;> simp [h]
      · rintro (h | h | h) <;> simp [h]
theorem mem_rput {l : List Pr} {p q : Pr} : q ∈ rput l p ↔ q = p ∨ (q ∈ l ∧ q.1 ≠ p.1) := by rw [rput, mem_insB, mem_rdrop]
theorem rdrop_rise {l : List Pr} (h : Rise l) (k : List UInt8) : Rise (rdrop l k) := List.Pairwise.filter _ h
theorem insB_rise {p : Pr} : ∀ {l : List Pr}, Rise l → (∀ q ∈ l, q.1 ≠ p.1) → Rise (insB p l)
  | [], _, _ => by simp [insB, Rise]
  | x :: r, h, hn => by
    have h' := rise_cons.1 h
    unfold insB
    split
    · rename_i hlt
      refine rise_cons.2 ⟨fun q hq => ?_, h⟩
      rcases List.mem_cons.1 hq with rfl | hq
      · exact hlt
      · exact k_trans hlt (h'.1 q hq)
    · rename_i hlt
      have hx : x.1 < p.1 := by
        rcases k_tri p.1 x.1 with e | e | e
        · exact absurd e hlt
        · exact absurd e.symm (hn x (by simp))
        · exact e
      refine rise_cons.2 ⟨fun q hq => ?_, insB_rise h'.2 fun q hq => hn q (List.mem_cons_of_mem _ hq)⟩
      rcases mem_insB.1 hq with rfl | hq
      · exact hx
      · exact h'.1 q hq
theorem rput_rise {l : List Pr} (h : Rise l) (p : Pr) : Rise (rput l p) := insB_rise (rdrop_rise h _) fun _ hq => (mem_rdrop.1 hq).2
theorem rise_nil : Rise [] := by simp [Rise]
theorem rsort_rise (l : List Pr) : Rise (rsort l) := by
  have : ∀ (l m : List Pr), Rise m → Rise (l.foldl rput m) := by
    intro l
    induction l with
    | nil => intro m h; exact h
    | cons p l ih => intro m h; exact ih _ (rput_rise h p)
  exact this l [] rise_nil

/-- The last pair of a key. -/
def lastK (l : List Pr) (k : List UInt8) : Option Pr := (l.filter fun p => p.1 == k).getLast?
theorem lastK_snoc (l : List Pr) (q : Pr) (k : List UInt8) : lastK (l ++ [q]) k = if q.1 = k then some q else lastK l k := by
  unfold lastK
  rw [List.filter_append]
  by_cases h : q.1 = k
  · simp [h]
  · simp [h]
theorem lastK_stb {l l' : List Pr} (h : Stb l l') (k : List UInt8) : lastK l k = lastK l' k := by unfold lastK; rw [h k]
theorem rsort_snoc (l : List Pr) (q : Pr) : rsort (l ++ [q]) = rput (rsort l) q := by simp [rsort]
theorem snoc_ind {α : Type} {C : List α → Prop} (h0 : C []) (h1 : ∀ l x, C l → C (l ++ [x])) (l : List α) : C l := by
  have : ∀ n (l : List α), l.length = n → C l := by
    intro n
    induction n with
    | zero => intro l hl; rw [List.eq_nil_of_length_eq_zero hl]; exact h0
    | succ n ih =>
      intro l hl
      rcases List.eq_nil_or_concat l with h | ⟨l', x, h⟩
      · rw [h]; exact h0
      · rw [h, List.concat_eq_append]
        exact h1 _ _ (ih _ (by rw [h] at hl; simpa using hl))
  exact this _ l rfl
theorem mem_rsort (l : List Pr) (p : Pr) : p ∈ rsort l ↔ lastK l p.1 = some p := by
  induction l using snoc_ind with
  | h0 => simp [rsort, lastK]
  | h1 l q ih =>
    rw [rsort_snoc, mem_rput, lastK_snoc, ih]
    by_cases h : q.1 = p.1
    · rw [if_pos h]
      constructor
      · rintro (e | ⟨_, e⟩)
        · rw [e]
        · exact absurd h.symm e
      · intro e; exact .inl (Option.some.inj e).symm
    · rw [if_neg h]
      constructor
      · rintro (e | ⟨e, _⟩)
        · exact absurd (by rw [e]) h
        · exact e
      · intro e; exact .inr ⟨e, fun e' => h e'.symm⟩
theorem lastK_mem {l : List Pr} {k : List UInt8} {p : Pr} (h : lastK l k = some p) : p ∈ l ∧ p.1 = k := by
  have := List.mem_of_getLast? h
  simpa using List.mem_filter.1 this

theorem lastOf_sub : ∀ (l : List Pr), (lastOf l).Sublist l
  | [] => List.Sublist.refl _
  | [x] => List.Sublist.refl _
  | x :: y :: r => by
    unfold lastOf
    split
    · exact (lastOf_sub (y :: r)).cons _
    · exact (lastOf_sub (y :: r)).cons_cons _
theorem mem_lastOf : ∀ (L : List Pr), Srt L → ∀ p, p ∈ lastOf L ↔ lastK L p.1 = some p
  | [], _, p => by simp [lastOf, lastK]
  | [x], _, p => by
    by_cases h : x.1 = p.1
    · simp [lastOf, lastK, h, eq_comm]
    · have : ¬ p = x := fun e => h (by rw [e])
      simp [lastOf, lastK, h, this]
  | x :: y :: r, hs, p => by
    have h' := List.pairwise_cons.1 hs
    have ih := mem_lastOf (y :: r) h'.2 p
    by_cases hxy : x.1 = y.1
    · rw [lastOf_skip hxy, ih]
      by_cases hp : x.1 = p.1
      · have e1 : lastK (x :: y :: r) p.1 = lastK (y :: r) p.1 := by
          unfold lastK
          have e : y.1 = p.1 := by rw [← hxy]; exact hp
          simp only [List.filter_cons, hp, e, beq_self_eq_true, if_true]
          rw [List.getLast?_cons_cons]
        rw [e1]
      · have e1 : lastK (x :: y :: r) p.1 = lastK (y :: r) p.1 := by
          unfold lastK
          rw [List.filter_cons, if_neg (by simpa using hp)]
        rw [e1]
    · rw [lastOf_keep hxy, List.mem_cons]
      have hlt : ∀ q ∈ y :: r, x.1 < q.1 := by
        have hxy' : x.1 < y.1 := by
          rcases k_tri x.1 y.1 with e | e | e
          · exact e
          · exact absurd e hxy
          · exact absurd e (h'.1 y (by simp))
        intro q hq
        rcases List.mem_cons.1 hq with rfl | hq
        · exact hxy'
        · rcases k_tri x.1 q.1 with e | e | e
          · exact e
          · exact absurd (by rw [← e]; exact hxy') ((List.pairwise_cons.1 h'.2).1 q hq)
          · exact absurd e (h'.1 q (List.mem_cons_of_mem _ hq))
      by_cases hp : x.1 = p.1
      · have e1 : lastK (x :: y :: r) p.1 = some x := by
          unfold lastK
          have : (y :: r).filter (fun q => q.1 == p.1) = [] := by
            rw [List.filter_eq_nil_iff]
            intro q hq e
            exact k_ne (hlt q hq) (by rw [hp]; exact (by simpa using e : q.1 = p.1).symm)
          rw [List.filter_cons, if_pos (by simpa using hp), this]; rfl
        rw [e1]
        constructor
        · rintro (e | e)
          · rw [e]
          · have := (lastOf_sub (y :: r)).subset e
            exact absurd hp (k_ne (hlt p this))
        · intro e; exact .inl (Option.some.inj e).symm
      · have e1 : lastK (x :: y :: r) p.1 = lastK (y :: r) p.1 := by
          unfold lastK
          rw [List.filter_cons, if_neg (by simpa using hp)]
        rw [e1, ← ih]
        constructor
        · rintro (e | e)
          · exact absurd (by rw [e]) hp
          · exact e
        · exact .inr
theorem lastOf_rise : ∀ (L : List Pr), Srt L → Rise (lastOf L)
  | [], _ => rise_nil
  | [x], _ => by simp [lastOf, Rise]
  | x :: y :: r, hs => by
    have h' := List.pairwise_cons.1 hs
    by_cases hxy : x.1 = y.1
    · rw [lastOf_skip hxy]; exact lastOf_rise _ h'.2
    · rw [lastOf_keep hxy]
      refine rise_cons.2 ⟨fun q hq => ?_, lastOf_rise _ h'.2⟩
      have hq := (lastOf_sub (y :: r)).subset hq
      have hxy' : x.1 < y.1 := by
        rcases k_tri x.1 y.1 with e | e | e
        · exact e
        · exact absurd e hxy
        · exact absurd e (h'.1 y (by simp))
      rcases List.mem_cons.1 hq with rfl | hq
      · exact hxy'
      · rcases k_tri x.1 q.1 with e | e | e
        · exact e
        · exact absurd (by rw [← e]; exact hxy') ((List.pairwise_cons.1 h'.2).1 q hq)
        · exact absurd e (h'.1 q (List.mem_cons_of_mem _ hq))
theorem sortedP_rise (l : List Pr) : Rise (sortedP l) := lastOf_rise _ (ssort_srt l)
theorem sortedP_eq (l : List Pr) : sortedP l = rsort l := by
  refine rise_ext _ _ (sortedP_rise l) (rsort_rise l) fun p => ?_
  rw [sortedP, mem_lastOf _ (ssort_srt l), mem_rsort, lastK_stb (ssort_stb l)]
theorem lastK_rise : ∀ {l : List Pr}, Rise l → ∀ p, lastK l p.1 = some p ↔ p ∈ l
  | [], _, p => by simp [lastK]
  | x :: l, h, p => by
    have h' := rise_cons.1 h
    have ih := lastK_rise h'.2 p
    by_cases hp : x.1 = p.1
    · have : l.filter (fun q => q.1 == p.1) = [] := by
        rw [List.filter_eq_nil_iff]
        intro q hq e
        exact k_ne (h'.1 q hq) (by rw [hp]; exact (by simpa using e : q.1 = p.1).symm)
      unfold lastK
      rw [List.filter_cons, if_pos (by simpa using hp), this, List.mem_cons]
      constructor
      · intro e; exact .inl (Option.some.inj e).symm
      · rintro (e | e)
        · rw [e]; rfl
        · exact absurd hp (k_ne (h'.1 p e))
    · have e1 : lastK (x :: l) p.1 = lastK l p.1 := by
        unfold lastK
        rw [List.filter_cons, if_neg (by simpa using hp)]
      rw [e1, ih, List.mem_cons]
      constructor
      · exact .inr
      · rintro (e | e)
        · exact absurd (by rw [e]) hp
        · exact e
theorem rsort_self {l : List Pr} (h : Rise l) : rsort l = l := rise_ext _ _ (rsort_rise l) h fun p => by rw [mem_rsort, lastK_rise h]
theorem sortedP_self {l : List Pr} (h : Rise l) : sortedP l = l := by rw [sortedP_eq, rsort_self h]

/-- What Rises answers: neighbour by neighbour. -/
def riseB : List Pr → Bool
  | x :: y :: r => decide (x.1 < y.1) && riseB (y :: r)
  | _ => true
theorem riseB_iff : ∀ l, riseB l = true ↔ Rise l
  | [] => by simp [riseB, Rise]
  | [x] => by simp [riseB, Rise]
  | x :: y :: r => by
    rw [riseB, Bool.and_eq_true, decide_eq_true_eq, riseB_iff (y :: r)]
    constructor
    · rintro ⟨h1, h2⟩
      refine rise_cons.2 ⟨fun q hq => ?_, h2⟩
      rcases List.mem_cons.1 hq with rfl | hq
      · exact h1
      · exact k_trans h1 ((rise_cons.1 h2).1 q hq)
    · intro h
      have := rise_cons.1 h
      exact ⟨this.1 y (by simp), this.2⟩
end Go.QS
/- Where a key is, or would be, in a list that rises; with a pair and without one, cut by places. Plain laws. No program. -/
namespace Go.QS

/-- A byte of a string, by its place. -/
theorem idx_str {P : Program} {t : TypeId} (ht : P.underlying t = some .string) {a : List UInt8} {k : Nat} {x : UInt8} (h : a[k]? = some x) (w : World) : (Instr.index t (str a) (.int .i64 (k : Int))).run P w = .ok (.int .u8 (x.toNat : Int)) w := by
  have hk := (List.getElem?_eq_some_iff.1 h).1
  rw [run_index_string w t (bs a) .i64 k ht, dif_pos (by simp; omega)]
  congr 2
  simp only [Int.toNat_natCast, bs_get]
  rw [(List.getElem?_eq_some_iff.1 h).2]

/-- How many are less ahead of the first that isn't. -/
def fndI (l : List Pr) (k : List UInt8) : Nat := (l.takeWhile fun p => decide (p.1 < k)).length
def hasK (l : List Pr) (k : List UInt8) : Bool := l.any fun p => p.1 == k
theorem fndI_le (l : List Pr) (k : List UInt8) : fndI l k ≤ l.length := (List.takeWhile_sublist _).length_le
theorem fndI_cons (x : Pr) (l : List Pr) (k : List UInt8) : fndI (x :: l) k = if x.1 < k then fndI l k + 1 else 0 := by
  unfold fndI
  rw [List.takeWhile_cons]
  split <;> simp_all
theorem fndI_nil (k : List UInt8) : fndI [] k = 0 := rfl

theorem fnd_first : ∀ {l : List Pr} {k : List UInt8} {i : Nat}, i ≤ l.length → (∀ t q, t < i → l[t]? = some q → q.1 < k) → (∀ q, l[i]? = some q → ¬ q.1 < k) → i = fndI l k
  | [], k, i, h, _, _ => by simp at h; rw [h]; rfl
  | x :: l, k, 0, _, _, h2 => by rw [fndI_cons, if_neg (h2 x rfl)]
  | x :: l, k, i + 1, h, h1, h2 => by
    rw [fndI_cons, if_pos (h1 0 x (by omega) rfl)]
    congr 1
    exact fnd_first (by simpa using h) (fun t q ht hq => h1 (t + 1) q (by omega) (by simpa using hq)) (fun q hq => h2 q (by simpa using hq))

/-- Is the key there? As it is asked at the place. -/
theorem hasK_at : ∀ {l : List Pr} {k : List UInt8}, Rise l → hasK l k = (match l[fndI l k]? with | some q => q.1 == k | none => false)
  | [], k, _ => rfl
  | x :: l, k, h => by
    have h' := rise_cons.1 h
    rw [fndI_cons]
    by_cases hx : x.1 < k
    · rw [if_pos hx, List.getElem?_cons_succ, ← hasK_at h'.2]
      have : (x.1 == k) = false := by simp; exact k_ne hx
      simp [hasK, this]
    · rw [if_neg hx, List.getElem?_cons_zero]
      by_cases e : x.1 = k
      · simp [hasK, e]
      · have : hasK l k = false := by
          unfold hasK
          rw [List.any_eq_false]
          intro q hq e'
          have : k = q.1 := (by simpa using e' : q.1 = k).symm
          have h1 := h'.1 q hq
          rw [← this] at h1
          exact hx h1
        have e2 : (x.1 == k) = false := by simp [e]
        show (x.1 == k || hasK l k) = (x.1 == k)
        rw [this, e2]; rfl
theorem hasK_iff {l : List Pr} {k : List UInt8} : hasK l k = true ↔ ∃ q ∈ l, q.1 = k := by simp [hasK]

theorem rdrop_self {l : List Pr} {k : List UInt8} (h : hasK l k = false) : rdrop l k = l := by
  unfold rdrop
  rw [List.filter_eq_self]
  intro q hq
  simp only [hasK, List.any_eq_false] at h
  have := h q hq
  simpa using this

theorem rdrop_cut : ∀ {l : List Pr} {k : List UInt8}, Rise l → hasK l k = true → rdrop l k = l.take (fndI l k) ++ l.drop (fndI l k + 1)
  | [], k, _, h => by cases h
  | x :: l, k, h, hk => by
    have h' := rise_cons.1 h
    rw [fndI_cons]
    by_cases hx : x.1 < k
    · rw [if_pos hx]
      have e : (x.1 == k) = false := by simp; exact k_ne hx
      have hk' : hasK l k = true := by
        have : (x.1 == k || hasK l k) = true := hk
        rwa [e, Bool.false_or] at this
      have e2 : rdrop (x :: l) k = x :: rdrop l k := by unfold rdrop; rw [List.filter_cons, if_pos (by simpa using k_ne hx)]
      rw [e2, rdrop_cut h'.2 hk']; rfl
    · rw [if_neg hx]
      obtain ⟨q, hq, e⟩ := hasK_iff.1 hk
      have hxk : x.1 = k := by
        rcases List.mem_cons.1 hq with rfl | hq
        · exact e
        · exact absurd (by have := h'.1 q hq; rwa [e] at this) hx
      have hno : hasK l k = false := by
        rw [Bool.eq_false_iff]
        intro hh
        obtain ⟨q, hq, e⟩ := hasK_iff.1 hh
        exact k_ne (h'.1 q hq) (by rw [hxk, e])
      have e2 : rdrop (x :: l) k = rdrop l k := by unfold rdrop; rw [List.filter_cons, if_neg (by simpa using hxk)]
      rw [e2, rdrop_self hno]; rfl

theorem insB_cut : ∀ {l : List Pr} {p : Pr}, Rise l → hasK l p.1 = false → insB p l = l.take (fndI l p.1) ++ p :: l.drop (fndI l p.1)
  | [], p, _, _ => rfl
  | x :: l, p, h, hk => by
    have h' := rise_cons.1 h
    have hxk : x.1 ≠ p.1 := fun e => by
      have : (x.1 == p.1 || hasK l p.1) = false := hk
      simp [e] at this
    have hk' : hasK l p.1 = false := by
      have : (x.1 == p.1 || hasK l p.1) = false := hk
      simp only [Bool.or_eq_false_iff] at this
      exact this.2
    rw [fndI_cons]
    unfold insB
    by_cases hx : x.1 < p.1
    · rw [if_neg (k_asymm hx), if_pos hx, insB_cut h'.2 hk']; rfl
    · have : p.1 < x.1 := by
        rcases k_tri p.1 x.1 with e | e | e
        · exact e
        · exact absurd e.symm hxk
        · exact absurd e hx
      rw [if_pos this, if_neg hx]; rfl

theorem fndI_rdrop : ∀ {l : List Pr} {k : List UInt8}, Rise l → fndI (rdrop l k) k = fndI l k
  | [], k, _ => rfl
  | x :: l, k, h => by
    have h' := rise_cons.1 h
    by_cases hx : x.1 = k
    · have e2 : rdrop (x :: l) k = rdrop l k := by unfold rdrop; rw [List.filter_cons, if_neg (by simpa using hx)]
      rw [e2, fndI_rdrop h'.2, fndI_cons, if_neg (by rw [hx]; exact k_irrefl _)]
      cases l with
      | nil => rfl
      | cons y l => rw [fndI_cons, if_neg (by rw [← hx]; exact k_asymm (h'.1 y (by simp)))]
    · have e2 : rdrop (x :: l) k = x :: rdrop l k := by unfold rdrop; rw [List.filter_cons, if_pos (by simpa using hx)]
      rw [e2, fndI_cons, fndI_cons, fndI_rdrop h'.2]

/-- With a pair: cut at its place. -/
theorem rput_cut {l : List Pr} (h : Rise l) (p : Pr) : rput l p = l.take (fndI l p.1) ++ p :: (if hasK l p.1 then l.drop (fndI l p.1 + 1) else l.drop (fndI l p.1)) := by
  have hno : hasK (rdrop l p.1) p.1 = false := by
    rw [Bool.eq_false_iff]
    intro hh
    obtain ⟨q, hq, e⟩ := hasK_iff.1 hh
    exact (mem_rdrop.1 hq).2 e
  unfold rput
  rw [insB_cut (rdrop_rise h _) hno, fndI_rdrop h]
  cases hk : hasK l p.1 with
  | false => rw [rdrop_self hk]; rfl
  | true =>
    rw [rdrop_cut h hk]
    have e : (l.take (fndI l p.1)).length = fndI l p.1 := List.length_take_of_le (fndI_le _ _)
    rw [List.take_append_of_le_length (by omega), List.take_of_length_le (by omega), List.drop_append_of_le_length (by omega), List.drop_eq_nil_of_le (by omega)]
    simp

theorem riseB_idx : ∀ (l : List Pr), riseB l = true ↔ ∀ i p q, l[i]? = some p → l[i + 1]? = some q → p.1 < q.1
  | [] => by simp [riseB]
  | [x] => by simp [riseB]
  | x :: y :: r => by
    rw [riseB, Bool.and_eq_true, decide_eq_true_eq, riseB_idx (y :: r)]
    constructor
    · rintro ⟨h1, h2⟩ i p q hp hq
      cases i with
      | zero => simp at hp hq; rw [← hp, ← hq]; exact h1
      | succ i => exact h2 i p q (by simpa using hp) (by simpa using hq)
    · intro h
      exact ⟨h 0 x y rfl rfl, fun i p q hp hq => h (i + 1) p q (by simpa using hp) (by simpa using hq)⟩
/-- Less, byte by byte. -/
theorem less_at {a b : List UInt8} {k : Nat} {x y : UInt8} (ht : a.take k = b.take k) (hx : a[k]? = some x) (hy : b[k]? = some y) (hne : x ≠ y) : a < b ↔ x.toNat < y.toNat := by
  have ea : a = a.take k ++ x :: a.drop (k + 1) := by rw [← drop_cons hx, List.take_append_drop]
  have eb : b = a.take k ++ y :: b.drop (k + 1) := by rw [ht, ← drop_cons hy, List.take_append_drop]
  rw [ea, eb]
  generalize a.take k = c
  induction c with
  | nil =>
    simp only [List.nil_append, List.cons_lt_cons_iff]
    constructor
    · rintro (h | ⟨h, _⟩)
      · exact UInt8.lt_iff_toNat_lt.1 h
      · exact absurd h hne
    · intro h; exact .inl (UInt8.lt_iff_toNat_lt.2 h)
  | cons z c ih =>
    simp only [List.cons_append, List.cons_lt_cons_iff]
    refine Iff.trans ?_ ih
    constructor
    · rintro (h | ⟨_, h⟩)
      · exact absurd h (UInt8.lt_irrefl _)
      · exact h
    · intro h; exact .inr ⟨trivial, h⟩
theorem less_pre {a b : List UInt8} {k : Nat} (ht : a.take k = b.take k) (hk : k = a.length ∨ k = b.length) (hka : k ≤ a.length) (hkb : k ≤ b.length) : a < b ↔ a.length < b.length := by
  have lt_app : ∀ (c : List UInt8) (x : UInt8) (d : List UInt8), c < c ++ x :: d := by
    intro c x d
    induction c with
    | nil => exact List.nil_lt_cons _ _
    | cons z c ih => exact List.cons_lt_cons_iff.2 (.inr ⟨rfl, ih⟩)
  rcases hk with rfl | rfl
  · rw [List.take_length] at ht
    have e : b = a ++ b.drop a.length := by
      have h := (List.take_append_drop a.length b).symm
      rwa [← ht] at h
    cases hd : b.drop a.length with
    | nil =>
      have : b.length = a.length := by rw [e, hd]; simp
      constructor
      · intro h
        rw [e, hd, List.append_nil] at h
        exact absurd h (List.lt_irrefl _)
      · intro h; omega
    | cons x d =>
      rw [hd] at e
      have e1 : a < b := by rw [e]; exact lt_app a x d
      have e2 : a.length < b.length := by rw [e]; simp
      exact ⟨fun _ => e2, fun _ => e1⟩
  · rw [List.take_length] at ht
    have e : a = b ++ a.drop b.length := by
      have h := (List.take_append_drop b.length a).symm
      rwa [ht] at h
    constructor
    · intro h
      cases hd : a.drop b.length with
      | nil =>
        rw [hd, List.append_nil] at e
        rw [e] at h
        exact absurd h (List.lt_irrefl _)
      | cons x d =>
        rw [hd] at e
        have : b < a := by rw [e]; exact lt_app b x d
        exact absurd (List.lt_trans h this) (List.lt_irrefl _)
    · intro h; omega

/-! ### What PairTurns says -/
theorem rput_comm {s : List Pr} (h : Rise s) {p q : Pr} (hpq : p.1 ≠ q.1) : rput (rput s p) q = rput (rput s q) p := by
  refine rise_ext _ _ (rput_rise (rput_rise h _) _) (rput_rise (rput_rise h _) _) fun x => ?_
  simp only [mem_rput]
  constructor
  · rintro (rfl | ⟨rfl | ⟨h1, h2⟩, h3⟩)
    · exact .inr ⟨.inl rfl, fun e => hpq e.symm⟩
    · exact .inl rfl
    · exact .inr ⟨.inr ⟨h1, h3⟩, h2⟩
  · rintro (rfl | ⟨rfl | ⟨h1, h2⟩, h3⟩)
    · exact .inr ⟨.inl rfl, hpq⟩
    · exact .inl rfl
    · exact .inr ⟨.inr ⟨h1, h3⟩, h2⟩
theorem rput_twice {s : List Pr} (h : Rise s) {p q : Pr} (hpq : p.1 = q.1) : rput (rput s p) q = rput s q := by
  refine rise_ext _ _ (rput_rise (rput_rise h _) _) (rput_rise h _) fun x => ?_
  simp only [mem_rput]
  constructor
  · rintro (rfl | ⟨rfl | ⟨h1, h2⟩, h3⟩)
    · exact .inl rfl
    · exact absurd hpq h3
    · exact .inr ⟨h1, h3⟩
  · rintro (rfl | ⟨h1, h3⟩)
    · exact .inl rfl
    · exact .inr ⟨.inr ⟨h1, by rw [hpq]; exact h3⟩, h3⟩
theorem rput_back {s : List Pr} (h : Rise s) {x : Pr} (hx : x ∈ s) : rput (rdrop s x.1) x = s := by
  refine rise_ext _ _ (rput_rise (rdrop_rise h _) _) h fun y => ?_
  simp only [mem_rput, mem_rdrop]
  constructor
  · rintro (rfl | ⟨⟨h1, _⟩, _⟩)
    · exact hx
    · exact h1
  · intro hy
    by_cases e : y.1 = x.1
    · have a := (lastK_rise h x).2 hx
      have b := (lastK_rise h y).2 hy
      rw [e, a] at b
      exact .inl (Option.some.inj b).symm
    · exact .inr ⟨⟨hy, e⟩, e⟩
theorem rdrop_rput {s : List Pr} (h : Rise s) {p : Pr} (hk : hasK s p.1 = false) : rdrop (rput s p) p.1 = s := by
  refine rise_ext _ _ (rdrop_rise (rput_rise h _) _) h fun y => ?_
  simp only [mem_rput, mem_rdrop]
  constructor
  · rintro ⟨rfl | ⟨h1, _⟩, h2⟩
    · exact absurd rfl h2
    · exact h1
  · intro hy
    have : y.1 ≠ p.1 := fun e => by
      have := hasK_iff.2 ⟨y, hy, e⟩
      rw [hk] at this; cases this
    exact ⟨.inr ⟨hy, this⟩, this⟩
theorem rput_length (l : List Pr) (p : Pr) : (rput l p).length ≤ l.length + 1 := by
  have h1 : ∀ (l : List Pr), (insB p l).length = l.length + 1 := by
    intro l
    induction l with
    | nil => rfl
    | cons x l ih => unfold insB; split <;> simp [ih]
  unfold rput
  rw [h1]
  have : (rdrop l p.1).length ≤ l.length := List.length_filter_le _ _
  omega
theorem rdrop_length (l : List Pr) (k : List UInt8) : (rdrop l k).length ≤ l.length := List.length_filter_le _ _
theorem rsort_length (l : List Pr) : (rsort l).length ≤ l.length := by rw [← sortedP_eq]; exact sortedP_length l
end Go.QS
