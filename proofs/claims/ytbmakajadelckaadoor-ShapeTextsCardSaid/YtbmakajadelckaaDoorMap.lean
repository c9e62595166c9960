/- Lists of pairs that rise: a map's lists. Plain laws. No program. -/
import Derived.Test.YtbmakajadelckaaDoorSm
set_option linter.unusedVariables false
set_option linter.unusedSimpArgs false
namespace Go.QS

/-- Key by key it rises. -/
def Rise (l : List Pr) : Prop := l.Pairwise fun p q => p.1 < q.1
theorem rise_cons {x : Pr} {l : List Pr} : Rise (x :: l) ↔ (∀ q ∈ l, x.1 < q.1) ∧ Rise l := List.pairwise_cons

theorem rise_ext : ∀ (a b : List Pr), Rise a → Rise b → (∀ p, p ∈ a ↔ p ∈ b) → a = b
  | [], [], _, _, _ => rfl
  | [], y :: t, _, _, h => absurd ((h y).2 (by simp)) (by simp)
  | x :: s, [], _, _, h => absurd ((h x).1 (by simp)) (by simp)
  | x :: s, y :: t, h1, h2, h => by
    have a1 := rise_cons.1 h1
    have a2 := rise_cons.1 h2
    have hxy : x = y := by
      rcases List.mem_cons.1 ((h x).1 (by simp)) with e | e
      · exact e
      · rcases List.mem_cons.1 ((h y).2 (by simp)) with e' | e'
        · exact e'.symm
        · exact absurd (a1.1 _ e') (k_asymm (a2.1 _ e))
    subst hxy
    have : ∀ p, p ∈ s ↔ p ∈ t := by
      intro p
      constructor
      · intro hp
        rcases List.mem_cons.1 ((h p).1 (List.mem_cons_of_mem _ hp)) with e | e
        · subst e; exact absurd (a1.1 _ hp) (k_irrefl _)
        · exact e
      · intro hp
        rcases List.mem_cons.1 ((h p).2 (List.mem_cons_of_mem _ hp)) with e | e
        · subst e; exact absurd (a2.1 _ hp) (k_irrefl _)
        · exact e
    rw [rise_ext s t a1.2 a2.2 this]

/-- Without a key's. -/
def rdrop (l : List Pr) (k : List UInt8) : List Pr := l.filter fun p => p.1 != k
/-- Ahead of the first that is greater. -/
def insB (p : Pr) : List Pr → List Pr
  | [] => [p]
  | q :: r => if p.1 < q.1 then p :: q :: r else q :: insB p r
/-- With a pair. -/
def rput (l : List Pr) (p : Pr) : List Pr := insB p (rdrop l p.1)
/-- The document's sorted list. -/
def rsort (l : List Pr) : List Pr := l.foldl rput []

theorem mem_rdrop {l : List Pr} {k : List UInt8} {q : Pr} : q ∈ rdrop l k ↔ q ∈ l ∧ q.1 ≠ k := by simp [rdrop]
theorem mem_insB {p q : Pr} : ∀ {l : List Pr}, q ∈ insB p l ↔ q = p ∨ q ∈ l
  | [] => by simp [insB]
  | x :: r => by
    unfold insB
    split
    · simp
    · rw [List.mem_cons, mem_insB (l := r), List.mem_cons]
      constructor
      · rintro (h | h | h) <;> simp [h]
      · rintro (h | h | h) <;> simp [h]
theorem mem_rput {l : List Pr} {p q : Pr} : q ∈ rput l p ↔ q = p ∨ (q ∈ l ∧ q.1 ≠ p.1) := by rw [rput, mem_insB, mem_rdrop]
theorem rdrop_rise {l : List Pr} (h : Rise l) (k : List UInt8) : Rise (rdrop l k) := List.Pairwise.filter _ h
theorem insB_rise {p : Pr} : ∀ {l : List Pr}, Rise l → (∀ q ∈ l, q.1 ≠ p.1) → Rise (insB p l)
  | [], _, _ => by simp [insB, Rise]
  | x :: r, h, hn => by
    have h' := rise_cons.1 h
    unfold insB
    split
    · rename_i hlt
      refine rise_cons.2 ⟨fun q hq => ?_, h⟩
      rcases List.mem_cons.1 hq with rfl | hq
      · exact hlt
      · exact k_trans hlt (h'.1 q hq)
    · rename_i hlt
      have hx : x.1 < p.1 := by
        rcases k_tri p.1 x.1 with e | e | e
        · exact absurd e hlt
        · exact absurd e.symm (hn x (by simp))
        · exact e
      refine rise_cons.2 ⟨fun q hq => ?_, insB_rise h'.2 fun q hq => hn q (List.mem_cons_of_mem _ hq)⟩
      rcases mem_insB.1 hq with rfl | hq
      · exact hx
      · exact h'.1 q hq
theorem rput_rise {l : List Pr} (h : Rise l) (p : Pr) : Rise (rput l p) := insB_rise (rdrop_rise h _) fun _ hq => (mem_rdrop.1 hq).2
theorem rise_nil : Rise [] := by simp [Rise]
theorem rsort_rise (l : List Pr) : Rise (rsort l) := by
  have : ∀ (l m : List Pr), Rise m → Rise (l.foldl rput m) := by
    intro l
    induction l with
    | nil => intro m h; exact h
    | cons p l ih => intro m h; exact ih _ (rput_rise h p)
  exact this l [] rise_nil

/-- The last pair of a key. -/
def lastK (l : List Pr) (k : List UInt8) : Option Pr := (l.filter fun p => p.1 == k).getLast?
theorem lastK_snoc (l : List Pr) (q : Pr) (k : List UInt8) : lastK (l ++ [q]) k = if q.1 = k then some q else lastK l k := by
  unfold lastK
  rw [List.filter_append]
  by_cases h : q.1 = k
  · simp [h]
  · simp [h]
theorem lastK_stb {l l' : List Pr} (h : Stb l l') (k : List UInt8) : lastK l k = lastK l' k := by unfold lastK; rw [h k]
theorem rsort_snoc (l : List Pr) (q : Pr) : rsort (l ++ [q]) = rput (rsort l) q := by simp [rsort]
theorem snoc_ind {α : Type} {C : List α → Prop} (h0 : C []) (h1 : ∀ l x, C l → C (l ++ [x])) (l : List α) : C l := by
  have : ∀ n (l : List α), l.length = n → C l := by
    intro n
    induction n with
    | zero => intro l hl; rw [List.eq_nil_of_length_eq_zero hl]; exact h0
    | succ n ih =>
      intro l hl
      rcases List.eq_nil_or_concat l with h | ⟨l', x, h⟩
      · rw [h]; exact h0
      · rw [h, List.concat_eq_append]
        exact h1 _ _ (ih _ (by rw [h] at hl; simpa using hl))
  exact this _ l rfl
theorem mem_rsort (l : List Pr) (p : Pr) : p ∈ rsort l ↔ lastK l p.1 = some p := by
  induction l using snoc_ind with
  | h0 => simp [rsort, lastK]
  | h1 l q ih =>
    rw [rsort_snoc, mem_rput, lastK_snoc, ih]
    by_cases h : q.1 = p.1
    · rw [if_pos h]
      constructor
      · rintro (e | ⟨_, e⟩)
        · rw [e]
        · exact absurd h.symm e
      · intro e; exact .inl (Option.some.inj e).symm
    · rw [if_neg h]
      constructor
      · rintro (e | ⟨e, _⟩)
        · exact absurd (by rw [e]) h
        · exact e
      · intro e; exact .inr ⟨e, fun e' => h e'.symm⟩
theorem lastK_mem {l : List Pr} {k : List UInt8} {p : Pr} (h : lastK l k = some p) : p ∈ l ∧ p.1 = k := by
  have := List.mem_of_getLast? h
  simpa using List.mem_filter.1 this

theorem lastOf_sub : ∀ (l : List Pr), (lastOf l).Sublist l
  | [] => List.Sublist.refl _
  | [x] => List.Sublist.refl _
  | x :: y :: r => by
    unfold lastOf
    split
    · exact (lastOf_sub (y :: r)).cons _
    · exact (lastOf_sub (y :: r)).cons_cons _
theorem mem_lastOf : ∀ (L : List Pr), Srt L → ∀ p, p ∈ lastOf L ↔ lastK L p.1 = some p
  | [], _, p => by simp [lastOf, lastK]
  | [x], _, p => by
    by_cases h : x.1 = p.1
    · simp [lastOf, lastK, h, eq_comm]
    · have : ¬ p = x := fun e => h (by rw [e])
      simp [lastOf, lastK, h, this]
  | x :: y :: r, hs, p => by
    have h' := List.pairwise_cons.1 hs
    have ih := mem_lastOf (y :: r) h'.2 p
    by_cases hxy : x.1 = y.1
    · rw [lastOf_skip hxy, ih]
      by_cases hp : x.1 = p.1
      · have e1 : lastK (x :: y :: r) p.1 = lastK (y :: r) p.1 := by
          unfold lastK
          have e : y.1 = p.1 := by rw [← hxy]; exact hp
          simp only [List.filter_cons, hp, e, beq_self_eq_true, if_true]
          rw [List.getLast?_cons_cons]
        rw [e1]
      · have e1 : lastK (x :: y :: r) p.1 = lastK (y :: r) p.1 := by
          unfold lastK
          rw [List.filter_cons, if_neg (by simpa using hp)]
        rw [e1]
    · rw [lastOf_keep hxy, List.mem_cons]
      have hlt : ∀ q ∈ y :: r, x.1 < q.1 := by
        have hxy' : x.1 < y.1 := by
          rcases k_tri x.1 y.1 with e | e | e
          · exact e
          · exact absurd e hxy
          · exact absurd e (h'.1 y (by simp))
        intro q hq
        rcases List.mem_cons.1 hq with rfl | hq
        · exact hxy'
        · rcases k_tri x.1 q.1 with e | e | e
          · exact e
          · exact absurd (by rw [← e]; exact hxy') ((List.pairwise_cons.1 h'.2).1 q hq)
          · exact absurd e (h'.1 q (List.mem_cons_of_mem _ hq))
      by_cases hp : x.1 = p.1
      · have e1 : lastK (x :: y :: r) p.1 = some x := by
          unfold lastK
          have : (y :: r).filter (fun q => q.1 == p.1) = [] := by
            rw [List.filter_eq_nil_iff]
            intro q hq e
            exact k_ne (hlt q hq) (by rw [hp]; exact (by simpa using e : q.1 = p.1).symm)
          rw [List.filter_cons, if_pos (by simpa using hp), this]; rfl
        rw [e1]
        constructor
        · rintro (e | e)
          · rw [e]
          · have := (lastOf_sub (y :: r)).subset e
            exact absurd hp (k_ne (hlt p this))
        · intro e; exact .inl (Option.some.inj e).symm
      · have e1 : lastK (x :: y :: r) p.1 = lastK (y :: r) p.1 := by
          unfold lastK
          rw [List.filter_cons, if_neg (by simpa using hp)]
        rw [e1, ← ih]
        constructor
        · rintro (e | e)
          · exact absurd (by rw [e]) hp
          · exact e
        · exact .inr
theorem lastOf_rise : ∀ (L : List Pr), Srt L → Rise (lastOf L)
  | [], _ => rise_nil
  | [x], _ => by simp [lastOf, Rise]
  | x :: y :: r, hs => by
    have h' := List.pairwise_cons.1 hs
    by_cases hxy : x.1 = y.1
    · rw [lastOf_skip hxy]; exact lastOf_rise _ h'.2
    · rw [lastOf_keep hxy]
      refine rise_cons.2 ⟨fun q hq => ?_, lastOf_rise _ h'.2⟩
      have hq := (lastOf_sub (y :: r)).subset hq
      have hxy' : x.1 < y.1 := by
        rcases k_tri x.1 y.1 with e | e | e
        · exact e
        · exact absurd e hxy
        · exact absurd e (h'.1 y (by simp))
      rcases List.mem_cons.1 hq with rfl | hq
      · exact hxy'
      · rcases k_tri x.1 q.1 with e | e | e
        · exact e
        · exact absurd (by rw [← e]; exact hxy') ((List.pairwise_cons.1 h'.2).1 q hq)
        · exact absurd e (h'.1 q (List.mem_cons_of_mem _ hq))
theorem sortedP_rise (l : List Pr) : Rise (sortedP l) := lastOf_rise _ (ssort_srt l)
theorem sortedP_eq (l : List Pr) : sortedP l = rsort l := by
  refine rise_ext _ _ (sortedP_rise l) (rsort_rise l) fun p => ?_
  rw [sortedP, mem_lastOf _ (ssort_srt l), mem_rsort, lastK_stb (ssort_stb l)]
theorem lastK_rise : ∀ {l : List Pr}, Rise l → ∀ p, lastK l p.1 = some p ↔ p ∈ l
  | [], _, p => by simp [lastK]
  | x :: l, h, p => by
    have h' := rise_cons.1 h
    have ih := lastK_rise h'.2 p
    by_cases hp : x.1 = p.1
    · have : l.filter (fun q => q.1 == p.1) = [] := by
        rw [List.filter_eq_nil_iff]
        intro q hq e
        exact k_ne (h'.1 q hq) (by rw [hp]; exact (by simpa using e : q.1 = p.1).symm)
      unfold lastK
      rw [List.filter_cons, if_pos (by simpa using hp), this, List.mem_cons]
      constructor
      · intro e; exact .inl (Option.some.inj e).symm
      · rintro (e | e)
        · rw [e]; rfl
        · exact absurd hp (k_ne (h'.1 p e))
    · have e1 : lastK (x :: l) p.1 = lastK l p.1 := by
        unfold lastK
        rw [List.filter_cons, if_neg (by simpa using hp)]
      rw [e1, ih, List.mem_cons]
      constructor
      · exact .inr
      · rintro (e | e)
        · exact absurd (by rw [e]) hp
        · exact e
theorem rsort_self {l : List Pr} (h : Rise l) : rsort l = l := rise_ext _ _ (rsort_rise l) h fun p => by rw [mem_rsort, lastK_rise h]
theorem sortedP_self {l : List Pr} (h : Rise l) : sortedP l = l := by rw [sortedP_eq, rsort_self h]

/-- What Rises answers: neighbour by neighbour. -/
def riseB : List Pr → Bool
  | x :: y :: r => decide (x.1 < y.1) && riseB (y :: r)
  | _ => true
theorem riseB_iff : ∀ l, riseB l = true ↔ Rise l
  | [] => by simp [riseB, Rise]
  | [x] => by simp [riseB, Rise]
  | x :: y :: r => by
    rw [riseB, Bool.and_eq_true, decide_eq_true_eq, riseB_iff (y :: r)]
    constructor
    · rintro ⟨h1, h2⟩
      refine rise_cons.2 ⟨fun q hq => ?_, h2⟩
      rcases List.mem_cons.1 hq with rfl | hq
      · exact h1
      · exact k_trans h1 ((rise_cons.1 h2).1 q hq)
    · intro h
      have := rise_cons.1 h
      exact ⟨this.1 y (by simp), this.2⟩
end Go.QS
