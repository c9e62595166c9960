/- Texts joined. -/
import Derived.Test.YtclcgelbcbnekaaDoorM00
set_option linter.unusedVariables false
set_option linter.unusedSimpArgs false
/- Where a key is, or would be, in a list that rises; with a pair and without one, cut by places. Plain laws. No program. -/
namespace Go.QS

/-- A byte of a string, by its place. -/
theorem idx_str {P : Program} {t : TypeId} (ht : P.underlying t = some .string) {a : List UInt8} {k : Nat} {x : UInt8} (h : a[k]? = some x) (w : World) : (Instr.index t (str a) (.int .i64 (k : Int))).run P w = .ok (.int .u8 (x.toNat : Int)) w := by
  have hk := (List.getElem?_eq_some_iff.1 h).1
  rw [run_index_string w t (bs a) .i64 k ht, dif_pos (by simp; omega)]
  congr 2
  simp only [Int.toNat_natCast, bs_get]
  rw [(List.getElem?_eq_some_iff.1 h).2]

/-- How many are less ahead of the first that isn't. -/
def fndI (l : List Pr) (k : List UInt8) : Nat := (l.takeWhile fun p => decide (p.1 < k)).length
def hasK (l : List Pr) (k : List UInt8) : Bool := l.any fun p => p.1 == k
theorem fndI_le (l : List Pr) (k : List UInt8) : fndI l k ≤ l.length := (List.takeWhile_sublist _).length_le
theorem fndI_cons (x : Pr) (l : List Pr) (k : List UInt8) : fndI (x :: l) k = if x.1 < k then fndI l k + 1 else 0 := by
  unfold fndI
  rw [List.takeWhile_cons]
  split <;> simp_all
theorem fndI_nil (k : List UInt8) : fndI [] k = 0 := rfl

theorem fnd_first : ∀ {l : List Pr} {k : List UInt8} {i : Nat}, i ≤ l.length → (∀ t q, t < i → l[t]? = some q → q.1 < k) → (∀ q, l[i]? = some q → ¬ q.1 < k) → i = fndI l k
  | [], k, i, h, _, _ => by simp at h; rw [h]; rfl
  | x :: l, k, 0, _, _, h2 => by rw [fndI_cons, if_neg (h2 x rfl)]
  | x :: l, k, i + 1, h, h1, h2 => by
    rw [fndI_cons, if_pos (h1 0 x (by omega) rfl)]
    congr 1
    exact fnd_first (by simpa using h) (fun t q ht hq => h1 (t + 1) q (by omega) (by simpa using hq)) (fun q hq => h2 q (by simpa using hq))

/-- Is the key there? As it is asked at the place. -/
theorem hasK_at : ∀ {l : List Pr} {k : List UInt8}, Rise l → hasK l k = (match l[fndI l k]? with | some q => q.1 == k | none => false)
  | [], k, _ => rfl
  | x :: l, k, h => by
    have h' := rise_cons.1 h
    rw [fndI_cons]
    by_cases hx : x.1 < k
    · rw [if_pos hx, List.getElem?_cons_succ, ← hasK_at h'.2]
      have : (x.1 == k) = false := by simp; exact k_ne hx
      simp [hasK, this]
    · rw [if_neg hx, List.getElem?_cons_zero]
      by_cases e : x.1 = k
      · simp [hasK, e]
      · have : hasK l k = false := by
          unfold hasK
          rw [List.any_eq_false]
          intro q hq e'
          have : k = q.1 := (by simpa using e' : q.1 = k).symm
          have h1 := h'.1 q hq
          rw [← this] at h1
          exact hx h1
        have e2 : (x.1 == k) = false := by simp [e]
        show (x.1 == k || hasK l k) = (x.1 == k)
        rw [this, e2]; rfl
theorem hasK_iff {l : List Pr} {k : List UInt8} : hasK l k = true ↔ ∃ q ∈ l, q.1 = k := by simp [hasK]

theorem rdrop_self {l : List Pr} {k : List UInt8} (h : hasK l k = false) : rdrop l k = l := by
  unfold rdrop
  rw [List.filter_eq_self]
  intro q hq
  simp only [hasK, List.any_eq_false] at h
  have := h q hq
  simpa using this

theorem rdrop_cut : ∀ {l : List Pr} {k : List UInt8}, Rise l → hasK l k = true → rdrop l k = l.take (fndI l k) ++ l.drop (fndI l k + 1)
  | [], k, _, h => by cases h
  | x :: l, k, h, hk => by
    have h' := rise_cons.1 h
    rw [fndI_cons]
    by_cases hx : x.1 < k
    · rw [if_pos hx]
      have e : (x.1 == k) = false := by simp; exact k_ne hx
      have hk' : hasK l k = true := by
        have : (x.1 == k || hasK l k) = true := hk
        rwa [e, Bool.false_or] at this
      have e2 : rdrop (x :: l) k = x :: rdrop l k := by unfold rdrop; rw [List.filter_cons, if_pos (by simpa using k_ne hx)]
      rw [e2, rdrop_cut h'.2 hk']; rfl
    · rw [if_neg hx]
      obtain ⟨q, hq, e⟩ := hasK_iff.1 hk
      have hxk : x.1 = k := by
        rcases List.mem_cons.1 hq with rfl | hq
        · exact e
        · exact absurd (by have := h'.1 q hq; rwa [e] at this) hx
      have hno : hasK l k = false := by
        rw [Bool.eq_false_iff]
        intro hh
        obtain ⟨q, hq, e⟩ := hasK_iff.1 hh
        exact k_ne (h'.1 q hq) (by rw [hxk, e])
      have e2 : rdrop (x :: l) k = rdrop l k := by unfold rdrop; rw [List.filter_cons, if_neg (by simpa using hxk)]
      rw [e2, rdrop_self hno]; rfl

theorem insB_cut : ∀ {l : List Pr} {p : Pr}, Rise l → hasK l p.1 = false → insB p l = l.take (fndI l p.1) ++ p :: l.drop (fndI l p.1)
  | [], p, _, _ => rfl
  | x :: l, p, h, hk => by
    have h' := rise_cons.1 h
    have hxk : x.1 ≠ p.1 := fun e => by
      have : (x.1 == p.1 || hasK l p.1) = false := hk
      simp [e] at this
    have hk' : hasK l p.1 = false := by
      have : (x.1 == p.1 || hasK l p.1) = false := hk
      simp only [Bool.or_eq_false_iff] at this
      exact this.2
    rw [fndI_cons]
    unfold insB
    by_cases hx : x.1 < p.1
    · rw [if_neg (k_asymm hx), if_pos hx, insB_cut h'.2 hk']; rfl
    · have : p.1 < x.1 := by
        rcases k_tri p.1 x.1 with e | e | e
        · exact e
        · exact absurd e.symm hxk
        · exact absurd e hx
      rw [if_pos this, if_neg hx]; rfl

theorem fndI_rdrop : ∀ {l : List Pr} {k : List UInt8}, Rise l → fndI (rdrop l k) k = fndI l k
  | [], k, _ => rfl
  | x :: l, k, h => by
    have h' := rise_cons.1 h
    by_cases hx : x.1 = k
    · have e2 : rdrop (x :: l) k = rdrop l k := by unfold rdrop; rw [List.filter_cons, if_neg (by simpa using hx)]
      rw [e2, fndI_rdrop h'.2, fndI_cons, if_neg (by rw [hx]; exact k_irrefl _)]
      cases l with
      | nil => rfl
      | cons y l => rw [fndI_cons, if_neg (by rw [← hx]; exact k_asymm (h'.1 y (by simp)))]
    · have e2 : rdrop (x :: l) k = x :: rdrop l k := by unfold rdrop; rw [List.filter_cons, if_pos (by simpa using hx)]
      rw [e2, fndI_cons, fndI_cons, fndI_rdrop h'.2]

/-- With a pair: cut at its place. -/
theorem rput_cut {l : List Pr} (h : Rise l) (p : Pr) : rput l p = l.take (fndI l p.1) ++ p :: (if hasK l p.1 then l.drop (fndI l p.1 + 1) else l.drop (fndI l p.1)) := by
  have hno : hasK (rdrop l p.1) p.1 = false := by
    rw [Bool.eq_false_iff]
    intro hh
    obtain ⟨q, hq, e⟩ := hasK_iff.1 hh
    exact (mem_rdrop.1 hq).2 e
  unfold rput
  rw [insB_cut (rdrop_rise h _) hno, fndI_rdrop h]
  cases hk : hasK l p.1 with
  | false => rw [rdrop_self hk]; rfl
  | true =>
    rw [rdrop_cut h hk]
    have e : (l.take (fndI l p.1)).length = fndI l p.1 := List.length_take_of_le (fndI_le _ _)
    rw [List.take_append_of_le_length (by omega), List.take_of_length_le (by omega), List.drop_append_of_le_length (by omega), List.drop_eq_nil_of_le (by omega)]
    simp

theorem riseB_idx : ∀ (l : List Pr), riseB l = true ↔ ∀ i p q, l[i]? = some p → l[i + 1]? = some q → p.1 < q.1
  | [] => by simp [riseB]
  | [x] => by simp [riseB]
  | x :: y :: r => by
    rw [riseB, Bool.and_eq_true, decide_eq_true_eq, riseB_idx (y :: r)]
    constructor
    · rintro ⟨h1, h2⟩ i p q hp hq
      cases i with
      | zero => simp at hp hq; rw [← hp, ← hq]; exact h1
      | succ i => exact h2 i p q (by simpa using hp) (by simpa using hq)
    · intro h
      exact ⟨h 0 x y rfl rfl, fun i p q hp hq => h (i + 1) p q (by simpa using hp) (by simpa using hq)⟩
/-- Less, byte by byte. -/
theorem less_at {a b : List UInt8} {k : Nat} {x y : UInt8} (ht : a.take k = b.take k) (hx : a[k]? = some x) (hy : b[k]? = some y) (hne : x ≠ y) : a < b ↔ x.toNat < y.toNat := by
  have ea : a = a.take k ++ x :: a.drop (k + 1) := by rw [← drop_cons hx, List.take_append_drop]
  have eb : b = a.take k ++ y :: b.drop (k + 1) := by rw [ht, ← drop_cons hy, List.take_append_drop]
  rw [ea, eb]
  generalize a.take k = c
  induction c with
  | nil =>
    simp only [List.nil_append, List.cons_lt_cons_iff]
    constructor
    · rintro (h | ⟨h, _⟩)
      · exact UInt8.lt_iff_toNat_lt.1 h
      · exact absurd h hne
    · intro h; exact .inl (UInt8.lt_iff_toNat_lt.2 h)
  | cons z c ih =>
    simp only [List.cons_append, List.cons_lt_cons_iff]
    refine Iff.trans ?_ ih
    constructor
    · rintro (h | ⟨_, h⟩)
      · exact absurd h (UInt8.lt_irrefl _)
      · exact h
    · intro h; exact .inr ⟨trivial, h⟩
theorem less_pre {a b : List UInt8} {k : Nat} (ht : a.take k = b.take k) (hk : k = a.length ∨ k = b.length) (hka : k ≤ a.length) (hkb : k ≤ b.length) : a < b ↔ a.length < b.length := by
  have lt_app : ∀ (c : List UInt8) (x : UInt8) (d : List UInt8), c < c ++ x :: d := by
    intro c x d
    induction c with
    | nil => exact List.nil_lt_cons _ _
    | cons z c ih => exact List.cons_lt_cons_iff.2 (.inr ⟨rfl, ih⟩)
  rcases hk with rfl | rfl
  · rw [List.take_length] at ht
    have e : b = a ++ b.drop a.length := by
      have h := (List.take_append_drop a.length b).symm
      rwa [← ht] at h
    cases hd : b.drop a.length with
    | nil =>
      have : b.length = a.length := by rw [e, hd]; simp
      constructor
      · intro h
        rw [e, hd, List.append_nil] at h
        exact absurd h (List.lt_irrefl _)
      · intro h; omega
    | cons x d =>
      rw [hd] at e
      have e1 : a < b := by rw [e]; exact lt_app a x d
      have e2 : a.length < b.length := by rw [e]; simp
      exact ⟨fun _ => e2, fun _ => e1⟩
  · rw [List.take_length] at ht
    have e : a = b ++ a.drop b.length := by
      have h := (List.take_append_drop b.length a).symm
      rwa [ht] at h
    constructor
    · intro h
      cases hd : a.drop b.length with
      | nil =>
        rw [hd, List.append_nil] at e
        rw [e] at h
        exact absurd h (List.lt_irrefl _)
      | cons x d =>
        rw [hd] at e
        have : b < a := by rw [e]; exact lt_app b x d
        exact absurd (List.lt_trans h this) (List.lt_irrefl _)
    · intro h; omega

/-! ### What PairTurns says -/
theorem rput_comm {s : List Pr} (h : Rise s) {p q : Pr} (hpq : p.1 ≠ q.1) : rput (rput s p) q = rput (rput s q) p := by
  refine rise_ext _ _ (rput_rise (rput_rise h _) _) (rput_rise (rput_rise h _) _) fun x => ?_
  simp only [mem_rput]
  constructor
  · rintro (rfl | ⟨rfl | ⟨h1, h2⟩, h3⟩)
    · exact .inr ⟨.inl rfl, fun e => hpq e.symm⟩
    · exact .inl rfl
    · exact .inr ⟨.inr ⟨h1, h3⟩, h2⟩
  · rintro (rfl | ⟨rfl | ⟨h1, h2⟩, h3⟩)
    · exact .inr ⟨.inl rfl, hpq⟩
    · exact .inl rfl
    · exact .inr ⟨.inr ⟨h1, h3⟩, h2⟩
theorem rput_twice {s : List Pr} (h : Rise s) {p q : Pr} (hpq : p.1 = q.1) : rput (rput s p) q = rput s q := by
  refine rise_ext _ _ (rput_rise (rput_rise h _) _) (rput_rise h _) fun x => ?_
  simp only [mem_rput]
  constructor
  · rintro (rfl | ⟨rfl | ⟨h1, h2⟩, h3⟩)
    · exact .inl rfl
    · exact absurd hpq h3
    · exact .inr ⟨h1, h3⟩
  · rintro (rfl | ⟨h1, h3⟩)
    · exact .inl rfl
    · exact .inr ⟨.inr ⟨h1, by rw [hpq]; exact h3⟩, h3⟩
theorem rput_back {s : List Pr} (h : Rise s) {x : Pr} (hx : x ∈ s) : rput (rdrop s x.1) x = s := by
  refine rise_ext _ _ (rput_rise (rdrop_rise h _) _) h fun y => ?_
  simp only [mem_rput, mem_rdrop]
  constructor
  · rintro (rfl | ⟨⟨h1, _⟩, _⟩)
    · exact hx
    · exact h1
  · intro hy
    by_cases e : y.1 = x.1
    · have a := (lastK_rise h x).2 hx
      have b := (lastK_rise h y).2 hy
      rw [e, a] at b
      exact .inl (Option.some.inj b).symm
    · exact .inr ⟨⟨hy, e⟩, e⟩
theorem rdrop_rput {s : List Pr} (h : Rise s) {p : Pr} (hk : hasK s p.1 = false) : rdrop (rput s p) p.1 = s := by
  refine rise_ext _ _ (rdrop_rise (rput_rise h _) _) h fun y => ?_
  simp only [mem_rput, mem_rdrop]
  constructor
  · rintro ⟨rfl | ⟨h1, _⟩, h2⟩
    · exact absurd rfl h2
    · exact h1
  · intro hy
    have : y.1 ≠ p.1 := fun e => by
      have := hasK_iff.2 ⟨y, hy, e⟩
      rw [hk] at this; cases this
    exact ⟨.inr ⟨hy, this⟩, this⟩
theorem rput_length (l : List Pr) (p : Pr) : (rput l p).length ≤ l.length + 1 := by
  have h1 : ∀ (l : List Pr), (insB p l).length = l.length + 1 := by
    intro l
    induction l with
    | nil => rfl
    | cons x l ih => unfold insB; split <;> simp [ih]
  unfold rput
  rw [h1]
  have : (rdrop l p.1).length ≤ l.length := List.length_filter_le _ _
  omega
theorem rdrop_length (l : List Pr) (k : List UInt8) : (rdrop l k).length ≤ l.length := List.length_filter_le _ _
theorem rsort_length (l : List Pr) : (rsort l).length ≤ l.length := by rw [← sortedP_eq]; exact sortedP_length l
end Go.QS
/- Plain laws: the pairs of a tree; what put does to them. No program. -/
namespace Go.QS

def ownP : Option (List UInt8) → List Pr
  | some v => [([], v)]
  | none => []
def pre (l : List UInt8) (x : List Pr) : List Pr := x.map fun p => (l ++ p.1, p.2)
mutual
/-- The pairs from a node on, behind its label. -/
def RT.prs : RT → List Pr
  | .node _ val kids => ownP val ++ belows kids
def belows : List RT → List Pr
  | [] => []
  | t :: r => pre t.lab t.prs ++ belows r
end
theorem below_eq (t : RT) : t.prs = ownP t.val ++ belows t.kids := by cases t; rfl
theorem belows_nil : belows [] = [] := rfl
theorem belows_cons (t : RT) (r : List RT) : belows (t :: r) = pre t.lab t.prs ++ belows r := rfl
theorem belows_append (a b : List RT) : belows (a ++ b) = belows a ++ belows b := by
  induction a with
  | nil => rfl
  | cons t a ih => simp [belows_cons, ih]
theorem mem_ownP {q : Pr} {val : Option (List UInt8)} : q ∈ ownP val ↔ q.1 = [] ∧ val = some q.2 := by
  obtain ⟨k, v⟩ := q
  cases val with
  | none => simp [ownP]
  | some u => simp [ownP]; exact fun _ => eq_comm
theorem mem_pre {q : Pr} {l : List UInt8} {x : List Pr} : q ∈ pre l x ↔ ∃ p ∈ x, q = (l ++ p.1, p.2) := by
  simp only [pre, List.mem_map]
  constructor
  · rintro ⟨p, h, e⟩; exact ⟨p, h, e.symm⟩
  · rintro ⟨p, h, e⟩; exact ⟨p, h, e.symm⟩
theorem mem_belows {q : Pr} {ks : List RT} : q ∈ belows ks ↔ ∃ k ∈ ks, q ∈ pre k.lab k.prs := by
  induction ks with
  | nil => simp [belows_nil]
  | cons t r ih => simp [belows_cons, ih]
theorem mem_below {q : Pr} {t : RT} : q ∈ t.prs ↔ (q.1 = [] ∧ t.val = some q.2) ∨ q ∈ belows t.kids := by
  rw [below_eq, List.mem_append, mem_ownP]

theorem pre_head {k : RT} {q : Pr} (hne : k.lab ≠ []) (h : q ∈ pre k.lab k.prs) : ∃ c l, q.1 = c :: l ∧ c.toNat = k.hd := by
  obtain ⟨p, _, rfl⟩ := mem_pre.1 h
  obtain ⟨c, l, hl⟩ := List.exists_cons_of_ne_nil hne
  exact ⟨c, l ++ p.1, by simp [hl], (hd_eq hl).symm⟩

theorem Kd.key_ne {N : Nat} {ks : List RT} (h : Kd N ks) {q : Pr} (hq : q ∈ belows ks) : q.1 ≠ [] := by
  obtain ⟨k, hk, hq⟩ := mem_belows.1 hq
  obtain ⟨c, l, e, _⟩ := pre_head (h.ne k hk) hq
  rw [e]; simp

theorem pre_pre (a b : List UInt8) (x : List Pr) : pre a (pre b x) = pre (a ++ b) x := by simp [pre]
theorem tsplit_pre (t : RT) (k : Nat) : pre (tsplit t k).lab (tsplit t k).prs = pre t.lab t.prs := by
  rw [below_eq (tsplit t k)]
  simp only [tsplit, RT.lab_node, RT.val_node, RT.kids_node, ownP, List.nil_append, belows_cons, belows_nil, List.append_nil]
  rw [pre_pre, List.take_append_drop]
  congr 1
  rw [below_eq, below_eq]; rfl

theorem set_cut {α : Type} {l : List α} {i : Nat} {x y : α} (h : l[i]? = some x) : l.set i y = l.take i ++ y :: l.drop (i + 1) ∧ l = l.take i ++ x :: l.drop (i + 1) := by
  obtain ⟨hi, rfl⟩ := List.getElem?_eq_some_iff.1 h
  refine ⟨List.set_eq_take_append_cons_drop .. |>.trans (by rw [if_pos hi]), ?_⟩
  rw [List.getElem_cons_drop, List.take_append_drop]

theorem common_take : ∀ (a b : List UInt8), a.take (common a b) = b.take (common a b)
  | [], b => by simp [common]
  | a :: x, [] => by simp [common]
  | a :: x, b :: y => by
    unfold common
    split
    · rename_i h; subst h; simp [common_take x y]
    · simp
theorem common_next : ∀ (a b : List UInt8) {x y : UInt8} {l m : List UInt8}, a.drop (common a b) = x :: l → b.drop (common a b) = y :: m → x ≠ y
  | [], b, x, y, l, m, h, _ => by simp [common] at h
  | a :: p, [], x, y, l, m, _, h => by simp [common] at h
  | a :: p, b :: q, x, y, l, m, h1, h2 => by
    unfold common at h1 h2
    by_cases e : a = b
    · rw [if_pos e] at h1 h2
      simp only [List.drop_succ_cons] at h1 h2
      exact common_next p q h1 h2
    · rw [if_neg e] at h1 h2
      simp at h1 h2
      rw [← h1.1, ← h2.1]; exact e
theorem common_le' : ∀ (a b : List UInt8), common a b ≤ a.length ∧ common a b ≤ b.length
  | [], b => by simp [common]
  | a :: x, [] => by simp [common]
  | a :: x, b :: y => by
    have := common_le' x y
    unfold common
    split <;> simp <;> omega

structure TOK (N : Nat) (t : RT) (key v : List UInt8) (r : RT × Bool × Bool) : Prop where
  lab : r.1.lab = t.lab
  kd : Kd N r.1.kids
  mem : ∀ q, q ∈ r.1.prs ↔ q = (key, v) ∨ (q ∈ t.prs ∧ q.1 ≠ key)
  add : r.2.1 = true ↔ ∀ u, (key, u) ∉ t.prs
  ch : r.2.2 = true ↔ (key, v) ∉ t.prs
  same : r.2.2 = false → r.1 = t
  val : t.val.isSome = true → r.1.val.isSome = true
  len : t.kids.length ≤ r.1.kids.length

theorem heads_mid {A B : List RT} {x y : RT} (h : Heads (A ++ x :: B)) (e : y.hd = x.hd) : Heads (A ++ y :: B) := by
  unfold Heads at *
  rw [List.pairwise_append, List.pairwise_cons] at *
  obtain ⟨h1, ⟨h2, h3⟩, h4⟩ := h
  refine ⟨h1, ⟨fun q hq => by rw [e]; exact h2 q hq, h3⟩, fun a ha b hb => ?_⟩
  rcases List.mem_cons.1 hb with rfl | hb
  · rw [e]; exact h4 a ha x (List.mem_cons_self ..)
  · exact h4 a ha b (List.mem_cons_of_mem _ hb)

theorem tput_nil_val (n : Nat) (t : RT) (v : List UInt8) : (tput n t [] v).1.val = some v := by
  by_cases h : t.val = some v <;> cases n <;> simp [tput, h]
theorem tput_ins {n : Nat} {t : RT} {c : UInt8} {key v : List UInt8} (hf : fH t.kids c.toNat = false) :
    tput (n + 1) t (c :: key) v = (RT.node t.lab t.val (t.kids.take (fI t.kids c.toNat) ++ RT.node (c :: key) (some v) [] :: t.kids.drop (fI t.kids c.toNat)), true, true) := by
  unfold tput
  rw [if_neg (by rw [hf]; simp)]
theorem tput_go' {n : Nat} {t kid : RT} {c : UInt8} {key v : List UInt8} (hf : fH t.kids c.toNat = true) (hkid : t.kids[fI t.kids c.toNat]? = some kid) {k : Nat} {kid' : RT} (hk : k = common (c :: key) kid.lab) (hkid' : kid' = if k < kid.lab.length then tsplit kid k else kid) {r : RT × Bool × Bool} (hr : r = tput n kid' ((c :: key).drop k) v) :
    tput (n + 1) t (c :: key) v = (if r.2.2 then (RT.node t.lab t.val (t.kids.set (fI t.kids c.toNat) r.1), r.2.1, true) else (t, false, false)) := by
  subst hr hkid' hk
  conv => lhs; unfold tput
  rw [if_pos hf, hkid]

theorem not_head {N : Nat} {ks : List RT} (h : Kd N ks) {c : UInt8} {key : List UInt8} (hf : ∀ k ∈ ks, k.hd ≠ c.toNat) {q : Pr} (hq : q ∈ belows ks) : q.1 ≠ c :: key := by
  obtain ⟨k, hk, hq⟩ := mem_belows.1 hq
  obtain ⟨d, l, e, hd⟩ := pre_head (h.ne k hk) hq
  intro e2
  rw [e] at e2
  cases e2
  exact hf k hk hd.symm

theorem tput_ok : ∀ (n N : Nat) (t : RT) (key v : List UInt8), key.length ≤ n → Kd N t.kids → key.length ≤ N → TOK N t key v (tput n t key v)
  | n, N, t, [], v, _, hk, _ => by
    have hown : ∀ u, ([], u) ∈ t.prs ↔ t.val = some u := by
      intro u
      rw [mem_below]
      constructor
      · rintro (⟨_, h⟩ | h)
        · exact h
        · exact absurd rfl (hk.key_ne h)
      · intro h; exact .inl ⟨rfl, h⟩
    by_cases hv : t.val = some v
    · have e : tput n t [] v = (t, false, false) := by cases n <;> simp [tput, hv]
      rw [e]
      refine ⟨rfl, hk, fun q => ?_, ?_, ?_, fun _ => rfl, fun h => h, Nat.le_refl _⟩
      · constructor
        · intro h
          by_cases e : q.1 = []
          · left
            obtain ⟨a, b⟩ := q
            simp only at e; subst e
            have := (hown b).1 h
            rw [hv] at this
            cases this; rfl
          · exact .inr ⟨h, e⟩
        · rintro (rfl | ⟨h, _⟩)
          · exact (hown v).2 hv
          · exact h
      · constructor
        · intro h; cases h
        · intro h; exact absurd ((hown v).2 hv) (h v)
      · constructor
        · intro h; cases h
        · intro h; exact absurd ((hown v).2 hv) h
    · have e : tput n t [] v = (RT.node t.lab (some v) t.kids, t.val.isNone, true) := by cases n <;> simp [tput, hv]
      rw [e]
      refine ⟨rfl, hk, fun q => ?_, ?_, ?_, (fun h => by cases h), fun _ => rfl, Nat.le_refl _⟩
      · rw [mem_below, mem_below]
        simp only [RT.val_node, RT.kids_node]
        constructor
        · rintro (⟨h1, h2⟩ | h)
          · left
            obtain ⟨a, b⟩ := q
            simp only at h1 h2; cases h2; subst h1; rfl
          · exact .inr ⟨.inr h, hk.key_ne h⟩
        · rintro (rfl | ⟨h1 | h1, h2⟩)
          · exact .inl ⟨rfl, rfl⟩
          · exact absurd h1.1 h2
          · exact .inr h1
      · simp only [hown, Option.isNone_iff_eq_none]
        constructor
        · intro h u e; rw [h] at e; cases e
        · intro h
          cases hh : t.val with
          | none => rfl
          | some u => exact absurd hh (h u)
      · simp only [hown]
        exact ⟨fun _ => hv, fun _ => by simp⟩
  | 0, N, t, c :: key, v, hn, _, _ => by simp at hn
  | n + 1, N, t, c :: key, v, hn, hk, hkl => by
    by_cases hf : fH t.kids c.toNat = true
    · obtain ⟨kid, hkid, hhd⟩ := fH_get hk.heads hf
      have hbr := hk.br (List.mem_of_getElem? hkid)
      obtain ⟨k, hkk⟩ : ∃ k, k = common (c :: key) kid.lab := ⟨_, rfl⟩
      obtain ⟨kid', hkid'⟩ : ∃ kid', kid' = if k < kid.lab.length then tsplit kid k else kid := ⟨_, rfl⟩
      obtain ⟨r, hr⟩ : ∃ r, r = tput n kid' ((c :: key).drop k) v := ⟨_, rfl⟩
      rw [tput_go' hf hkid hkk hkid' hr]
      have hkle := common_le' (c :: key) kid.lab
      rw [← hkk] at hkle
      have hk1 : 1 ≤ k := by
        obtain ⟨l, hl⟩ := hd_lab hbr.1 hhd
        rw [hkk, hl, common_pos]; omega
      have hct := common_take (c :: key) kid.lab
      rw [← hkk] at hct
      have hlab : kid'.lab = (c :: key).take k := by
        rw [hkid', hct]
        split
        · rfl
        · rw [List.take_of_length_le (by omega)]
      have hpre : pre kid'.lab kid'.prs = pre kid.lab kid.prs := by
        rw [hkid']
        split
        · exact tsplit_pre kid k
        · rfl
      have hkd' : Kd (N - k) kid'.kids := by
        rw [hkid']
        split
        · rename_i h; exact tsplit_kd hbr h
        · have : k = kid.lab.length := by omega
          rw [this]; exact hbr.2.2.2
      have hdl := List.length_drop (i := k) (l := c :: key)
      have ih := tput_ok n (N - k) kid' ((c :: key).drop k) v (by omega) hkd' (by omega)
      rw [← hr] at ih
      have hhd' : kid'.hd = kid.hd := by
        obtain ⟨k0, rfl⟩ : ∃ k0, k = k0 + 1 := ⟨k - 1, by omega⟩
        rw [hd_eq (hlab.trans List.take_succ_cons), hhd]
      have hwt : r.2.2 = true → r.1.val.isSome = true ∨ 2 ≤ r.1.kids.length := by
        intro hc
        by_cases hlt : k < kid.lab.length
        · rw [if_pos hlt] at hkid'
          cases hd : (c :: key).drop k with
          | nil => left; rw [hr, hd, tput_nil_val]; rfl
          | cons x l =>
            right
            obtain ⟨y, m, hm⟩ := List.exists_cons_of_ne_nil (show kid.lab.drop k ≠ [] by intro e; have := congrArg List.length e; simp at this; omega)
            have hxy := common_next (c :: key) kid.lab (by rw [← hkk]; exact hd) (by rw [← hkk]; exact hm)
            have hf' : fH kid'.kids x.toNat = false := by
              rw [Bool.eq_false_iff]
              intro h
              obtain ⟨q, hq, e⟩ := fH_iff.1 h
              rw [hkid'] at hq
              simp [tsplit] at hq
              subst hq
              rw [hd_eq (t := RT.node (kid.lab.drop k) kid.val kid.kids) hm] at e
              exact hxy (UInt8.toNat_inj.1 e.symm)
            obtain ⟨n0, rfl⟩ : ∃ n0, n = n0 + 1 := ⟨n - 1, by rw [hd] at hdl; simp at hdl hn; omega⟩
            rw [hr, hd, tput_ins hf']
            simp only [RT.kids_node, List.length_append, List.length_cons, List.length_take, List.length_drop]
            rw [hkid']
            simp [tsplit]
            omega
        · rw [if_neg hlt] at hkid'
          rcases hbr.2.2.1 with h | h
          · left; exact ih.val (by rw [hkid']; exact h)
          · right; have := ih.len; rw [hkid'] at this; omega
      have hkey : ∀ u, (c :: key, u) ∈ t.prs ↔ ((c :: key).drop k, u) ∈ kid'.prs := by
        intro u
        rw [mem_below]
        constructor
        · rintro (⟨h, _⟩ | h)
          · cases h
          · obtain ⟨q, hq, hm⟩ := mem_belows.1 h
            obtain ⟨d, l, e, hd⟩ := pre_head (hk.ne q hq) hm
            cases e
            have hqk : q = kid := by
              obtain ⟨j, hj⟩ := List.getElem?_of_mem hq
              obtain ⟨e1, e2⟩ := List.getElem?_eq_some_iff.1 hj
              obtain ⟨e3, e4⟩ := List.getElem?_eq_some_iff.1 hkid
              rcases Nat.lt_trichotomy j (fI t.kids c.toNat) with h | h | h
              · have := List.pairwise_iff_getElem.1 hk.heads _ _ e1 e3 h
                rw [e2, e4] at this; omega
              · subst h; rw [hkid] at hj; exact (Option.some.inj hj).symm
              · have := List.pairwise_iff_getElem.1 hk.heads _ _ e3 e1 h
                rw [e2, e4] at this; omega
            subst hqk
            rw [← hpre] at hm
            obtain ⟨p, hp, e⟩ := mem_pre.1 hm
            rw [hlab] at e
            simp only [Prod.mk.injEq] at e
            obtain ⟨e1, rfl⟩ := e
            have : (c :: key).drop k = p.1 := by
              have h2 := List.take_append_drop k (c :: key)
              rw [e1] at h2 ⊢
              rw [List.drop_left' (by rw [List.length_take]; have := congrArg List.length e1; simp at this; omega)]
            rw [this]; exact hp
        · intro h
          right
          refine mem_belows.2 ⟨kid, List.mem_of_getElem? hkid, ?_⟩
          rw [← hpre]
          refine mem_pre.2 ⟨_, h, ?_⟩
          rw [hlab, List.take_append_drop]
      cases hc : r.2.2 with
      | false =>
        rw [if_neg (by simp)]
        have hin : (c :: key, v) ∈ t.prs := (hkey v).2 (by
          have := ih.ch
          rw [hc] at this
          exact Classical.not_not.1 fun h => by have := this.2 h; cases this)
        have huniq : ∀ q ∈ t.prs, q.1 = c :: key → q = (c :: key, v) := by
          intro q hq e
          obtain ⟨a, b⟩ := q
          simp only at e; subst e
          have h1 := (hkey b).1 hq
          have h2 := (ih.mem ((c :: key).drop k, b)).1 (by rw [ih.same hc]; exact h1)
          rcases h2 with h2 | ⟨_, h2⟩
          · cases h2; rfl
          · exact absurd rfl h2
        refine ⟨rfl, hk, fun q => ?_, ?_, ?_, fun _ => rfl, fun h => h, Nat.le_refl _⟩
        · constructor
          · intro h
            by_cases e : q.1 = c :: key
            · exact .inl (huniq q h e)
            · exact .inr ⟨h, e⟩
          · rintro (rfl | ⟨h, _⟩)
            · exact hin
            · exact h
        · constructor
          · intro h; cases h
          · intro h; exact absurd hin (h v)
        · constructor
          · intro h; cases h
          · intro h; exact absurd hin h
      | true =>
        rw [if_pos rfl]
        obtain ⟨hs1, hs2⟩ := set_cut (y := r.1) hkid
        obtain ⟨A, hA⟩ : ∃ A, A = t.kids.take (fI t.kids c.toNat) := ⟨_, rfl⟩
        obtain ⟨B, hB⟩ : ∃ B, B = t.kids.drop (fI t.kids c.toNat + 1) := ⟨_, rfl⟩
        rw [← hA, ← hB] at hs1 hs2
        have hrl : r.1.lab = (c :: key).take k := ih.lab.trans hlab
        have hrhd : r.1.hd = kid.hd := by
          unfold RT.hd at *
          rw [hrl, ← hlab]; exact hhd'
        have hother : ∀ q ∈ belows A ++ belows B, q.1 ≠ c :: key := by
          intro q hq e
          have : q ∈ belows (A ++ B) := by rw [belows_append]; exact hq
          obtain ⟨x, hx, hm⟩ := mem_belows.1 this
          have hxt : x ∈ t.kids := by rw [hs2]; rcases List.mem_append.1 hx with h | h <;> simp [h]
          obtain ⟨d, l, e', hd⟩ := pre_head (hk.ne x hxt) hm
          rw [e] at e'; cases e'
          have hh := hk.heads
          rw [hs2] at hh
          unfold Heads at hh
          rw [List.pairwise_append, List.pairwise_cons] at hh
          obtain ⟨_, ⟨h2, _⟩, h4⟩ := hh
          rcases List.mem_append.1 hx with h | h
          · have := h4 x h kid (List.mem_cons_self ..); omega
          · have := h2 x h; omega
        refine ⟨rfl, ?_, fun q => ?_, ?_, ?_, (fun h => by cases h), fun h => h, ?_⟩
        · simp only [RT.kids_node]
          rw [hs1]
          have hh := hk.heads
          rw [hs2] at hh
          refine kd_iff.2 ⟨heads_mid hh hrhd, fun x hx => ?_⟩
          rcases List.mem_append.1 hx with h | h
          · exact hk.br (by rw [hs2]; simp [h])
          · rcases List.mem_cons.1 h with rfl | h
            · refine ⟨?_, ?_, hwt hc, ?_⟩
              · rw [hrl]; intro e; have := congrArg List.length e; simp at this; omega
              · rw [hrl, List.length_take]; omega
              · have : r.1.lab.length = k := by rw [hrl, List.length_take]; omega
                rw [this]; exact ih.kd
            · exact hk.br (by rw [hs2]; simp [h])
        · rw [mem_below, mem_below]
          simp only [RT.val_node, RT.kids_node]
          rw [hs1]
          conv => rhs; rw [hs2]
          simp only [belows_append, belows_cons, List.mem_append]
          have hr1 : q ∈ pre r.1.lab r.1.prs ↔ q = (c :: key, v) ∨ (q ∈ pre kid.lab kid.prs ∧ q.1 ≠ c :: key) := by
            rw [← hpre, mem_pre, mem_pre, hrl, hlab]
            constructor
            · rintro ⟨p, hp, rfl⟩
              rcases (ih.mem p).1 hp with rfl | ⟨h1, h2⟩
              · left; simp only [List.take_append_drop]
              · right
                refine ⟨⟨p, h1, rfl⟩, fun e => h2 ?_⟩
                simp only at e
                have h3 := List.take_append_drop k (c :: key)
                rw [← e] at h3
                have hl : ((c :: key).take k).length = k := by rw [List.length_take]; omega
                have h4 : ((c :: key).take k ++ p.1).drop k = p.1 := List.drop_left' hl
                rw [e] at h4
                exact h4.symm
            · rintro (rfl | ⟨⟨p, hp, rfl⟩, h2⟩)
              · exact ⟨((c :: key).drop k, v), (ih.mem _).2 (.inl rfl), by simp only [List.take_append_drop]⟩
              · refine ⟨p, (ih.mem p).2 (.inr ⟨hp, fun e => h2 ?_⟩), rfl⟩
                simp only [e, List.take_append_drop]
          rw [hr1]
          have ho : ∀ x, x ∈ belows A ∨ x ∈ belows B → x.1 ≠ c :: key := fun x hx => hother x (by rw [List.mem_append]; exact hx)
          constructor
          · rintro (⟨h1, h2⟩ | h | h | h)
            · right; exact ⟨.inl ⟨h1, h2⟩, by rw [h1]; simp⟩
            · right; exact ⟨.inr (.inl h), ho q (.inl h)⟩
            · rcases h with h | ⟨h1, h2⟩
              · exact .inl h
              · exact .inr ⟨.inr (.inr (.inl h1)), h2⟩
            · right; exact ⟨.inr (.inr (.inr h)), ho q (.inr h)⟩
          · rintro (h | ⟨h1 | h1 | h1 | h1, h2⟩)
            · exact .inr (.inr (.inl (.inl h)))
            · exact .inl h1
            · exact .inr (.inl h1)
            · exact .inr (.inr (.inl (.inr ⟨h1, h2⟩)))
            · exact .inr (.inr (.inr h1))
        · simp only
          rw [ih.add]
          exact ⟨fun h u hu => h u ((hkey u).1 hu), fun h u hu => h u ((hkey u).2 hu)⟩
        · simp only
          have := ih.ch
          rw [hc] at this
          exact ⟨fun _ h => (this.1 rfl) ((hkey v).1 h), fun _ => by simp⟩
        · simp
    · have hf' : fH t.kids c.toNat = false := by simpa using hf
      rw [tput_ins hf']
      have hno : ∀ k ∈ t.kids, k.hd ≠ c.toNat := by
        intro k hkm e
        exact hf (fH_iff.2 ⟨k, hkm, e⟩)
      have hnk : ∀ q ∈ t.prs, q.1 ≠ c :: key := by
        intro q hq
        rcases mem_below.1 hq with ⟨h, _⟩ | h
        · rw [h]; simp
        · exact not_head hk hno h
      obtain ⟨i, hi⟩ : ∃ i, i = fI t.kids c.toNat := ⟨_, rfl⟩
      have hle := fI_le t.kids c.toNat
      rw [← hi] at hle ⊢
      have hlf : (RT.node (c :: key) (some v) []).hd = c.toNat := hd_eq rfl
      refine ⟨rfl, ?_, fun q => ?_, ?_, ?_, (fun h => by cases h), fun h => h, ?_⟩
      · simp only [RT.kids_node]
        refine kd_iff.2 ⟨?_, fun x hx => ?_⟩
        · have hh := hk.heads
          rw [← List.take_append_drop i t.kids] at hh
          unfold Heads at hh ⊢
          rw [List.pairwise_append] at hh ⊢
          rw [List.pairwise_cons]
          obtain ⟨h1, h2, h3⟩ := hh
          refine ⟨h1, ⟨fun q hq => ?_, h2⟩, fun a ha b hb => ?_⟩
          · rw [hlf]
            obtain ⟨j, hj⟩ := List.getElem?_of_mem hq
            rw [List.getElem?_drop] at hj
            have := fI_ge hk.heads (show fI t.kids c.toNat ≤ i + j by omega) hj
            have := hno q (List.mem_of_getElem? hj)
            omega
          · rcases List.mem_cons.1 hb with rfl | hb
            · rw [hlf]
              obtain ⟨j, hj⟩ := List.getElem?_of_mem ha
              rw [List.getElem?_take] at hj
              split at hj
              · exact fI_lt (by omega) hj
              · cases hj
            · exact h3 a ha b hb
        · rcases List.mem_append.1 hx with h | h
          · exact hk.br (List.mem_of_mem_take h)
          · rcases List.mem_cons.1 h with rfl | h
            · exact ⟨by simp, by simpa using hkl, .inl (by simp), .nil _⟩
            · exact hk.br (List.mem_of_mem_drop h)
      · have hb : t.prs = ownP t.val ++ (belows (t.kids.take i) ++ belows (t.kids.drop i)) := by rw [← belows_append, List.take_append_drop, below_eq]
        have hq2 : q ∈ t.prs ∧ q.1 ≠ c :: key ↔ q ∈ t.prs := ⟨fun h => h.1, fun h => ⟨h, hnk q h⟩⟩
        rw [hq2, below_eq, hb]
        simp only [RT.val_node, RT.kids_node, belows_append, belows_cons, List.mem_append]
        have : q ∈ pre (RT.node (c :: key) (some v) []).lab (RT.node (c :: key) (some v) []).prs ↔ q = (c :: key, v) := by
          rw [below_eq]; simp [pre, ownP, belows_nil]
        rw [this]
        constructor
        · rintro (h | h | h | h)
          · exact .inr (.inl h)
          · exact .inr (.inr (.inl h))
          · exact .inl h
          · exact .inr (.inr (.inr h))
        · rintro (h | h | h | h)
          · exact .inr (.inr (.inl h))
          · exact .inl h
          · exact .inr (.inl h)
          · exact .inr (.inr (.inr h))
      · simp only [true_iff]
        exact fun u hu => hnk _ hu rfl
      · simp only [true_iff]
        exact fun hu => hnk _ hu rfl
      · simp; omega
end Go.QS
/- Plain laws: the pairs of a tree rise; put in a tree is put in its list. No program. -/
namespace Go.QS

theorem app_lt (l : List UInt8) (a b : List UInt8) : l ++ a < l ++ b ↔ a < b := by
  induction l with
  | nil => rfl
  | cons x l ih => rw [List.cons_append, List.cons_append, List.cons_lt_cons_iff, ih]; simp
theorem rise_pre {l : List UInt8} {x : List Pr} (h : Rise x) : Rise (pre l x) := by
  unfold Rise pre at *
  rw [List.pairwise_map]
  exact h.imp fun h => (app_lt l _ _).2 h
theorem rise_append {a b : List Pr} (ha : Rise a) (hb : Rise b) (h : ∀ p ∈ a, ∀ q ∈ b, p.1 < q.1) : Rise (a ++ b) := by
  unfold Rise at *
  exact List.pairwise_append.2 ⟨ha, hb, h⟩
theorem nil_lt {a : List UInt8} (h : a ≠ []) : [] < a := by
  obtain ⟨x, l, rfl⟩ := List.exists_cons_of_ne_nil h
  exact List.nil_lt_cons _ _
theorem head_lt {x y : UInt8} {a b : List UInt8} (h : x.toNat < y.toNat) : x :: a < y :: b := by
  rw [List.cons_lt_cons_iff]
  exact .inl (UInt8.lt_iff_toNat_lt.2 h)

theorem prs_rise_of {N : Nat} {t : RT} (hk : Kd N t.kids) (h : Rise (belows t.kids)) : Rise t.prs := by
  rw [below_eq]
  refine rise_append ?_ h ?_
  · cases t.val <;> simp [ownP, Rise]
  · intro p hp q hq
    rw [(mem_ownP.1 hp).1]
    exact nil_lt (hk.key_ne hq)

theorem Kd.rise {N : Nat} {ks : List RT} (h : Kd N ks) : Rise (belows ks) := by
  induction h with
  | nil N => exact rise_nil
  | @cons N t r h1 h2 h3 h4 h5 h6 ih4 ih6 =>
    rw [belows_cons]
    refine rise_append (rise_pre (prs_rise_of h4 ih4)) ih6 ?_
    intro p hp q hq
    obtain ⟨c, l, e, hc⟩ := pre_head h1 hp
    obtain ⟨k, hk, hq⟩ := mem_belows.1 hq
    obtain ⟨d, m, e', hd⟩ := pre_head (h6.ne k hk) hq
    rw [e, e']
    exact head_lt (by rw [hc, hd]; exact h5 k hk)

theorem Kd.prs_rise {N : Nat} {t : RT} (h : Kd N t.kids) : Rise t.prs := prs_rise_of h h.rise

theorem tput_prs {n N : Nat} {t : RT} {key v : List UInt8} (hn : key.length ≤ n) (hk : Kd N t.kids) (hkl : key.length ≤ N) : (tput n t key v).1.prs = rput t.prs (key, v) := by
  have h := tput_ok n N t key v hn hk hkl
  refine rise_ext _ _ h.kd.prs_rise (rput_rise hk.prs_rise _) fun p => ?_
  rw [h.mem, mem_rput]
theorem tput_add {n N : Nat} {t : RT} {key v : List UInt8} (hn : key.length ≤ n) (hk : Kd N t.kids) (hkl : key.length ≤ N) : (tput n t key v).2.1 = !hasK t.prs key := by
  have h := tput_ok n N t key v hn hk hkl
  rw [Bool.eq_iff_iff, h.add]
  simp only [Bool.not_eq_true', Bool.eq_false_iff]
  rw [Ne, hasK_iff]
  constructor
  · rintro h ⟨q, hq, e⟩
    exact h q.2 (by rw [← e]; exact hq)
  · intro h u hu
    exact h ⟨_, hu, rfl⟩

/-- A tree of pairs, one by one. -/
def treeOf (l : List Pr) : RT := l.foldl (fun t p => (tput p.1.length t p.1 p.2).1) (RT.node [] none [])
/-- A pair that isn't too long. -/
def cutP (p : Pr) : Pr := (p.1.take 40, p.2.take 40)
theorem treeOf_snoc (l : List Pr) (p : Pr) : treeOf (l ++ [p]) = (tput p.1.length (treeOf l) p.1 p.2).1 := by simp [treeOf]
theorem treeOf_ok (l : List Pr) (h : ∀ p ∈ l, p.1.length ≤ 40) : (treeOf l).lab = [] ∧ Kd 40 (treeOf l).kids ∧ (treeOf l).prs = rsort l := by
  induction l using snoc_ind with
  | h0 => exact ⟨rfl, .nil _, rfl⟩
  | h1 l p ih =>
    obtain ⟨h1, h2, h3⟩ := ih fun q hq => h q (by simp [hq])
    have hp := h p (by simp)
    have ok := tput_ok p.1.length 40 (treeOf l) p.1 p.2 (Nat.le_refl _) h2 hp
    rw [treeOf_snoc, rsort_snoc]
    refine ⟨ok.lab.trans h1, ok.kd, ?_⟩
    rw [tput_prs (Nat.le_refl _) h2 hp, h3]
end Go.QS
