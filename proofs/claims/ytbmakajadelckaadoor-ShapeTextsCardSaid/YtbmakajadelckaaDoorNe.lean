/- What a node's chunks have: nothing, a pair, a kid; as bits and as lists. Plain laws. No program. -/
import Derived.Test.YtbmakajadelckaaDoorVoc
import Derived.Test.YtbmakajadelckaaDoorPop
set_option linter.unusedVariables false
set_option linter.unusedSimpArgs false
namespace Go.QS

inductive Slot (α : Type) where
  | no
  | pr (p : Pr)
  | kid (k : α)

section
variable {α : Type}
namespace Slot
def isP : Slot α → Bool | pr _ => true | _ => false
def isK : Slot α → Bool | kid _ => true | _ => false
def getP : Slot α → Option Pr | pr p => some p | _ => none
def getK : Slot α → Option α | kid k => some k | _ => none
@[simp] theorem isP_no : (no : Slot α).isP = false := rfl
@[simp] theorem isP_pr (p : Pr) : (pr p : Slot α).isP = true := rfl
@[simp] theorem isP_kid (k : α) : (kid k : Slot α).isP = false := rfl
@[simp] theorem isK_no : (no : Slot α).isK = false := rfl
@[simp] theorem isK_pr (p : Pr) : (pr p : Slot α).isK = false := rfl
@[simp] theorem isK_kid (k : α) : (kid k : Slot α).isK = true := rfl
@[simp] theorem getP_no : (no : Slot α).getP = none := rfl
@[simp] theorem getP_pr (p : Pr) : (pr p : Slot α).getP = some p := rfl
@[simp] theorem getP_kid (k : α) : (kid k : Slot α).getP = none := rfl
@[simp] theorem getK_no : (no : Slot α).getK = none := rfl
@[simp] theorem getK_pr (p : Pr) : (pr p : Slot α).getK = none := rfl
@[simp] theorem getK_kid (k : α) : (kid k : Slot α).getK = some k := rfl
end Slot
open Slot

def prsOf (sl : List (Slot α)) : List Pr := sl.filterMap getP
def kdsOf (sl : List (Slot α)) : List α := sl.filterMap getK
def bitsOf (f : Slot α → Bool) : List (Slot α) → Nat
  | [] => 0
  | s :: r => (if f s then 1 else 0) + 2 * bitsOf f r
abbrev dataOf (sl : List (Slot α)) : Nat := bitsOf isP sl
abbrev nodesOf (sl : List (Slot α)) : Nat := bitsOf isK sl
/-- With nothing. -/
def sl0 (α : Type) : List (Slot α) := List.replicate 32 .no
@[simp] theorem sl0_length : (sl0 α).length = 32 := by simp [sl0]

theorem bitsOf_lt (f : Slot α → Bool) : ∀ sl : List (Slot α), bitsOf f sl < 2 ^ sl.length
  | [] => by simp [bitsOf]
  | s :: r => by
    have := bitsOf_lt f r
    simp only [bitsOf, List.length_cons, Nat.pow_succ]
    split <;> omega
theorem bits32 (f : Slot α → Bool) {sl : List (Slot α)} (h : sl.length = 32) : bitsOf f sl < 4294967296 := by
  have := bitsOf_lt f sl
  rw [h] at this
  exact this
theorem bitsOf_bit (f : Slot α → Bool) : ∀ (sl : List (Slot α)) (i : Nat), (bitsOf f sl).testBit i = (match sl[i]? with | some s => f s | none => false)
  | [], i => by simp [bitsOf]
  | s :: r, 0 => by
    simp only [bitsOf, List.getElem?_cons_zero, Nat.testBit_zero]
    cases f s <;> simp <;> omega
  | s :: r, i + 1 => by
    have h := bitsOf_bit f r i
    have e : (bitsOf f (s :: r)) / 2 = bitsOf f r := by
      simp only [bitsOf]
      split <;> omega
    rw [Nat.testBit_succ, e, h, List.getElem?_cons_succ]
theorem bit_at (f : Slot α → Bool) {sl : List (Slot α)} {i : Nat} {s : Slot α} (h : sl[i]? = some s) : (bitsOf f sl).testBit i = f s := by rw [bitsOf_bit, h]
theorem bitsOf_mod (f : Slot α → Bool) : ∀ (sl : List (Slot α)) (i : Nat), bitsOf f sl % 2 ^ i = bitsOf f (sl.take i)
  | [], i => by simp [bitsOf]
  | s :: r, 0 => by simp [bitsOf, Nat.mod_one]
  | s :: r, i + 1 => by
    have h := bitsOf_mod f r i
    rw [List.take_succ_cons]
    simp only [bitsOf]
    rw [← h, Nat.pow_succ, Nat.mul_comm (2 ^ i) 2]
    have hp : 0 < 2 ^ i := Nat.two_pow_pos i
    generalize 2 ^ i = m at hp ⊢
    generalize bitsOf f r = x
    have e : ∀ b, b < 2 → (b + 2 * x) % (2 * m) = b + 2 * (x % m) := fun b hb => by
      have h1 := Nat.div_add_mod x m
      have h2 := Nat.mod_lt x hp
      have : b + 2 * x = (b + 2 * (x % m)) + 2 * m * (x / m) := by
        rw [Nat.mul_assoc]; omega
      rw [this, Nat.add_mul_mod_self_left, Nat.mod_eq_of_lt (by omega)]
    split
    · exact e 1 (by decide)
    · exact e 0 (by decide)
theorem pop_bits (f : Slot α → Bool) : ∀ (n : Nat) (sl : List (Slot α)), sl.length ≤ n → Lib.popAux n (bitsOf f sl) = (sl.filter f).length
  | n, [], _ => by
    simp only [bitsOf, List.filter_nil, List.length_nil]
    exact pop_zero n
  | 0, s :: r, h => by simp at h
  | n + 1, s :: r, h => by
    have ih := pop_bits f n r (by simpa using h)
    have e : (bitsOf f (s :: r)) / 2 = bitsOf f r := by
      simp only [bitsOf]
      split <;> omega
    have e2 : (bitsOf f (s :: r)) % 2 = if f s then 1 else 0 := by
      simp only [bitsOf]
      split <;> omega
    rw [pa, e, e2, ih, List.filter_cons]
    split
    · rw [List.length_cons]; omega
    · omega
theorem ones_bits (f : Slot α → Bool) {sl : List (Slot α)} (h : sl.length ≤ 64) : Lib.onesCount (bitsOf f sl) = (sl.filter f).length := pop_bits f 64 sl h
theorem prsOf_no (r : List (Slot α)) : prsOf (.no :: r) = prsOf r := rfl
theorem prsOf_pr (p : Pr) (r : List (Slot α)) : prsOf (.pr p :: r) = p :: prsOf r := rfl
theorem prsOf_kid (k : α) (r : List (Slot α)) : prsOf (.kid k :: r) = prsOf r := rfl
theorem kdsOf_no (r : List (Slot α)) : kdsOf (.no :: r) = kdsOf r := rfl
theorem kdsOf_pr (p : Pr) (r : List (Slot α)) : kdsOf (.pr p :: r) = kdsOf r := rfl
theorem kdsOf_kid (k : α) (r : List (Slot α)) : kdsOf (.kid k :: r) = k :: kdsOf r := rfl
theorem filter_isP : ∀ sl : List (Slot α), (sl.filter isP).length = (prsOf sl).length
  | [] => rfl
  | s :: r => by
    have ih := filter_isP r
    cases s <;> simp only [List.filter_cons, isP_no, isP_pr, isP_kid, prsOf_no, prsOf_pr, prsOf_kid, List.length_cons, if_true, Bool.false_eq_true, if_false, ih]
theorem filter_isK : ∀ sl : List (Slot α), (sl.filter isK).length = (kdsOf sl).length
  | [] => rfl
  | s :: r => by
    have ih := filter_isK r
    cases s <;> simp only [List.filter_cons, isK_no, isK_pr, isK_kid, kdsOf_no, kdsOf_pr, kdsOf_kid, List.length_cons, if_true, Bool.false_eq_true, if_false, ih]
theorem prsOf_append (a b : List (Slot α)) : prsOf (a ++ b) = prsOf a ++ prsOf b := by simp [prsOf]
theorem kdsOf_append (a b : List (Slot α)) : kdsOf (a ++ b) = kdsOf a ++ kdsOf b := by simp [kdsOf]
theorem prsOf_len (sl : List (Slot α)) : (prsOf sl).length ≤ sl.length := List.length_filterMap_le ..
theorem kdsOf_len (sl : List (Slot α)) : (kdsOf sl).length ≤ sl.length := List.length_filterMap_le ..
theorem both_len : ∀ sl : List (Slot α), (prsOf sl).length + (kdsOf sl).length ≤ sl.length
  | [] => by simp [prsOf, kdsOf]
  | s :: r => by
    have ih := both_len r
    cases s <;> simp only [prsOf_no, prsOf_pr, prsOf_kid, kdsOf_no, kdsOf_pr, kdsOf_kid, List.length_cons] <;> omega
/-- A place, cut out. -/
theorem slot_cut {sl : List (Slot α)} {i : Nat} {s : Slot α} (h : sl[i]? = some s) : sl = sl.take i ++ s :: sl.drop (i + 1) := by
  obtain ⟨hl, he⟩ := List.getElem?_eq_some_iff.1 h
  subst he
  simp
theorem slot_set {sl : List (Slot α)} {i : Nat} (h : i < sl.length) (s : Slot α) : sl.set i s = sl.take i ++ s :: sl.drop (i + 1) := by
  rw [List.set_eq_take_append_cons_drop, if_pos h]

/-- How many pairs (kids) lie ahead of a place. -/
def rkP (sl : List (Slot α)) (i : Nat) : Nat := (prsOf (sl.take i)).length
def rkK (sl : List (Slot α)) (i : Nat) : Nat := (kdsOf (sl.take i)).length
theorem rkP_le (sl : List (Slot α)) (i : Nat) : rkP sl i ≤ (prsOf sl).length := by
  unfold rkP
  conv => rhs; rw [← List.take_append_drop i sl, prsOf_append, List.length_append]
  omega
theorem rkK_le (sl : List (Slot α)) (i : Nat) : rkK sl i ≤ (kdsOf sl).length := by
  unfold rkK
  conv => rhs; rw [← List.take_append_drop i sl, kdsOf_append, List.length_append]
  omega
theorem rk_data {sl : List (Slot α)} (h : sl.length ≤ 64) (i : Nat) : Lib.onesCount (dataOf sl % 2 ^ i) = rkP sl i := by
  rw [bitsOf_mod, ones_bits _ (by rw [List.length_take]; omega), filter_isP]; rfl
theorem rk_nodes {sl : List (Slot α)} (h : sl.length ≤ 64) (i : Nat) : Lib.onesCount (nodesOf sl % 2 ^ i) = rkK sl i := by
  rw [bitsOf_mod, ones_bits _ (by rw [List.length_take]; omega), filter_isK]; rfl
theorem prs_at {sl : List (Slot α)} {i : Nat} {p : Pr} (h : sl[i]? = some (.pr p)) : (prsOf sl)[rkP sl i]? = some p := by
  have e := congrArg prsOf (slot_cut h)
  rw [prsOf_append] at e
  rw [e]
  unfold rkP
  rw [List.getElem?_append_right (Nat.le_refl _), Nat.sub_self]
  rfl
theorem kds_at {sl : List (Slot α)} {i : Nat} {k : α} (h : sl[i]? = some (.kid k)) : (kdsOf sl)[rkK sl i]? = some k := by
  have e := congrArg kdsOf (slot_cut h)
  rw [kdsOf_append] at e
  rw [e]
  unfold rkK
  rw [List.getElem?_append_right (Nat.le_refl _), Nat.sub_self]
  rfl
theorem take_set_lt (sl : List (Slot α)) (i : Nat) (s : Slot α) : (sl.set i s).take i = sl.take i := by
  rw [List.take_set, List.set_eq_of_length_le (by simp; omega)]
theorem rkP_set (sl : List (Slot α)) (i : Nat) (s : Slot α) : rkP (sl.set i s) i = rkP sl i := by unfold rkP; rw [take_set_lt]
theorem rkK_set (sl : List (Slot α)) (i : Nat) (s : Slot α) : rkK (sl.set i s) i = rkK sl i := by unfold rkK; rw [take_set_lt]
private theorem cut_take {β : Type} (a b : List β) : (a ++ b).take a.length = a ∧ (a ++ b).drop a.length = b := by simp
theorem prs_cut (sl : List (Slot α)) (i : Nat) : (prsOf sl).take (rkP sl i) = prsOf (sl.take i) ∧ (prsOf sl).drop (rkP sl i) = prsOf (sl.drop i) := by
  have := cut_take (prsOf (sl.take i)) (prsOf (sl.drop i))
  rwa [← prsOf_append, List.take_append_drop] at this
theorem kds_cut (sl : List (Slot α)) (i : Nat) : (kdsOf sl).take (rkK sl i) = kdsOf (sl.take i) ∧ (kdsOf sl).drop (rkK sl i) = kdsOf (sl.drop i) := by
  have := cut_take (kdsOf (sl.take i)) (kdsOf (sl.drop i))
  rwa [← kdsOf_append, List.take_append_drop] at this
theorem drop_cut {sl : List (Slot α)} {i : Nat} {s : Slot α} (h : sl[i]? = some s) : sl.drop i = s :: sl.drop (i + 1) := by
  obtain ⟨hl, he⟩ := List.getElem?_eq_some_iff.1 h
  rw [List.drop_eq_getElem_cons hl, he]
theorem get_lt {sl : List (Slot α)} {i : Nat} {s : Slot α} (h : sl[i]? = some s) : i < sl.length := (List.getElem?_eq_some_iff.1 h).1

/-! ### A place set -/
theorem prs_set_pp {sl : List (Slot α)} {i : Nat} {q : Pr} (h : sl[i]? = some (.pr q)) (p : Pr) : prsOf (sl.set i (.pr p)) = (prsOf sl).set (rkP sl i) p := by
  have hc := prs_cut sl i
  rw [drop_cut h] at hc
  have hd : (prsOf sl).drop (rkP sl i) = q :: prsOf (sl.drop (i + 1)) := hc.2
  have hlt : rkP sl i < (prsOf sl).length := (List.getElem?_eq_some_iff.1 (prs_at h)).1
  have hd1 : (prsOf sl).drop (rkP sl i + 1) = prsOf (sl.drop (i + 1)) := by
    have := congrArg (List.drop 1) hd
    rwa [List.drop_drop] at this
  rw [slot_set (get_lt h), prsOf_append, List.set_eq_take_append_cons_drop, if_pos hlt, hc.1, hd1]
  rfl
theorem kds_set_kk {sl : List (Slot α)} {i : Nat} {q : α} (h : sl[i]? = some (.kid q)) (k : α) : kdsOf (sl.set i (.kid k)) = (kdsOf sl).set (rkK sl i) k := by
  have hc := kds_cut sl i
  rw [drop_cut h] at hc
  have hd : (kdsOf sl).drop (rkK sl i) = q :: kdsOf (sl.drop (i + 1)) := hc.2
  have hlt : rkK sl i < (kdsOf sl).length := (List.getElem?_eq_some_iff.1 (kds_at h)).1
  have hd1 : (kdsOf sl).drop (rkK sl i + 1) = kdsOf (sl.drop (i + 1)) := by
    have := congrArg (List.drop 1) hd
    rwa [List.drop_drop] at this
  rw [slot_set (get_lt h), kdsOf_append, List.set_eq_take_append_cons_drop, if_pos hlt, hc.1, hd1]
  rfl
theorem prs_set_np {sl : List (Slot α)} {i : Nat} (h : sl[i]? = some .no) (p : Pr) : prsOf (sl.set i (.pr p)) = (prsOf sl).take (rkP sl i) ++ p :: (prsOf sl).drop (rkP sl i) := by
  have hc := prs_cut sl i
  rw [slot_set (get_lt h), prsOf_append, hc.1, hc.2, drop_cut h]
  rfl
theorem kds_set_nk {sl : List (Slot α)} {i : Nat} (h : sl[i]? = some .no) (k : α) : kdsOf (sl.set i (.kid k)) = (kdsOf sl).take (rkK sl i) ++ k :: (kdsOf sl).drop (rkK sl i) := by
  have hc := kds_cut sl i
  rw [slot_set (get_lt h), kdsOf_append, hc.1, hc.2, drop_cut h]
  rfl
theorem prs_set_pn {sl : List (Slot α)} {i : Nat} {q : Pr} (h : sl[i]? = some (.pr q)) {s : Slot α} (hs : s.getP = none) : prsOf (sl.set i s) = (prsOf sl).take (rkP sl i) ++ (prsOf sl).drop (rkP sl i + 1) := by
  have hc := prs_cut sl i
  rw [drop_cut h] at hc
  have hd1 : (prsOf sl).drop (rkP sl i + 1) = prsOf (sl.drop (i + 1)) := by
    have := congrArg (List.drop 1) hc.2
    rwa [List.drop_drop] at this
  rw [slot_set (get_lt h), prsOf_append, hc.1, hd1]
  simp [prsOf, hs]
theorem kds_set_kn {sl : List (Slot α)} {i : Nat} {q : α} (h : sl[i]? = some (.kid q)) {s : Slot α} (hs : s.getK = none) : kdsOf (sl.set i s) = (kdsOf sl).take (rkK sl i) ++ (kdsOf sl).drop (rkK sl i + 1) := by
  have hc := kds_cut sl i
  rw [drop_cut h] at hc
  have hd1 : (kdsOf sl).drop (rkK sl i + 1) = kdsOf (sl.drop (i + 1)) := by
    have := congrArg (List.drop 1) hc.2
    rwa [List.drop_drop] at this
  rw [slot_set (get_lt h), kdsOf_append, hc.1, hd1]
  simp [kdsOf, hs]
/-- Neither had, nor has, a pair there. -/
theorem prs_set_nn {sl : List (Slot α)} {i : Nat} {a s : Slot α} (h : sl[i]? = some a) (ha : a.getP = none) (hs : s.getP = none) : prsOf (sl.set i s) = prsOf sl := by
  conv => rhs; rw [slot_cut h]
  rw [slot_set (get_lt h), prsOf_append, prsOf_append]
  simp [prsOf, hs, ha]
theorem kds_set_nn {sl : List (Slot α)} {i : Nat} {a s : Slot α} (h : sl[i]? = some a) (ha : a.getK = none) (hs : s.getK = none) : kdsOf (sl.set i s) = kdsOf sl := by
  conv => rhs; rw [slot_cut h]
  rw [slot_set (get_lt h), kdsOf_append, kdsOf_append]
  simp [kdsOf, hs, ha]
theorem getP_isP {s : Slot α} (h : s.isP = false) : s.getP = none := by cases s <;> simp_all
theorem getK_isK {s : Slot α} (h : s.isK = false) : s.getK = none := by cases s <;> simp_all
theorem bits_set_on (f : Slot α → Bool) {sl : List (Slot α)} {i : Nat} (hi : i < sl.length) {s : Slot α} (hs : f s = true) : bitsOf f (sl.set i s) = bitsOf f sl ||| 2 ^ i := by
  apply Nat.eq_of_testBit_eq
  intro j
  rw [Nat.testBit_or, Nat.testBit_two_pow, bitsOf_bit, bitsOf_bit, List.getElem?_set]
  by_cases e : i = j
  · subst e; simp [hi, hs]
  · simp [e]
theorem bits_set_same (f : Slot α → Bool) {sl : List (Slot α)} {i : Nat} {a s : Slot α} (h : sl[i]? = some a) (hs : f s = f a) : bitsOf f (sl.set i s) = bitsOf f sl := by
  apply Nat.eq_of_testBit_eq
  intro j
  rw [bitsOf_bit, bitsOf_bit, List.getElem?_set]
  by_cases e : i = j
  · subst e; rw [if_pos rfl, if_pos (get_lt h), h]; exact hs
  · simp [e]
theorem bits_off (f : Slot α → Bool) {sl : List (Slot α)} {i : Nat} (hi : i < sl.length) {s : Slot α} (hs : f s = false) (j : Nat) : (bitsOf f (sl.set i s)).testBit j = ((bitsOf f sl).testBit j && decide (j ≠ i)) := by
  rw [bitsOf_bit, bitsOf_bit, List.getElem?_set]
  by_cases e : i = j
  · subst e; simp [hi, hs]
  · have e' : ¬ j = i := fun h => e h.symm
    simp [e, e']
theorem bits_zero (f : Slot α → Bool) (hf : f .no = false) : bitsOf f (sl0 α) = 0 := by
  apply Nat.eq_of_testBit_eq
  intro j
  rw [bitsOf_bit, sl0, List.getElem?_replicate]
  by_cases h : j < 32 <;> simp [h, hf]
theorem sl0_get {i : Nat} (h : i < 32) : (sl0 α)[i]? = some .no := by rw [sl0, List.getElem?_replicate, if_pos h]
theorem prs_sl0 : prsOf (sl0 α) = [] := by simp [prsOf, sl0]
theorem kds_sl0 : kdsOf (sl0 α) = [] := by simp [kdsOf, sl0]
end
end Go.QS
