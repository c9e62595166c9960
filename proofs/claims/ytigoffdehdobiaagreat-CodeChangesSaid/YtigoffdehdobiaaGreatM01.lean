/- Texts joined. -/
import Derived.Test.YtigoffdehdobiaaGreatM00
set_option linter.unusedVariables false
set_option linter.unusedSimpArgs false
/- Numbers as bytes: plain. No program. -/
namespace Go.QS

/-- A number's bytes. -/
def putNum (n : Nat) : List UInt8 := if h : n < 128 then [UInt8.ofNat n] else UInt8.ofNat (n % 128 + 128) :: putNum (n / 128)
termination_by n
decreasing_by omega
theorem putNum_lt {n : Nat} (h : n < 128) : putNum n = [UInt8.ofNat n] := by rw [putNum]; simp [h]
theorem putNum_ge {n : Nat} (h : ¬ n < 128) : putNum n = UInt8.ofNat (n % 128 + 128) :: putNum (n / 128) := by rw [putNum]; simp [h]

/-- A number that is read: from the byte number i on, of what has come. -/
def numA : Nat → Nat → List UInt8 → Option (Nat × List UInt8)
  | _, _, [] => none
  | i, acc, b :: r =>
    if (i = 9 ∧ 1 < b.toNat) ∨ (b.toNat = 0 ∧ 0 < i) then none
    else if b.toNat < 128 then some (acc + b.toNat % 128 * 128 ^ i, r)
    else numA (i + 1) (acc + b.toNat % 128 * 128 ^ i) r

theorem ofNat_toNat {n : Nat} (h : n < 256) : (UInt8.ofNat n).toNat = n := by show n % 256 = n; omega

/-- What is written is read again. -/
theorem numA_put : ∀ (k n i acc : Nat) (r : List UInt8), i + k = 9 → n < 2 * 128 ^ k → (0 < i → 0 < n) → numA i acc (putNum n ++ r) = some (acc + n * 128 ^ i, r)
  | 0, n, i, acc, r, hk, hn, h0 => by
    obtain rfl : i = 9 := by omega
    have hn1 : n < 2 := by simpa using hn
    have := h0 (by omega)
    obtain rfl : n = 1 := by omega
    rw [putNum_lt (by omega)]
    simp [numA]
  | k + 1, n, i, acc, r, hk, hn, h0 => by
    by_cases h : n < 128
    · rw [putNum_lt h]
      have e : (UInt8.ofNat n).toNat = n := ofNat_toNat (by omega)
      simp only [List.cons_append, List.nil_append, numA, e]
      rw [if_neg (by rintro (⟨h1, _⟩ | ⟨h1, h2⟩) <;> omega), if_pos h, Nat.mod_eq_of_lt h]
    · rw [putNum_ge h]
      have e : (UInt8.ofNat (n % 128 + 128)).toNat = n % 128 + 128 := ofNat_toNat (by omega)
      simp only [List.cons_append, numA, e]
      rw [if_neg (by rintro (⟨h1, _⟩ | ⟨h1, h2⟩) <;> omega), if_neg (by omega)]
      rw [numA_put k (n / 128) (i + 1) _ r (by omega) (by rw [Nat.pow_succ] at hn; omega) (by omega)]
      congr 2
      have e1 : (n % 128 + 128) % 128 = n % 128 := by omega
      rw [e1, Nat.pow_succ, Nat.add_assoc, show n / 128 * (128 ^ i * 128) = n / 128 * 128 * 128 ^ i by rw [Nat.mul_comm (128 ^ i) 128, Nat.mul_assoc], ← Nat.add_mul]
      congr 2
      omega

/-- What is read is written again. -/
theorem numA_get : ∀ (l : List UInt8) (i acc v : Nat) (r : List UInt8), i ≤ 9 → numA i acc l = some (v, r) → ∃ n, v = acc + n * 128 ^ i ∧ l = putNum n ++ r ∧ n < 2 * 128 ^ (9 - i) ∧ (0 < i → 0 < n)
  | [], _, _, _, _, _, h => by simp [numA] at h
  | b :: l, i, acc, v, r, hi, h => by
    have hb := b.toNat_lt
    simp only [numA] at h
    split at h
    · cases h
    · rename_i h1
      split at h
      · rename_i h2
        cases h
        refine ⟨b.toNat, by rw [Nat.mod_eq_of_lt h2], ?_, ?_, fun h3 => ?_⟩
        · rw [putNum_lt h2]; simp
        · by_cases h9 : i = 9
          · subst h9
            have : ¬ 1 < b.toNat := fun e => h1 (.inl ⟨rfl, e⟩)
            simp; omega
          · have : 1 ≤ 9 - i := by omega
            have : 128 ^ 1 ≤ 128 ^ (9 - i) := Nat.pow_le_pow_right (by decide) this
            omega
        · have : ¬ b.toNat = 0 := fun e => h1 (.inr ⟨e, h3⟩)
          omega
      · rename_i h2
        have hi9 : i ≠ 9 := fun e => h1 (.inl ⟨e, by omega⟩)
        obtain ⟨n, e1, e2, e3, e4⟩ := numA_get l (i + 1) _ v r (by omega) h
        have hn := e4 (by omega)
        refine ⟨n * 128 + b.toNat % 128, ?_, ?_, ?_, fun _ => by omega⟩
        · rw [e1, Nat.pow_succ, Nat.add_mul, Nat.mul_assoc n 128, Nat.mul_comm (128 ^ i) 128]; omega
        · rw [putNum_ge (by omega), show (n * 128 + b.toNat % 128) / 128 = n by omega, List.cons_append, ← e2]
          rw [show (n * 128 + b.toNat % 128) % 128 + 128 = b.toNat by omega]
          simp
        · have e : 128 ^ (9 - i) = 128 ^ (9 - (i + 1)) * 128 := by rw [← Nat.pow_succ]; congr 1; omega
          rw [e]
          omega
theorem numA_lt {l : List UInt8} {v : Nat} {r : List UInt8} (h : numA 0 0 l = some (v, r)) : v < 18446744073709551616 := by
  obtain ⟨n, e1, _, e3, _⟩ := numA_get l 0 0 v r (by omega) h
  simp at e1 e3
  omega
theorem numA_iff {l : List UInt8} {v : Nat} {r : List UInt8} : numA 0 0 l = some (v, r) ↔ l = putNum v ++ r ∧ v < 18446744073709551616 := by
  constructor
  · intro h
    obtain ⟨n, e1, e2, e3, _⟩ := numA_get l 0 0 v r (by omega) h
    have e1 : v = n := by simpa using e1
    subst e1
    exact ⟨e2, by simp at e3; omega⟩
  · rintro ⟨rfl, h⟩
    have := numA_put 9 v 0 0 r rfl (by simp; omega) (by omega)
    simpa using this

/-! ### The document's way: how far the bytes go on, then from the last one back -/
/-- How many bytes go on, k at most. -/
def kd : Nat → List UInt8 → Nat
  | k + 1, b :: r => if 127 < b.toNat then kd k r + 1 else 0
  | _, _ => 0
/-- From the last one back. -/
def hv : List UInt8 → Nat
  | [] => 0
  | b :: r => b.toNat % 128 + 128 * hv r
/-- A number whose last byte is number k. -/
def numK (i acc k : Nat) (l : List UInt8) : Option (Nat × List UInt8) :=
  match l[k]? with
  | none => none
  | some b => if (k + i = 9 ∧ 1 < b.toNat) ∨ (b.toNat = 0 ∧ 0 < k + i) then none else some (acc + hv (l.take (k + 1)) * 128 ^ i, l.drop (k + 1))
theorem kd_yes {k : Nat} {b : UInt8} {l : List UInt8} (h : 127 < b.toNat) : kd (k + 1) (b :: l) = kd k l + 1 := by simp only [kd]; rw [if_pos h]
theorem kd_no {k : Nat} {b : UInt8} {l : List UInt8} (h : ¬ 127 < b.toNat) : kd k (b :: l) = 0 := by cases k <;> simp only [kd]; rw [if_neg h]
theorem kd_zero (l : List UInt8) : kd 0 l = 0 := by simp only [kd]
theorem numK_zero (i acc : Nat) (b : UInt8) (l : List UInt8) : numK i acc 0 (b :: l) = if (i = 9 ∧ 1 < b.toNat) ∨ (b.toNat = 0 ∧ 0 < i) then none else some (acc + b.toNat % 128 * 128 ^ i, l) := by
  simp [numK, hv]
theorem numA_kd : ∀ (l : List UInt8) (i acc : Nat), i ≤ 9 → numA i acc l = numK i acc (kd (9 - i) l) l
  | [], i, acc, _ => by simp [numA, numK]
  | b :: l, i, acc, hi => by
    by_cases hb : 127 < b.toNat ∧ i ≠ 9
    · obtain ⟨k, hk⟩ : ∃ k, 9 - i = k + 1 := ⟨9 - i - 1, by omega⟩
      rw [hk, kd_yes hb.1]
      simp only [numA]
      rw [if_neg (by rintro (⟨h1, _⟩ | ⟨h1, _⟩) <;> omega), if_neg (by omega), numA_kd l (i + 1) _ (by omega), show 9 - (i + 1) = k by omega]
      simp only [numK, List.getElem?_cons_succ]
      cases hg : l[kd k l]? with
      | none => rfl
      | some c =>
        simp only [show kd k l + (i + 1) = kd k l + 1 + i by omega]
        split
        · rfl
        · simp only [List.take_succ_cons, List.drop_succ_cons, hv, Option.some.injEq, Prod.mk.injEq, and_true]
          rw [Nat.pow_succ, Nat.add_mul, Nat.mul_comm (128 ^ i) 128, ← Nat.mul_assoc, Nat.mul_comm _ 128]; omega
    · have hz : kd (9 - i) (b :: l) = 0 := by
        by_cases h9 : i = 9
        · subst h9; exact kd_zero _
        · exact kd_no (fun e => hb ⟨e, h9⟩)
      rw [hz, numK_zero]
      simp only [numA]
      by_cases h2 : (i = 9 ∧ 1 < b.toNat) ∨ (b.toNat = 0 ∧ 0 < i)
      · rw [if_pos h2, if_pos h2]
      · rw [if_neg h2, if_neg h2, if_pos]
        by_cases h9 : i = 9
        · have : ¬ 1 < b.toNat := fun e => h2 (.inl ⟨h9, e⟩)
          omega
        · have : ¬ 127 < b.toNat := fun e => hb ⟨e, h9⟩
          omega
end Go.QS
/- Radix trees as plain data, and nodes in memory that are one. No function of the program is named here. -/
namespace Go.QS
open Go.RowKit

inductive RT where
  | node (lab : List UInt8) (val : Option (List UInt8)) (kids : List RT)
namespace RT
def lab : RT → List UInt8 | node l _ _ => l
def val : RT → Option (List UInt8) | node _ v _ => v
def kids : RT → List RT | node _ _ k => k
@[simp] theorem lab_node (l v k) : (node l v k).lab = l := rfl
@[simp] theorem val_node (l v k) : (node l v k).val = v := rfl
@[simp] theorem kids_node (l v k) : (node l v k).kids = k := rfl
/-- A label's first byte. -/
def hd (t : RT) : Nat := (t.lab.headD 0).toNat
end RT
theorem RT.eta (t : RT) : RT.node t.lab t.val t.kids = t := by cases t; rfl

def common : List UInt8 → List UInt8 → Nat
  | a :: x, b :: y => if a = b then common x y + 1 else 0
  | _, _ => 0

/-- The place of the kid that begins with a byte, or where it would be; is it there? -/
def fI (ks : List RT) (c : Nat) : Nat := (ks.takeWhile fun k => decide (k.hd < c)).length
def fH (ks : List RT) (c : Nat) : Bool := ks.any fun k => k.hd == c

/-- A branch, cut. -/
def tsplit (t : RT) (k : Nat) : RT := RT.node (t.lab.take k) none [RT.node (t.lab.drop k) t.val t.kids]

def tput : Nat → RT → List UInt8 → List UInt8 → RT × Bool × Bool
  | _, t, [], v => if t.val = some v then (t, false, false) else (RT.node t.lab (some v) t.kids, t.val.isNone, true)
  | 0, t, _ :: _, _ => (t, false, false)
  | n + 1, t, c :: key, v =>
    if fH t.kids c.toNat then
      match t.kids[fI t.kids c.toNat]? with
      | none => (t, false, false)
      | some kid =>
        let k := common (c :: key) kid.lab
        let r := tput n (if k < kid.lab.length then tsplit kid k else kid) ((c :: key).drop k) v
        if r.2.2 then (RT.node t.lab t.val (t.kids.set (fI t.kids c.toNat) r.1), r.2.1, true) else (t, false, false)
    else (RT.node t.lab t.val (t.kids.take (fI t.kids c.toNat) ++ RT.node (c :: key) (some v) [] :: t.kids.drop (fI t.kids c.toNat)), true, true)

/-! ### Nodes -/
abbrev ptr (g : Nat) : Value := .pointer (some ⟨g, 0, none⟩)
def ptrs (l : List Nat) : List Value := l.map ptr
@[simp] theorem ptrs_length (l : List Nat) : (ptrs l).length = l.length := by simp [ptrs]
@[simp] theorem ptrs_nil : ptrs [] = [] := rfl
theorem ptrs_append (a b : List Nat) : ptrs (a ++ b) = ptrs a ++ ptrs b := by simp [ptrs]
theorem ptrs_one (l : List Nat) : ∀ u ∈ ptrs l, u.oneCell' = true := by
  intro u hu
  obtain ⟨g, _, rfl⟩ := List.mem_map.1 hu
  rfl
theorem ptrs_get {l : List Nat} {i g : Nat} (h : l[i]? = some g) : (ptrs l)[i]? = some (ptr g) := by simp [ptrs, h]

/-- A node's block. -/
def NodeAt (T : TypeId) (w : World) (g : Nat) (lab : List UInt8) (val : Option (List UInt8)) (kv : Value) (ow : Option Addr) : Prop :=
  w.heap[g]? = some (.cells #[str lab, .bool val.isSome, str (val.getD []), kv, .pointer ow] T (0, 0))

section
variable {T : TypeId} {w w' : World} {g : Nat} {lab : List UInt8} {val : Option (List UInt8)} {kv : Value} {ow : Option Addr}
theorem heap_lt {o : Obj} (h : w.heap[g]? = some o) : g < w.heap.size := (Array.getElem?_eq_some_iff.1 h).1
theorem NodeAt.lt (h : NodeAt T w g lab val kv ow) : g < w.heap.size := heap_lt h
theorem NodeAt.ext (h : NodeAt T w g lab val kv ow) (hb : Ext w w') : NodeAt T w' g lab val kv ow := (hb.block g h.lt).trans h
theorem NodeAt.cells (h : NodeAt T w g lab val kv ow) : w.cell? ⟨g, 0, none⟩ = some (str lab) ∧ w.cell? ⟨g, 1, none⟩ = some (.bool val.isSome) ∧ w.cell? ⟨g, 2, none⟩ = some (str (val.getD [])) ∧ w.cell? ⟨g, 3, none⟩ = some kv ∧ w.cell? ⟨g, 4, none⟩ = some (.pointer ow) := by
  unfold NodeAt at h
  simp [World.cell?, h]
theorem NodeAt.free (h : NodeAt T w g lab val kv ow) (j : Nat) : w.frozen? ⟨g, j, none⟩ = false := by
  unfold NodeAt at h
  simp [World.frozen?, h]
theorem heap_set {cs : Array Value} {f : Nat × Nat} (h : w.heap[g]? = some (.cells cs T f)) (i : Nat) (v : Value) : (w.setCell ⟨g, i, none⟩ v).heap[g]? = some (.cells (cs.setIfInBounds i v) T f) := by
  simp [World.setCell, Array.getElem?_modify, h]
theorem NodeAt.set0 (h : NodeAt T w g lab val kv ow) (l : List UInt8) : NodeAt T (w.setCell ⟨g, 0, none⟩ (str l)) g l val kv ow := heap_set h 0 _
theorem NodeAt.set12 (h : NodeAt T w g lab val kv ow) (_ : Bool) (v : List UInt8) : NodeAt T ((w.setCell ⟨g, 1, none⟩ (.bool true)).setCell ⟨g, 2, none⟩ (str v)) g lab (some v) kv ow := heap_set (heap_set h 1 _) 2 _
theorem NodeAt.set12n (h : NodeAt T w g lab val kv ow) : NodeAt T ((w.setCell ⟨g, 1, none⟩ (.bool false)).setCell ⟨g, 2, none⟩ (str [])) g lab none kv ow := heap_set (heap_set h 1 _) 2 _
theorem NodeAt.set3 (h : NodeAt T w g lab val kv ow) (kv' : Value) : NodeAt T (w.setCell ⟨g, 3, none⟩ kv') g lab val kv' ow := heap_set h 3 _
theorem NodeAt.set4 (h : NodeAt T w g lab val kv ow) (ow' : Option Addr) : NodeAt T (w.setCell ⟨g, 4, none⟩ (.pointer ow')) g lab val kv ow' := heap_set h 4 _
theorem NodeAt.new (T : TypeId) (w : World) (hg : g = w.heap.size) : NodeAt T (w.alloc (.cells #[str lab, .bool val.isSome, str (val.getD []), kv, .pointer ow] T)) g lab val kv ow := by
  subst hg; simp only [NodeAt, World.alloc]; simp
end

/-- A node in memory is this tree. -/
inductive Rep (T : TypeId) (w : World) : Nat → RT → Prop
  | mk {g : Nat} {t : RT} {kv : Value} {ow : Option Addr} {ps : List Nat} (h : NodeAt T w g t.lab t.val kv ow) (hs : Sl w 1 kv ps.length (ptrs ps)) (hl : ps.length = t.kids.length)
      (hk : ∀ (j p : Nat) (k : RT), ps[j]? = some p → t.kids[j]? = some k → Rep T w p k) : Rep T w g t

/-- Kids in memory are these trees. -/
def Reps (T : TypeId) (w : World) (ps : List Nat) (ks : List RT) : Prop := ps.length = ks.length ∧ ∀ (j p : Nat) (k : RT), ps[j]? = some p → ks[j]? = some k → Rep T w p k

section
variable {T : TypeId} {w w' : World} {g : Nat} {t : RT} {ps : List Nat} {ks : List RT}
theorem Rep.ext (h : Rep T w g t) (hb : Ext w w') : Rep T w' g t := by
  induction h with
  | mk h hs hl _ ih => exact .mk (h.ext hb) (hs.below hb) hl ih
theorem Rep.open (h : Rep T w g t) : ∃ kv ow ps, NodeAt T w g t.lab t.val kv ow ∧ Sl w 1 kv ps.length (ptrs ps) ∧ Reps T w ps t.kids := by
  cases h with
  | mk h hs hl hk => exact ⟨_, _, _, h, hs, hl, hk⟩
theorem Rep.make {kv : Value} {ow : Option Addr} (h : NodeAt T w g t.lab t.val kv ow) (hs : Sl w 1 kv ps.length (ptrs ps)) (hk : Reps T w ps t.kids) : Rep T w g t := .mk h hs hk.1 hk.2
theorem Rep.lt (h : Rep T w g t) : g < w.heap.size := by
  cases h with
  | mk h => exact h.lt
theorem Reps.ext (h : Reps T w ps ks) (hb : Ext w w') : Reps T w' ps ks := ⟨h.1, fun j p k h1 h2 => (h.2 j p k h1 h2).ext hb⟩
theorem Reps.nil (T : TypeId) (w : World) : Reps T w [] [] := ⟨rfl, fun j p k h => by simp at h⟩
theorem Reps.set (h : Reps T w ps ks) {i p : Nat} {k : RT} (hp : Rep T w p k) : Reps T w (ps.set i p) (ks.set i k) := by
  refine ⟨by simp [h.1], fun j q t h1 h2 => ?_⟩
  rw [List.getElem?_set] at h1 h2
  split at h1
  · split at h2
    · split at h1
      · split at h2
        · cases h1; cases h2; exact hp
        · cases h2
      · cases h1
    · contradiction
  · split at h2
    · contradiction
    · exact h.2 j q t h1 h2
theorem Reps.insert (h : Reps T w ps ks) {i p : Nat} {k : RT} (hi : i ≤ ps.length) (hp : Rep T w p k) : Reps T w (ps.take i ++ p :: ps.drop i) (ks.take i ++ k :: ks.drop i) := by
  have hl := h.1
  refine ⟨by simp [hl], fun j q t h1 h2 => ?_⟩
  rw [List.getElem?_append] at h1 h2
  simp only [List.length_take, Nat.min_eq_left hi, Nat.min_eq_left (hl ▸ hi)] at h1 h2
  split at h1
  · rename_i hj
    rw [if_pos hj] at h2
    rw [List.getElem?_take_of_lt hj] at h1 h2
    exact h.2 j q t h1 h2
  · rename_i hj
    rw [if_neg hj] at h2
    obtain ⟨m, hm⟩ : ∃ m, j - i = m := ⟨_, rfl⟩
    rw [hm] at h1 h2
    cases m with
    | zero => simp at h1 h2; subst h1 h2; exact hp
    | succ m =>
      simp at h1 h2
      exact h.2 _ q t h1 h2
theorem Reps.erase (h : Reps T w ps ks) (i : Nat) : Reps T w (ps.take i ++ ps.drop (i + 1)) (ks.take i ++ ks.drop (i + 1)) := by
  have hl := h.1
  refine ⟨by simp [hl], fun j q t h1 h2 => ?_⟩
  rw [List.getElem?_append] at h1 h2
  simp only [List.length_take, ← hl] at h1 h2
  split at h1
  · rename_i hj
    rw [if_pos hj] at h2
    rw [List.getElem?_take_of_lt (by omega)] at h1 h2
    exact h.2 j q t h1 h2
  · rename_i hj
    rw [if_neg hj] at h2
    simp at h1 h2
    exact h.2 _ q t h1 h2
end
end Go.QS
