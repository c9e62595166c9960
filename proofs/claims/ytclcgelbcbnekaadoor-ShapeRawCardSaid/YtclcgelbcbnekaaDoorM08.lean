/- Texts joined. -/
import Derived.Test.YtclcgelbcbnekaaDoorM07
set_option linter.unusedVariables false
set_option linter.unusedSimpArgs false
/- Tries as plain trees: what is walked, what is counted; a node in memory is one. No program. -/
namespace Go.QS
open Go.RowKit Go.QS.Nk

inductive WT where
  | mk (b : Bool) (ps : List Pr) (ks : List WT)
namespace WT
def b : WT → Bool | mk x _ _ => x
def ps : WT → List Pr | mk _ x _ => x
def ks : WT → List WT | mk _ _ x => x
@[simp] theorem b_mk (x y z) : (mk x y z).b = x := rfl
@[simp] theorem ps_mk (x y z) : (mk x y z).ps = y := rfl
@[simp] theorem ks_mk (x y z) : (mk x y z).ks = z := rfl
end WT

/-! ### The walk -/
mutual
def walkT : WT → Nat → List (Pr × Nat)
  | .mk _ ps ks, d => ps.map (fun p => (p, d)) ++ walkL ks (d + 1)
def walkL : List WT → Nat → List (Pr × Nat)
  | [], _ => []
  | t :: r, d => walkT t d ++ walkL r d
end
theorem walkT_eq (t : WT) (d : Nat) : walkT t d = t.ps.map (fun p => (p, d)) ++ walkL t.ks (d + 1) := by cases t; rfl
theorem walkL_nil (d : Nat) : walkL [] d = [] := rfl
theorem walkL_cons (t : WT) (r : List WT) (d : Nat) : walkL (t :: r) d = walkT t d ++ walkL r d := rfl
theorem walkL_append (a b : List WT) (d : Nat) : walkL (a ++ b) d = walkL a d ++ walkL b d := by
  induction a with
  | nil => rfl
  | cons t a ih => rw [List.cons_append, walkL_cons, walkL_cons, ih, List.append_assoc]

/-! ### Counts -/
mutual
def cntT : WT → Nat
  | .mk _ _ ks => 1 + cntL ks
def cntL : List WT → Nat
  | [] => 0
  | t :: r => cntT t + cntL r
end
mutual
def bksT : WT → Nat
  | .mk b _ ks => (if b then 1 else 0) + bksL ks
def bksL : List WT → Nat
  | [] => 0
  | t :: r => bksT t + bksL r
end
mutual
def prsT : WT → Nat
  | .mk _ ps ks => ps.length + prsL ks
def prsL : List WT → Nat
  | [] => 0
  | t :: r => prsT t + prsL r
end
mutual
def htT : WT → Nat
  | .mk _ _ ks => 1 + htL ks
def htL : List WT → Nat
  | [] => 0
  | t :: r => max (htT t) (htL r)
end
mutual
def mostT : WT → Nat
  | .mk b ps ks => max (if b then ps.length else 0) (mostL ks)
def mostL : List WT → Nat
  | [] => 0
  | t :: r => max (mostT t) (mostL r)
end
theorem cntT_eq (t : WT) : cntT t = 1 + cntL t.ks := by cases t; rfl
theorem bksT_eq (t : WT) : bksT t = (if t.b then 1 else 0) + bksL t.ks := by cases t; rfl
theorem prsT_eq (t : WT) : prsT t = t.ps.length + prsL t.ks := by cases t; rfl
theorem htT_eq (t : WT) : htT t = 1 + htL t.ks := by cases t; rfl
theorem mostT_eq (t : WT) : mostT t = max (if t.b then t.ps.length else 0) (mostL t.ks) := by cases t; rfl
theorem cntL_cons (t : WT) (r : List WT) : cntL (t :: r) = cntT t + cntL r := rfl
theorem bksL_cons (t : WT) (r : List WT) : bksL (t :: r) = bksT t + bksL r := rfl
theorem prsL_cons (t : WT) (r : List WT) : prsL (t :: r) = prsT t + prsL r := rfl
theorem htL_cons (t : WT) (r : List WT) : htL (t :: r) = max (htT t) (htL r) := rfl
theorem mostL_cons (t : WT) (r : List WT) : mostL (t :: r) = max (mostT t) (mostL r) := rfl
theorem cntL_append (a b : List WT) : cntL (a ++ b) = cntL a + cntL b := by
  induction a with
  | nil => simp [cntL]
  | cons t a ih => rw [List.cons_append, cntL_cons, cntL_cons, ih]; omega

theorem cntL_at : ∀ {l : List WT} {i : Nat} {u : WT}, l[i]? = some u → cntL (l.take i) + cntT u ≤ cntL l ∧ bksL (l.take i) + bksT u ≤ bksL l ∧ prsL (l.take i) + prsT u ≤ prsL l ∧ htT u ≤ htL l
  | [], i, u, h => by simp at h
  | t :: r, 0, u, h => by
    simp at h; subst h
    simp only [List.take_zero, cntL, bksL, prsL, htL]
    exact ⟨by omega, by omega, by omega, by omega⟩
  | t :: r, i + 1, u, h => by
    obtain ⟨h1, h2, h3, h4⟩ := cntL_at (l := r) (i := i) (u := u) (by simpa using h)
    rw [List.take_succ_cons, cntL_cons, bksL_cons, prsL_cons, cntL_cons, bksL_cons, prsL_cons, htL_cons]
    exact ⟨by omega, by omega, by omega, by omega⟩
/-- A world may be named by what is known of it. -/
theorem wp_nameW {P : Program} {c : Code} {Q : Exit → Act → World → Prop} {a : Act} {W : World} (R : World → Prop) (hR : R W) (h : ∀ w', Hid (R w') → c.wp P Q a w') : c.wp P Q a W := h W (Lib.hid hR)

/-- Nodes, buckets, pairs, how deep, the most. -/
structure St5 where
  n : Nat
  k : Nat
  p : Nat
  d : Nat
  m : Nat
def stT (t : WT) (d : Nat) (s : St5) : St5 := ⟨s.n + cntT t, s.k + bksT t, s.p + prsT t, max s.d (d - 1 + htT t), max s.m (mostT t)⟩
def stL (l : List WT) (d : Nat) (s : St5) : St5 := ⟨s.n + cntL l, s.k + bksL l, s.p + prsL l, max s.d (if l = [] then 0 else d - 1 + htL l), max s.m (mostL l)⟩
theorem stL_nil (d : Nat) (s : St5) : stL [] d s = s := by simp [stL, cntL, bksL, prsL, mostL]
theorem htT_pos (t : WT) : 1 ≤ htT t := by rw [htT_eq]; omega
theorem stL_snoc (l : List WT) (t : WT) (d : Nat) (s : St5) : stL (l ++ [t]) d s = stT t d (stL l d s) := by
  have e : ∀ l : List WT, cntL (l ++ [t]) = cntL l + cntT t ∧ bksL (l ++ [t]) = bksL l + bksT t ∧ prsL (l ++ [t]) = prsL l + prsT t ∧ htL (l ++ [t]) = max (htL l) (htT t) ∧ mostL (l ++ [t]) = max (mostL l) (mostT t) := by
    intro l
    induction l with
    | nil => simp [cntL, bksL, prsL, htL, mostL]
    | cons x l ih =>
      obtain ⟨h1, h2, h3, h4, h5⟩ := ih
      rw [List.cons_append, cntL_cons, bksL_cons, prsL_cons, htL_cons, mostL_cons, h1, h2, h3, h4, h5, cntL_cons, bksL_cons, prsL_cons, htL_cons, mostL_cons]
      exact ⟨by omega, by omega, by omega, by omega, by omega⟩
  obtain ⟨h1, h2, h3, h4, h5⟩ := e l
  have ht := htT_pos t
  simp only [stL, stT, h1, h2, h3, h4, h5, List.append_eq_nil_iff, List.cons_ne_self, and_false, if_false, reduceCtorEq]
  congr 1
  · omega
  · omega
  · omega
  · by_cases hl : l = []
    · subst hl; simp [htL]
    · rw [if_neg hl]; omega
  · omega

/-! ### Level by level -/
def lay : Nat → List WT → List WT
  | 0, l => l
  | k + 1, l => lay k (l.flatMap WT.ks)
theorem lay_succ' : ∀ (k : Nat) (l : List WT), lay (k + 1) l = (lay k l).flatMap WT.ks
  | 0, l => rfl
  | k + 1, l => lay_succ' k (l.flatMap WT.ks)
theorem lay_nil : ∀ k, lay k [] = []
  | 0 => rfl
  | k + 1 => lay_nil k
theorem lay_append : ∀ (k : Nat) (a b : List WT), lay k (a ++ b) = lay k a ++ lay k b
  | 0, a, b => rfl
  | k + 1, a, b => by simp only [lay, List.flatMap_append]; exact lay_append k _ _
theorem htL_flat : ∀ l : List WT, htL (l.flatMap WT.ks) = htL l - 1
  | [] => rfl
  | t :: r => by
    have ih := htL_flat r
    have e : ∀ a b : List WT, htL (a ++ b) = max (htL a) (htL b) := by
      intro a b
      induction a with
      | nil => simp [htL]
      | cons x a ih2 => rw [List.cons_append, htL_cons, htL_cons, ih2]; omega
    rw [List.flatMap_cons, e, ih, htL_cons, htT_eq]
    omega
theorem htL_zero {l : List WT} : htL l = 0 ↔ l = [] := by
  cases l with
  | nil => simp [htL]
  | cons t r => have := htT_pos t; rw [htL_cons]; simp; omega
theorem lay_some : ∀ (k : Nat) (l : List WT), lay k l ≠ [] ↔ k < htL l
  | 0, l => by
    have := @htL_zero l
    simp only [lay, ne_eq]
    rw [← this]; omega
  | k + 1, l => by
    rw [show lay (k + 1) l = lay k (l.flatMap WT.ks) from rfl, lay_some k, htL_flat]
    omega
theorem cntL_flat (l : List WT) : cntL l = l.length + cntL (l.flatMap WT.ks) := by
  induction l with
  | nil => simp [cntL]
  | cons t r ih => rw [List.flatMap_cons, cntL_append, cntL_cons, cntT_eq, ih, List.length_cons]; omega
/-- How many on the levels ahead of the k-th. -/
def upto (l : List WT) : Nat → Nat
  | 0 => 0
  | k + 1 => upto l k + (lay k l).length
theorem cntL_upto (l : List WT) : ∀ k, cntL l = upto l k + cntL (lay k l)
  | 0 => by simp [upto, lay]
  | k + 1 => by
    rw [cntL_upto l k, upto, lay_succ', cntL_flat (lay k l)]
    omega
theorem upto_all {l : List WT} {k : Nat} (h : htL l ≤ k) : upto l k = cntL l := by
  have := cntL_upto l k
  have e : lay k l = [] := by
    apply Classical.byContradiction
    intro hne
    have := (lay_some k l).1 hne
    omega
  rw [e] at this
  simp [cntL] at this
  omega

theorem len_cntL : ∀ l : List WT, l.length ≤ cntL l
  | [] => Nat.zero_le _
  | t :: r => by
    have := len_cntL r
    rw [cntL_cons, cntT_eq, List.length_cons]; omega
theorem lay_le (t : WT) (k : Nat) : (lay k [t]).length ≤ cntT t := by
  have h1 := cntL_upto [t] k
  have h2 := len_cntL (lay k [t])
  have h3 : cntL [t] = cntT t := by simp [cntL]
  omega
/-- The levels' lengths. -/
def lens (t : WT) (n : Nat) : List Value := (List.range n).map fun j => .int .i64 (((lay j [t]).length : Nat) : Int)
theorem lens_length (t : WT) (n : Nat) : (lens t n).length = n := by simp [lens]
theorem lens_succ (t : WT) (n : Nat) : lens t (n + 1) = lens t n ++ [.int .i64 (((lay n [t]).length : Nat) : Int)] := by simp [lens, List.range_succ]

/-! ### A node in memory is a tree -/
variable [Zero (Nat → Prop)]
set_option linter.unusedSectionVars false
inductive RepN (T : TypeId) (w : World) : Nat → WT → Prop
  | mk {g : Nat} {t : WT} {d n : Nat} {ow : Option Addr} {pv kv : Value} {kb : List Nat} (h : Nd T w g d n t.ps kb t.b ow pv kv) (hd : d < 4294967296) (hn : n < 4294967296) (h9 : t.ps.length ≤ 1000000) (hl : kb.length = t.ks.length) (hl9 : kb.length ≤ 32)
      (hk : ∀ (j k : Nat) (u : WT), kb[j]? = some k → t.ks[j]? = some u → RepN T w k u) : RepN T w g t
/-- Kids in memory are trees. -/
def RepNs (T : TypeId) (w : World) (ks : List Nat) (ts : List WT) : Prop := ks.length = ts.length ∧ ∀ (j k : Nat) (u : WT), ks[j]? = some k → ts[j]? = some u → RepN T w k u
section
variable {T : TypeId} {w w' : World} {g : Nat} {t : WT} {ks : List Nat} {ts : List WT}
theorem RepN.ext (h : RepN T w g t) (f : Ext w w') : RepN T w' g t := by
  induction h with
  | mk h hd hn h9 hl hl9 _ ih => exact .mk (h.ext f) hd hn h9 hl hl9 ih
theorem RepN.open (h : RepN T w g t) : ∃ d n ow pv kv kb, Nd T w g d n t.ps kb t.b ow pv kv ∧ d < 4294967296 ∧ n < 4294967296 ∧ t.ps.length ≤ 1000000 ∧ kb.length ≤ 32 ∧ RepNs T w kb t.ks := by
  cases h with
  | mk h hd hn h9 hl hl9 hk => exact ⟨_, _, _, _, _, _, h, hd, hn, h9, hl9, hl, hk⟩
theorem RepNs.ext (h : RepNs T w ks ts) (f : Ext w w') : RepNs T w' ks ts := ⟨h.1, fun j k u h1 h2 => (h.2 j k u h1 h2).ext f⟩
theorem RepNs.nil (T : TypeId) (w : World) : RepNs T w [] [] := ⟨rfl, fun j k u h => by simp at h⟩
theorem RepNs.append {ks2 : List Nat} {ts2 : List WT} (h : RepNs T w ks ts) (h2 : RepNs T w ks2 ts2) : RepNs T w (ks ++ ks2) (ts ++ ts2) := by
  refine ⟨by simp [h.1, h2.1], fun j k u a b => ?_⟩
  rcases Nat.lt_or_ge j ks.length with hj | hj
  · rw [List.getElem?_append_left hj] at a
    rw [List.getElem?_append_left (by have := h.1; omega)] at b
    exact h.2 j k u a b
  · rw [List.getElem?_append_right hj] at a
    rw [List.getElem?_append_right (by have := h.1; omega), ← h.1] at b
    exact h2.2 _ k u a b
theorem RepNs.one (h : RepN T w g t) : RepNs T w [g] [t] := by
  refine ⟨rfl, fun j k u a b => ?_⟩
  match j with
  | 0 => simp at a b; subst a b; exact h
  | j + 1 => simp at a
theorem RepNs.drop (h : RepNs T w ks ts) (i : Nat) : RepNs T w (ks.drop i) (ts.drop i) := ⟨by simp [h.1], fun j k u a b => by rw [List.getElem?_drop] at a b; exact h.2 _ k u a b⟩
end

/-! ### The trie of a list -/
def oneP : List Pr → Option Pr | [p] => some p | _ => none
def ones (xs : List (List Pr)) : List Pr := xs.filterMap oneP
def twos (xs : List (List Pr)) : List (List Pr) := xs.filter fun x => decide (2 ≤ x.length)
def parts (H : List UInt8 → Nat) (lv : Nat) (l : List Pr) : List (List Pr) := (List.range 32).map fun c => part H lv c l
def trieOf (H : List UInt8 → Nat) : Nat → List Pr → WT
  | 0, l => .mk true l []
  | f + 1, l => .mk false (ones (parts H (12 - f) l)) ((twos (parts H (12 - f) l)).map (trieOf H f))
theorem parts_length (H : List UInt8 → Nat) (lv : Nat) (l : List Pr) : (parts H lv l).length = 32 := by simp [parts]
theorem parts_get (H : List UInt8 → Nat) (lv : Nat) (l : List Pr) {c : Nat} (h : c < 32) : (parts H lv l)[c]? = some (part H lv c l) := by
  unfold parts
  rw [List.getElem?_map, List.getElem?_range h]; rfl
theorem twos_len (xs : List (List Pr)) : (twos xs).length ≤ xs.length := List.length_filter_le ..
theorem ones_len (xs : List (List Pr)) : (ones xs).length ≤ xs.length := List.length_filterMap_le ..

theorem slots_parts {R : Nat → List Pr → Prop} : ∀ (sl : List (Slot Nat)) (xs : List (List Pr)), sl.length = xs.length → (∀ (i : Nat) s x, sl[i]? = some s → xs[i]? = some x → SlotOk R s x) →
    prsOf sl = ones xs ∧ (kdsOf sl).length = (twos xs).length ∧ ∀ (j k : Nat) x, (kdsOf sl)[j]? = some k → (twos xs)[j]? = some x → 2 ≤ x.length ∧ R k x
  | [], [], _, _ => ⟨rfl, rfl, fun j k x h => by simp [kdsOf] at h⟩
  | [], _ :: _, h, _ => by simp at h
  | _ :: _, [], h, _ => by simp at h
  | s :: sl, x :: xs, h, hs => by
    obtain ⟨i1, i2, i3⟩ := slots_parts sl xs (by simpa using h) (fun i s' x' a b => hs (i + 1) s' x' a b)
    have h0 := hs 0 s x rfl rfl
    cases s with
    | no =>
      have e : x = [] := h0
      subst e
      exact ⟨i1, i2, i3⟩
    | pr p =>
      have e : x = [p] := h0
      subst e
      refine ⟨?_, i2, i3⟩
      rw [prsOf_pr, i1]; rfl
    | kid q =>
      have e : 2 ≤ x.length ∧ R q x := h0
      have e1 : ones (x :: xs) = ones xs := by
        match x, e.1 with
        | a :: b :: r, _ => rfl
      have e2 : twos (x :: xs) = x :: twos xs := by unfold twos; rw [List.filter_cons, if_pos (by simpa using e.1)]
      rw [prsOf_kid, kdsOf_kid, e1, e2]
      refine ⟨i1, by simp [i2], fun j k y a b => ?_⟩
      match j with
      | 0 => simp at a b; subst a b; exact e
      | j + 1 => exact i3 j k y (by simpa using a) (by simpa using b)

theorem TR.rep {T : TypeId} {H : List UInt8 → Nat} {w : World} : ∀ (f : Nat) {g : Nat} {l : List Pr}, TR T H w f g l → l.length ≤ 1000000 → RepN T w g (trieOf H f l)
  | 0, g, l, ⟨ow, pv, kv, nd⟩, h9 => .mk (t := .mk true l []) nd (by decide) (by decide) h9 rfl (by simp) (fun j k u h => by simp at h)
  | f + 1, g, l, ⟨sl, hN, hs⟩, h9 => by
    obtain ⟨h32, ow, pv, kv, nd⟩ := hN
    obtain ⟨e1, e2, e3⟩ := slots_parts (R := TR T H w f) sl (parts H (12 - f) l) (by rw [h32, parts_length]) (fun i s x a b => by
      have hi : i < 32 := by have := (List.getElem?_eq_some_iff.1 a).1; omega
      rw [parts_get H _ l hi] at b
      cases b
      exact hs i s a)
    have hz := bits32 Slot.isP h32
    have hz2 := bits32 Slot.isK h32
    refine .mk (t := .mk false _ _) (by rw [WT.ps_mk, WT.b_mk, ← e1]; exact nd) hz hz2 ?_ ?_ ?_ ?_
    · rw [WT.ps_mk]
      have := ones_len (parts H (12 - f) l)
      rw [parts_length] at this
      omega
    · rw [WT.ks_mk, List.length_map]; exact e2
    · have := kdsOf_len sl; omega
    · intro j k u a b
      rw [WT.ks_mk, List.getElem?_map] at b
      obtain ⟨x, hx, rfl⟩ := Option.map_eq_some_iff.1 b
      obtain ⟨_, hR⟩ := e3 j k x a hx
      refine TR.rep f hR ?_
      obtain ⟨c, hc⟩ := List.mem_iff_getElem?.1 (List.mem_of_getElem? hx)
      have hm : x ∈ parts H (12 - f) l := by
        have := List.mem_of_getElem? hx
        exact (List.mem_filter.1 this).1
      obtain ⟨c', _, rfl⟩ := List.mem_map.1 hm
      exact Nat.le_trans part_length h9
end Go.QS
/- The trie of a list: how many nodes, pairs, levels; its walk has just the list's pairs. No program. -/
namespace Go.QS
open Go.RowKit Go.QS.Nk
variable [Zero (Nat → Prop)]
set_option linter.unusedSectionVars false

theorem ones_e (xs : List (List Pr)) : ones ([] :: xs) = ones xs ∧ twos ([] :: xs) = twos xs := ⟨rfl, rfl⟩
theorem ones_p (p : Pr) (xs : List (List Pr)) : ones ([p] :: xs) = p :: ones xs ∧ twos ([p] :: xs) = twos xs := ⟨rfl, rfl⟩
theorem ones_t (a b : Pr) (r : List Pr) (xs : List (List Pr)) : ones ((a :: b :: r) :: xs) = ones xs ∧ twos ((a :: b :: r) :: xs) = (a :: b :: r) :: twos xs := ⟨rfl, by simp [twos]⟩
theorem ones_sum : ∀ xs : List (List Pr), (ones xs).length + sumL (twos xs) = sumL xs
  | [] => rfl
  | x :: xs => by
    have ih := ones_sum xs
    match x with
    | [] => rw [(ones_e xs).1, (ones_e xs).2, ih]; simp [sumL]
    | [p] => rw [(ones_p p xs).1, (ones_p p xs).2]; simp only [sumL, List.length_cons, List.length_nil]; omega
    | a :: b :: r => rw [(ones_t a b r xs).1, (ones_t a b r xs).2]; simp only [sumL, List.length_cons]; omega
theorem parts_upto (H : List UInt8 → Nat) (lv : Nat) (l : List Pr) : ∀ n, sumL ((List.range n).map fun c => part H lv c l) = (l.filter fun p => decide (chk (H p.1) lv < n)).length
  | 0 => by
    have e : (l.filter fun p => decide (chk (H p.1) lv < 0)) = [] := List.filter_eq_nil_iff.2 fun p _ => by simp
    rw [e]; rfl
  | n + 1 => by
    rw [List.range_succ, List.map_append, sumL_append, parts_upto H lv l n, parts_len]
    simp [sumL]
theorem parts_sum_all (H : List UInt8 → Nat) (lv : Nat) (l : List Pr) : sumL (parts H lv l) = l.length := by
  unfold parts
  rw [parts_upto, List.filter_eq_self.2]
  intro p _
  exact decide_eq_true (chk_lt _ _)
theorem twos_two {xs : List (List Pr)} {x : List Pr} (h : x ∈ twos xs) : 2 ≤ x.length ∧ x ∈ xs := by
  have := List.mem_filter.1 h
  exact ⟨by simpa using this.2, this.1⟩
theorem sumL_two : ∀ {xs : List (List Pr)}, (∀ x ∈ xs, 2 ≤ x.length) → 2 * xs.length ≤ sumL xs
  | [], _ => Nat.zero_le _
  | x :: xs, h => by
    have ih := sumL_two (xs := xs) fun y hy => h y (List.mem_cons_of_mem _ hy)
    have := h x (List.mem_cons_self ..)
    simp only [sumL, List.length_cons]; omega
theorem part_le {H : List UInt8 → Nat} {lv : Nat} {l x : List Pr} (h : x ∈ parts H lv l) : x.length ≤ l.length := by
  obtain ⟨c, _, rfl⟩ := List.mem_map.1 h
  exact part_length

theorem prsL_trie (H : List UInt8 → Nat) (f : Nat) (ih : ∀ l, prsT (trieOf H f l) = l.length) : ∀ xs : List (List Pr), prsL (xs.map (trieOf H f)) = sumL xs
  | [] => rfl
  | x :: xs => by rw [List.map_cons, prsL_cons, ih, prsL_trie H f ih xs]; rfl
theorem prs_trie (H : List UInt8 → Nat) : ∀ (f : Nat) (l : List Pr), prsT (trieOf H f l) = l.length
  | 0, l => by rw [prsT_eq]; simp [trieOf, prsL]
  | f + 1, l => by
    rw [prsT_eq]
    simp only [trieOf, WT.ps_mk, WT.ks_mk]
    rw [prsL_trie H f (prs_trie H f), ones_sum, parts_sum_all]
theorem cntL_trie (H : List UInt8 → Nat) (f : Nat) (ih : ∀ l, cntT (trieOf H f l) ≤ 1 + f * l.length) : ∀ xs : List (List Pr), cntL (xs.map (trieOf H f)) ≤ xs.length + f * sumL xs
  | [] => by simp [cntL]
  | x :: xs => by
    have h1 := ih x
    have h2 := cntL_trie H f ih xs
    rw [List.map_cons, cntL_cons]
    simp only [sumL, List.length_cons, Nat.mul_add]; omega
theorem cnt_trie (H : List UInt8 → Nat) : ∀ (f : Nat) (l : List Pr), cntT (trieOf H f l) ≤ 1 + f * l.length
  | 0, l => by rw [cntT_eq]; simp [trieOf, cntL]
  | f + 1, l => by
    rw [cntT_eq]
    simp only [trieOf, WT.ks_mk]
    have h1 := cntL_trie H f (cnt_trie H f) (twos (parts H (12 - f) l))
    have h2 := ones_sum (parts H (12 - f) l)
    rw [parts_sum_all] at h2
    have h3 := sumL_two (xs := twos (parts H (12 - f) l)) fun x hx => (twos_two hx).1
    have h4 : f * sumL (twos (parts H (12 - f) l)) ≤ f * l.length := Nat.mul_le_mul_left _ (by omega)
    rw [Nat.add_mul]; omega
theorem htL_trie (H : List UInt8 → Nat) (f : Nat) (ih : ∀ l, htT (trieOf H f l) ≤ f + 1) : ∀ xs : List (List Pr), htL (xs.map (trieOf H f)) ≤ f + 1
  | [] => by simp [htL]
  | x :: xs => by rw [List.map_cons, htL_cons]; exact Nat.max_le.2 ⟨ih x, htL_trie H f ih xs⟩
theorem ht_trie (H : List UInt8 → Nat) : ∀ (f : Nat) (l : List Pr), htT (trieOf H f l) ≤ f + 1
  | 0, l => by rw [htT_eq]; simp [trieOf, htL]
  | f + 1, l => by
    rw [htT_eq]
    simp only [trieOf, WT.ks_mk]
    have := htL_trie H f (ht_trie H f) (twos (parts H (12 - f) l))
    omega
/-- The buckets are the nodes of the last level. -/
theorem bks_trie (H : List UInt8 → Nat) : ∀ (f : Nat) (l : List Pr), bksT (trieOf H f l) = (lay f [trieOf H f l]).length
  | 0, l => by rw [bksT_eq]; simp [trieOf, bksL, lay]
  | f + 1, l => by
    rw [bksT_eq]
    have e : lay (f + 1) [trieOf H (f + 1) l] = lay f ((twos (parts H (12 - f) l)).map (trieOf H f)) := by simp [lay, trieOf]
    rw [e]
    simp only [trieOf, WT.ks_mk, WT.b_mk, Bool.false_eq_true, if_false, Nat.zero_add]
    generalize twos (parts H (12 - f) l) = xs
    induction xs with
    | nil => rw [List.map_nil, lay_nil]; rfl
    | cons x xs ih =>
      rw [List.map_cons, bksL_cons, bks_trie H f x, ih, show trieOf H f x :: xs.map (trieOf H f) = [trieOf H f x] ++ xs.map (trieOf H f) from rfl, lay_append, List.length_append]
theorem most_trie (H : List UInt8 → Nat) : ∀ (f : Nat) (l : List Pr), 2 ≤ l.length ∨ 0 < f → mostT (trieOf H f l) ≠ 1
  | 0, l, h => by
    rw [mostT_eq]
    simp only [trieOf, WT.b_mk, WT.ps_mk, WT.ks_mk, if_true, mostL]
    omega
  | f + 1, l, _ => by
    rw [mostT_eq]
    simp only [trieOf, WT.b_mk, WT.ks_mk, Bool.false_eq_true, if_false]
    have key : ∀ xs : List (List Pr), (∀ x ∈ xs, 2 ≤ x.length) → mostL (xs.map (trieOf H f)) ≠ 1 := by
      intro xs
      induction xs with
      | nil => intro _; simp [mostL]
      | cons x xs ih =>
        intro hx
        have h1 := most_trie H f x (.inl (hx x (List.mem_cons_self ..)))
        have h2 := ih fun y hy => hx y (List.mem_cons_of_mem _ hy)
        rw [List.map_cons, mostL_cons]
        omega
    have := key _ fun x hx => (twos_two (xs := parts H (12 - f) l) hx).1
    omega

/-! ### Its walk has just the list's pairs -/
theorem ones_perm : ∀ xs : List (List Pr), (ones xs ++ (twos xs).flatten).Perm xs.flatten
  | [] => List.Perm.refl _
  | x :: xs => by
    have ih := ones_perm xs
    match x with
    | [] => rw [(ones_e xs).1, (ones_e xs).2]; simpa using ih
    | [p] => rw [(ones_p p xs).1, (ones_p p xs).2]; simpa using ih
    | a :: b :: r =>
      have e1 : ones ((a :: b :: r) :: xs) = ones xs := rfl
      have e2 : twos ((a :: b :: r) :: xs) = (a :: b :: r) :: twos xs := by simp [twos]
      rw [e1, e2, List.flatten_cons, List.flatten_cons]
      have h1 : (ones xs ++ ((a :: b :: r) ++ (twos xs).flatten)).Perm ((a :: b :: r) ++ (ones xs ++ (twos xs).flatten)) := by
        rw [← List.append_assoc, ← List.append_assoc]
        exact List.Perm.append_right _ List.perm_append_comm
      exact h1.trans (List.Perm.append_left _ ih)
theorem parts_perm_upto (H : List UInt8 → Nat) (lv : Nat) (l : List Pr) : ∀ n, ((List.range n).map fun c => part H lv c l).flatten.Perm (l.filter fun p => decide (chk (H p.1) lv < n))
  | 0 => by
    have e : (l.filter fun p => decide (chk (H p.1) lv < 0)) = [] := List.filter_eq_nil_iff.2 fun p _ => by simp
    rw [e]; exact List.Perm.refl _
  | n + 1 => by
    rw [List.range_succ, List.map_append, List.flatten_append]
    have ih := parts_perm_upto H lv l n
    refine (List.Perm.append_right _ ih).trans ?_
    simp only [List.map_cons, List.map_nil, List.flatten_cons, List.flatten_nil, List.append_nil, part]
    clear ih
    induction l with
    | nil => exact List.Perm.refl _
    | cons p l ih =>
      rcases Nat.lt_trichotomy (chk (H p.1) lv) n with h | h | h
      · have h1 : chk (H p.1) lv < n + 1 := by omega
        have h2 : ¬ chk (H p.1) lv = n := by omega
        simpa [List.filter_cons, h, h1, h2] using ih
      · have h1 : chk (H p.1) lv < n + 1 := by omega
        have h2 : ¬ chk (H p.1) lv < n := by omega
        simp only [List.filter_cons, h1, h2, h, beq_self_eq_true, decide_true, decide_false, if_true, Bool.false_eq_true, if_false, Nat.lt_irrefl, Nat.lt_succ_self]
        exact List.perm_middle.trans (List.Perm.cons _ (by simpa using ih))
      · have h1 : ¬ chk (H p.1) lv < n + 1 := by omega
        have h2 : ¬ chk (H p.1) lv < n := by omega
        have h3 : ¬ chk (H p.1) lv = n := by omega
        simpa [List.filter_cons, h1, h2, h3] using ih
theorem parts_perm (H : List UInt8 → Nat) (lv : Nat) (l : List Pr) : (parts H lv l).flatten.Perm l := by
  unfold parts
  refine (parts_perm_upto H lv l 32).trans (List.Perm.of_eq ?_)
  rw [List.filter_eq_self]
  intro p _
  exact decide_eq_true (chk_lt _ _)
theorem walk_perm (H : List UInt8 → Nat) : ∀ (f : Nat) (l : List Pr) (d : Nat), ((walkT (trieOf H f l) d).map Prod.fst).Perm l
  | 0, l, d => by
    rw [walkT_eq]
    simp [trieOf, walkL, List.map_map, Function.comp_def]
  | f + 1, l, d => by
    rw [walkT_eq]
    simp only [trieOf, WT.ps_mk, WT.ks_mk, List.map_append, List.map_map, Function.comp_def, List.map_id']
    have key : ∀ xs : List (List Pr), ((walkL (xs.map (trieOf H f)) (d + 1)).map Prod.fst).Perm xs.flatten := by
      intro xs
      induction xs with
      | nil => exact List.Perm.refl _
      | cons x xs ih =>
        rw [List.map_cons, walkL_cons, List.map_append, List.flatten_cons]
        exact List.Perm.append (walk_perm H f x (d + 1)) ih
    refine (List.Perm.append_left _ (key _)).trans ((ones_perm _).trans (parts_perm H _ l))
theorem walk_len (H : List UInt8 → Nat) (f : Nat) (l : List Pr) (d : Nat) : (walkT (trieOf H f l) d).length = l.length := by
  have := (walk_perm H f l d).length_eq
  simpa using this
end Go.QS
/- A trie's look: plain; each trie in memory looks so. -/
namespace Go.QS
open Go.RowKit Go.QS.Nk
variable [Zero (Nat → Prop)]
set_option linter.unusedSectionVars false
def bitsL (p : List Pr → Bool) : List (List Pr) → Nat
  | [] => 0
  | x :: r => (if p x then 1 else 0) + 2 * bitsL p r
def isOne (x : List Pr) : Bool := x.length == 1
def isTwo (x : List Pr) : Bool := decide (2 ≤ x.length)
theorem bits_parts {R : Nat → List Pr → Prop} : ∀ (sl : List (Slot Nat)) (xs : List (List Pr)), sl.length = xs.length → (∀ (i : Nat) s x, sl[i]? = some s → xs[i]? = some x → SlotOk R s x) →
    dataOf sl = bitsL isOne xs ∧ nodesOf sl = bitsL isTwo xs
  | [], [], _, _ => ⟨rfl, rfl⟩
  | [], _ :: _, h, _ => by simp at h
  | _ :: _, [], h, _ => by simp at h
  | s :: sl, x :: xs, h, hs => by
    obtain ⟨i1, i2⟩ := bits_parts sl xs (by simpa using h) (fun i s' x' a b => hs (i + 1) s' x' a b)
    have h0 := hs 0 s x rfl rfl
    simp only [dataOf, nodesOf] at i1 i2 ⊢
    cases s with
    | no =>
      have e : x = [] := h0
      subst e
      simp [bitsOf, bitsL, isOne, isTwo, Slot.isP, Slot.isK, i1, i2]
    | pr p =>
      have e : x = [p] := h0
      subst e
      simp [bitsOf, bitsL, isOne, isTwo, Slot.isP, Slot.isK, i1, i2]
    | kid q =>
      have e : 2 ≤ x.length ∧ R q x := h0
      have e1 : ¬ x.length = 1 := by omega
      simp [bitsOf, bitsL, isOne, isTwo, Slot.isP, Slot.isK, i1, i2, e.1, e1]
end Go.QS
namespace Go.Proofs.YtclcgelbcbnekaaDoor
open Go.RowKit Go.QS Go.QS.Nk
set_option linter.unusedVariables false
variable [Zero (Nat → Prop)]
set_option linter.unusedSectionVars false

/-- How a trie of these pairs looks. -/
def shp (H : List UInt8 → Nat) : Nat → List Pr → List UInt8
  | 0, l => buckB l
  | f + 1, l => headB (bitsL isOne (parts H (12 - f) l)) (bitsL isTwo (parts H (12 - f) l)) (ones (parts H (12 - f) l)) ++ ((twos (parts H (12 - f) l)).map (shp H f)).flatten
theorem TR.sh {H : List UInt8 → Nat} {w : World} : ∀ (f : Nat) {g : Nat} {l : List Pr}, TR ND H w f g l → l.length ≤ 100000 → ShAt w f g (shp H f l)
  | 0, g, l, ⟨ow, pv, kv, nd⟩, h9 => .inl ⟨l, ow, pv, kv, nd, h9, rfl⟩
  | f + 1, g, l, ⟨sl, hN, hs⟩, h9 => by
    obtain ⟨h32, ow, pv, kv, nd⟩ := hN
    have hsp : ∀ (i : Nat) s x, sl[i]? = some s → (parts H (12 - f) l)[i]? = some x → SlotOk (TR ND H w f) s x := fun i s x a b => by
      have hi : i < 32 := by have := (List.getElem?_eq_some_iff.1 a).1; omega
      rw [parts_get H _ l hi] at b
      cases b
      exact hs i s a
    obtain ⟨e1, e2, e3⟩ := slots_parts (R := TR ND H w f) sl (parts H (12 - f) l) (by rw [h32, parts_length]) hsp
    obtain ⟨b1, b2⟩ := bits_parts (R := TR ND H w f) sl (parts H (12 - f) l) (by rw [h32, parts_length]) hsp
    have hz := bits32 Slot.isP h32
    have hz2 := bits32 Slot.isK h32
    have hp9 : (prsOf sl).length ≤ 100000 := by
      rw [e1]
      have := ones_len (parts H (12 - f) l)
      rw [parts_length] at this
      omega
    refine .inr ⟨dataOf sl, nodesOf sl, prsOf sl, kdsOf sl, ow, pv, kv, (twos (parts H (12 - f) l)).map (shp H f), nd, hz, hz2, hp9, by have := kdsOf_len sl; omega, by rw [List.length_map, e2], fun i k b hk hb => ?_, by rw [b1, b2, e1]; rfl⟩
    rw [List.getElem?_map] at hb
    cases hx : (twos (parts H (12 - f) l))[i]? with
    | none => rw [hx] at hb; cases hb
    | some x =>
      rw [hx] at hb
      simp at hb
      subst hb
      obtain ⟨_, hR⟩ := e3 i k x hk hx
      exact TR.sh f hR (by have := part_le (twos_two (List.mem_of_getElem? hx)).2; omega)
end Go.Proofs.YtclcgelbcbnekaaDoor
/- A trie's look tells its pairs: plain. -/
namespace Go.Proofs.YtclcgelbcbnekaaDoor
open Go.RowKit Go.QS Go.QS.Nk
set_option linter.unusedVariables false
variable [Zero (Nat → Prop)]
set_option linter.unusedSectionVars false

/-- Pairs that are not too long. -/
def PSm (l : List Pr) : Prop := ∀ p ∈ l, p.1.length < 65536 ∧ p.2.length < 65536
theorem prsB_cut : ∀ {a b : List Pr} {r r' : List UInt8}, a.length = b.length → PSm a → PSm b → prsB a ++ r = prsB b ++ r' → a = b ∧ r = r'
  | [], [], r, r', _, _, _, h => ⟨rfl, by simpa [prsB] using h⟩
  | [], _ :: _, _, _, h, _, _, _ => by simp at h
  | _ :: _, [], _, _, h, _, _, _ => by simp at h
  | p :: a, q :: b, r, r', hl, ha, hb, h => by
    have e1 : prsB (p :: a) ++ r = textB p.1 ++ (textB p.2 ++ (prsB a ++ r)) := by simp [prsB, prB]
    have e2 : prsB (q :: b) ++ r' = textB q.1 ++ (textB q.2 ++ (prsB b ++ r')) := by simp [prsB, prB]
    rw [e1, e2] at h
    obtain ⟨p1, p2⟩ := ha p (List.mem_cons_self ..)
    obtain ⟨q1, q2⟩ := hb q (List.mem_cons_self ..)
    obtain ⟨h1, h2⟩ := text_cut p1 q1 h
    obtain ⟨h3, h4⟩ := text_cut p2 q2 h2
    obtain ⟨h5, h6⟩ := prsB_cut (by simpa using hl) (fun x hx => ha x (List.mem_cons_of_mem _ hx)) (fun x hx => hb x (List.mem_cons_of_mem _ hx)) h4
    exact ⟨by rw [h5, Prod.ext h1 h3], h6⟩
theorem layB4_inj {a b : Nat} (ha : a < 4294967296) (hb : b < 4294967296) (h : layB a 4 = layB b 4) : a = b := by
  simp [layB, List.range_succ, Nat.shiftRight_eq_div_pow] at h
  obtain ⟨h0, h1, h2, h3⟩ := h
  have := u8_mod h0
  have := u8_mod h1
  have := u8_mod h2
  have := u8_mod h3
  omega
theorem bitsL_lt (p : List Pr → Bool) : ∀ xs : List (List Pr), bitsL p xs < 2 ^ xs.length
  | [] => by simp [bitsL]
  | x :: xs => by
    have := bitsL_lt p xs
    simp only [bitsL, List.length_cons, Nat.pow_succ]
    split <;> omega
theorem bitsL_inj (p : List Pr → Bool) : ∀ {xs ys : List (List Pr)}, xs.length = ys.length → bitsL p xs = bitsL p ys → xs.map p = ys.map p
  | [], [], _, _ => rfl
  | [], _ :: _, h, _ => by simp at h
  | _ :: _, [], h, _ => by simp at h
  | x :: xs, y :: ys, hl, h => by
    simp only [bitsL] at h
    have h1 : p x = p y ∧ bitsL p xs = bitsL p ys := by
      cases hx : p x <;> cases hy : p y <;> simp [hx, hy] at h <;> first | exact ⟨rfl, by omega⟩ | (exfalso; omega)
    rw [List.map_cons, List.map_cons, h1.1, bitsL_inj p (by simpa using hl) h1.2]
/-- Of one class each, the pairs alone and the rest alike: alike. -/
theorem parts_same : ∀ {xs ys : List (List Pr)}, xs.map isOne = ys.map isOne → xs.map isTwo = ys.map isTwo → ones xs = ones ys → twos xs = twos ys → xs = ys
  | [], [], _, _, _, _ => rfl
  | [], _ :: _, h, _, _, _ => by simp at h
  | _ :: _, [], h, _, _, _ => by simp at h
  | x :: xs, y :: ys, h1, h2, h3, h4 => by
    simp only [List.map_cons, List.cons.injEq] at h1 h2
    match x, y, h1, h2, h3, h4 with
    | [], [], h1, h2, h3, h4 => rw [parts_same h1.2 h2.2 h3 h4]
    | [p], [q], h1, h2, h3, h4 =>
      have e : p :: ones xs = q :: ones ys := h3
      obtain ⟨e1, e2⟩ := List.cons.inj e
      rw [e1, parts_same h1.2 h2.2 e2 h4]
    | a :: b :: r, c :: d :: s, h1, h2, h3, h4 =>
      rw [(ones_t a b r xs).2, (ones_t c d s ys).2] at h4
      rw [(ones_t a b r xs).1, (ones_t c d s ys).1] at h3
      obtain ⟨e1, e2⟩ := List.cons.inj h4
      rw [e1, parts_same h1.2 h2.2 h3 e2]
    | [], [q], h1, _, _, _ => simp [isOne] at h1
    | [p], [], h1, _, _, _ => simp [isOne] at h1
    | [], c :: d :: s, _, h2, _, _ => simp [isTwo] at h2
    | a :: b :: r, [], _, h2, _, _ => simp [isTwo] at h2
    | [p], c :: d :: s, h1, _, _, _ => simp [isOne] at h1
    | a :: b :: r, [q], h1, _, _, _ => simp [isOne] at h1
theorem ones_count : ∀ xs : List (List Pr), (ones xs).length = ((xs.map isOne).filter id).length
  | [] => rfl
  | [] :: xs => by rw [(ones_e xs).1]; simpa [isOne] using ones_count xs
  | [p] :: xs => by rw [(ones_p p xs).1]; simpa [isOne] using ones_count xs
  | (a :: b :: r) :: xs => by rw [(ones_t a b r xs).1]; simpa [isOne] using ones_count xs
theorem twos_count : ∀ xs : List (List Pr), (twos xs).length = ((xs.map isTwo).filter id).length
  | [] => rfl
  | [] :: xs => by rw [(ones_e xs).2]; simpa [isTwo] using twos_count xs
  | [p] :: xs => by rw [(ones_p p xs).2]; simpa [isTwo] using twos_count xs
  | (a :: b :: r) :: xs => by rw [(ones_t a b r xs).2]; simpa [isTwo] using twos_count xs
/-- Kids, one behind the other. -/
theorem kids_cut {g : List Pr → List UInt8} {R : List Pr → Prop} (hg : ∀ a b r r', R a → R b → g a ++ r = g b ++ r' → a = b ∧ r = r') : ∀ {xs ys : List (List Pr)} {r r' : List UInt8}, xs.length = ys.length → (∀ x ∈ xs, R x) → (∀ y ∈ ys, R y) → (xs.map g).flatten ++ r = (ys.map g).flatten ++ r' → xs = ys ∧ r = r'
  | [], [], r, r', _, _, _, h => ⟨rfl, by simpa using h⟩
  | [], _ :: _, _, _, h, _, _, _ => by simp at h
  | _ :: _, [], _, _, h, _, _, _ => by simp at h
  | x :: xs, y :: ys, r, r', hl, hx, hy, h => by
    simp only [List.map_cons, List.flatten_cons, List.append_assoc] at h
    obtain ⟨h1, h2⟩ := hg x y _ _ (hx x (List.mem_cons_self ..)) (hy y (List.mem_cons_self ..)) h
    obtain ⟨h3, h4⟩ := kids_cut hg (by simpa using hl) (fun z hz => hx z (List.mem_cons_of_mem _ hz)) (fun z hz => hy z (List.mem_cons_of_mem _ hz)) h2
    exact ⟨by rw [h1, h3], h4⟩
def ShOk (l : List Pr) : Prop := Rise l ∧ PSm l ∧ l.length < 65536
theorem ShOk.part {H : List UInt8 → Nat} {lv : Nat} {l x : List Pr} (h : ShOk l) (hx : x ∈ parts H lv l) : ShOk x := by
  obtain ⟨c, _, rfl⟩ := List.mem_map.1 hx
  exact ⟨part_rise h.1, fun p hp => h.2.1 p ((List.mem_filter.1 hp).1), Nat.lt_of_le_of_lt part_length h.2.2⟩
theorem rise_of_perm {a b : List Pr} (ha : Rise a) (hb : Rise b) (h : a.Perm b) : a = b := rise_ext _ _ ha hb fun x => h.mem_iff
theorem shp_cut (H : List UInt8 → Nat) : ∀ (f : Nat) (a b : List Pr) (r r' : List UInt8), ShOk a → ShOk b → shp H f a ++ r = shp H f b ++ r' → a = b ∧ r = r'
  | 0, a, b, r, r', ha, hb, h => by
    simp only [shp, buckB, List.cons_append, List.append_assoc, List.cons.injEq, true_and] at h
    obtain ⟨h1, h2⟩ := List.append_inj h (by rw [layB_len, layB_len])
    rw [layB_two, layB_two] at h1
    exact prsB_cut (twoB_inj ha.2.2 hb.2.2 h1) ha.2.1 hb.2.1 h2
  | f + 1, a, b, r, r', ha, hb, h => by
    simp only [shp, headB, List.cons_append, List.append_assoc, List.cons.injEq, true_and] at h
    obtain ⟨h1, h2⟩ := List.append_inj h (by rw [layB_len, layB_len])
    obtain ⟨h3, h4⟩ := List.append_inj h2 (by rw [layB_len, layB_len])
    have lt : ∀ (p : List Pr → Bool) (l : List Pr), bitsL p (parts H (12 - f) l) < 4294967296 := fun p l => by
      have := bitsL_lt p (parts H (12 - f) l)
      rw [parts_length] at this
      exact this
    have m1 := bitsL_inj isOne (by rw [parts_length, parts_length]) (layB4_inj (lt _ _) (lt _ _) h1)
    have m2 := bitsL_inj isTwo (by rw [parts_length, parts_length]) (layB4_inj (lt _ _) (lt _ _) h3)
    have sub1 : ∀ {l : List Pr}, ShOk l → PSm (ones (parts H (12 - f) l)) := fun {l} hl p hp => by
      have h1 : p ∈ (parts H (12 - f) l).flatten := (ones_perm _).mem_iff.1 (List.mem_append_left _ hp)
      exact hl.2.1 p ((parts_perm H (12 - f) l).mem_iff.1 h1)
    obtain ⟨o1, h5⟩ := prsB_cut (by rw [ones_count, ones_count, m1]) (sub1 ha) (sub1 hb) h4
    obtain ⟨o2, h6⟩ := kids_cut (R := ShOk) (fun x y s s' hx hy hs => shp_cut H f x y s s' hx hy hs) (by rw [twos_count, twos_count, m2]) (fun x hx => ha.part (twos_two hx).2) (fun y hy => hb.part (twos_two hy).2) h5
    have hp := parts_same m1 m2 o1 o2
    refine ⟨rise_of_perm ha.1 hb.1 ?_, h6⟩
    have p1 := parts_perm H (12 - f) a
    have p2 := parts_perm H (12 - f) b
    rw [hp] at p1
    exact p1.symm.trans p2
theorem shp_inj (H : List UInt8 → Nat) {a b : List Pr} (ha : ShOk a) (hb : ShOk b) : shp H 13 a = shp H 13 b ↔ a = b :=
  ⟨fun h => (shp_cut H 13 a b [] [] ha hb (by rw [h])).1, fun h => by rw [h]⟩
end Go.Proofs.YtclcgelbcbnekaaDoor
