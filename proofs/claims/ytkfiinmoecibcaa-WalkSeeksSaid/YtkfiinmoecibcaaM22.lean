/- Texts joined. -/
import Derived.Test.YtkfiinmoecibcaaFg
import Derived.Test.YtkfiinmoecibcaaM15
set_option linter.unusedVariables false
set_option linter.unusedSimpArgs false
/- Contracts: the document's trie of pairs; a hasher as the document has it. -/
namespace Go.Proofs.Ytkfiinmoecibcaa
open Go.RowKit Go.QS Go.QS.Nk
set_option linter.unusedVariables false

theorem of_all (H : List UInt8 → Nat) (hH : ∀ s, H s < 18446744073709551616) : ∀ f, OfOk H f
  | 0 => of_zero H
  | f + 1 => of_succ H hH f (of_all H hH f)
abbrev RH : TypeId := 71
def RhAt (w : World) (g : Nat) (h : Hs) : Prop := w.heap[g]? = some (.cells #[.int .u64 h.k0, .int .u64 h.k1, .int .u64 h.mask] RH (0, 0))
theorem RhAt.ext {w w' : World} {g : Nat} {h : Hs} (H : RhAt w g h) (f : Ext w w') : RhAt w' g h := (f.block g (heap_lt H)).trans H
theorem RhAt.cells {w : World} {g : Nat} {h : Hs} (H : RhAt w g h) : w.cell? ⟨g, 0, none⟩ = some (.int .u64 h.k0) ∧ w.cell? ⟨g, 1, none⟩ = some (.int .u64 h.k1) ∧ w.cell? ⟨g, 2, none⟩ = some (.int .u64 h.mask) := by
  unfold RhAt at H; simp [World.cell?, H]
set_option maxRecDepth 100000 in
set_option maxHeartbeats 2000000 in
theorem rof6_c (h : Hs) (hk : h.Ok) (w : World) (v : Value) (l : List Pr) (hP : PS w v l) (h9 : l.length ≤ 100000) (hq : ∀ q ∈ l, q.1.length ≤ 1000000) :
    Calls Try.prog 28 #[hsV h, v, .int .i64 0] w fun e w' => ∃ q, e = .returned (ptr q) ∧ Ext w w' ∧ DR h.hash w' 13 q l := by
  have HP := Lib.hid hP
  obtain ⟨A, C, rfl, _, hn, hC, _⟩ := hP
  have HQ := Lib.hid hq
  clear hq
  go_enter Try.func28, Try.ntmps28
  repeat' (go_not_at_region 3; (first | go_skip | go_guarded | go_step))
  obtain ⟨g, hg⟩ : ∃ g, g = w.heap.size := ⟨_, rfl⟩
  rw [← hg]
  refine wp_named (fun w' => RhAt w' g h ∧ Ext w w') ⟨by rw [hg]; exact heap_new w _, (Ext.refl w).alloc (Nat.le_refl _) _⟩ ?_
  have HG := Lib.hid hg
  clear hg
  intro wa HW
  go_loopg [7, 12] l.length (fun gk v7 v12 wr => ∃ i : Nat, v12 = .int .i64 i ∧ i ≤ l.length ∧ l.length - i ≤ gk ∧ Hid (Ext wa wr ∧ wr.ownsRow wa.heap.size U64 1 v7 (l.take i).length ((l.take i).map fun p => .int .u64 (h.hash p.1))))
  case atStart => exact ⟨0, rfl, Nat.zero_le _, by omega, Lib.hid ⟨Ext.refl _, World.ownsRow_nil _ _ _ _⟩⟩
  case round =>
    obtain ⟨i, rfl, hi, hgk, HI⟩ := hrel
    rcases Nat.lt_or_ge i l.length with hlt | hge
    · have d1 : decide (i < l.length) = true := by simp [hlt]
      have hi1 : (i : Int) < (l.length : Int) := by omega
      obtain ⟨p, hp⟩ := get_of_lt l hlt
      obtain ⟨A', C', hA, _, _, _, hs⟩ := HP.out.below (HW.out.2.trans HI.out.1)
      cases hA
      obtain ⟨b, o, rfl, h1, h2⟩ := seg_pair hs hp
      have hpl := HQ.out p (List.mem_of_getElem? hp)
      have HE := Lib.hid (And.intro hp hpl)
      clear hs hp
      repeat' (go_not_at_region 5; (first | go_skip | go_guarded | go_step))
      obtain ⟨gp, hgp⟩ : ∃ g, g = wr.heap.size := ⟨_, rfl⟩
      rw [← hgp]
      refine wp_named (fun w' => w'.heap[gp]? = some (.cells #[str p.1, str p.2] RP (0, 0)) ∧ Ext wr w') ⟨by rw [hgp]; exact heap_new wr _, (Ext.refl wr).alloc (Nat.le_refl _) _⟩ ?_
      clear hgp h1 h2
      intro wb HB
      obtain ⟨g0, g1⟩ := key_cells HB.out.1
      obtain ⟨r0, r1, r2⟩ := (HW.out.1.ext (HI.out.1.trans HB.out.2)).cells
      repeat' (first | go_at_call 59 | go_skip | go_guarded | go_step)
      refine (rhash_c wb h p.1 hk (by omega)).mono ?_
      rintro e w1 ⟨rfl, f1⟩
      have H1 : Hid (Ext wa w1 ∧ w1.ownsRow wa.heap.size U64 1 u7 (l.take i).length ((l.take i).map fun p => .int .u64 (h.hash p.1))) := Lib.hid ⟨HI.out.1.trans (HB.out.2.trans f1), row_ext HI.out.2 (HB.out.2.trans f1)⟩
      clear f1 g0 g1 r0 r1 r2
      have hl9 : (l.take i).length ≤ 100000 := by rw [List.length_take]; omega
      go_simp
      repeat' (first | (at_builtin; refine wpList_appE (W := wa) rfl (.tmp 16) (.tmp 21) _ rfl U64 1 8 Try.underlying122 infoU (by decide) _ _ _ rfl (row_ext H1.out.2 (ext_alloc (Ext.refl _) _)) (ext_alloc H1.out.1 _) _ 1 1 [.int .u64 (h.hash p.1)] rfl rfl (Seg.new _ [_] _ (by simp)) (by intro u hu; simp at hu; subst hu; rfl) (by unfold maxLen; omega) (by omega) ?_; intro v5 w5 hown5 hb5) | go_skip | go_guarded | go_step)
      have HX : Hid (Ext wa w5 ∧ w5.ownsRow wa.heap.size U64 1 v5 (l.take (i + 1)).length ((l.take (i + 1)).map fun p => .int .u64 (h.hash p.1))) := Lib.hid ⟨hb5, by rw [take_snoc HE.out.1, List.length_append, List.map_append]; exact hown5⟩
      clear hb5 hown5
      go_roundg (l.length - (i + 1))
      case measure => omega
      case rel => exact ⟨i + 1, by go_num, by omega, Nat.le_refl _, HX⟩
    · obtain rfl : i = l.length := by omega
      have hI := HI.out
      rw [List.take_length] at hI
      have HO := Lib.hid (of_all h.hash (Hs.hash_lt hk) 13 wr _ u7 l 0 rfl (HP.out.below (HW.out.2.trans hI.1)) (Sl.of_own hI.2) h9 (fun e => by cases e))
      clear hI
      repeat' (first | go_at_call 60 | go_skip | go_guarded | go_step)
      refine HO.out.mono ?_
      rintro e w1 ⟨q, rfl, f1, hd⟩
      have H1 := Lib.hid (And.intro (HW.out.2.trans (HI.out.1.trans f1)) (hd w1 (Only.refl w1)))
      clear f1 hd
      go_simp
      repeat' (first | go_skip | go_guarded | go_step)
      go_ret
      exact ⟨q, rfl, H1.out.1, H1.out.2⟩
end Go.Proofs.Ytkfiinmoecibcaa
/- Tries as plain trees: what is walked, what is counted; a node in memory is one. No program. -/
namespace Go.QS
open Go.RowKit Go.QS.Nk

inductive WT where
  | mk (b : Bool) (ps : List Pr) (ks : List WT)
namespace WT
def b : WT → Bool | mk x _ _ => x
def ps : WT → List Pr | mk _ x _ => x
def ks : WT → List WT | mk _ _ x => x
@[simp] theorem b_mk (x y z) : (mk x y z).b = x := rfl
@[simp] theorem ps_mk (x y z) : (mk x y z).ps = y := rfl
@[simp] theorem ks_mk (x y z) : (mk x y z).ks = z := rfl
end WT

/-! ### The walk -/
mutual
def walkT : WT → Nat → List (Pr × Nat)
  | .mk _ ps ks, d => ps.map (fun p => (p, d)) ++ walkL ks (d + 1)
def walkL : List WT → Nat → List (Pr × Nat)
  | [], _ => []
  | t :: r, d => walkT t d ++ walkL r d
end
theorem walkT_eq (t : WT) (d : Nat) : walkT t d = t.ps.map (fun p => (p, d)) ++ walkL t.ks (d + 1) := by cases t; rfl
theorem walkL_nil (d : Nat) : walkL [] d = [] := rfl
theorem walkL_cons (t : WT) (r : List WT) (d : Nat) : walkL (t :: r) d = walkT t d ++ walkL r d := rfl
theorem walkL_append (a b : List WT) (d : Nat) : walkL (a ++ b) d = walkL a d ++ walkL b d := by
  induction a with
  | nil => rfl
  | cons t a ih => rw [List.cons_append, walkL_cons, walkL_cons, ih, List.append_assoc]

/-! ### Counts -/
mutual
def cntT : WT → Nat
  | .mk _ _ ks => 1 + cntL ks
def cntL : List WT → Nat
  | [] => 0
  | t :: r => cntT t + cntL r
end
mutual
def bksT : WT → Nat
  | .mk b _ ks => (if b then 1 else 0) + bksL ks
def bksL : List WT → Nat
  | [] => 0
  | t :: r => bksT t + bksL r
end
mutual
def prsT : WT → Nat
  | .mk _ ps ks => ps.length + prsL ks
def prsL : List WT → Nat
  | [] => 0
  | t :: r => prsT t + prsL r
end
mutual
def htT : WT → Nat
  | .mk _ _ ks => 1 + htL ks
def htL : List WT → Nat
  | [] => 0
  | t :: r => max (htT t) (htL r)
end
mutual
def mostT : WT → Nat
  | .mk b ps ks => max (if b then ps.length else 0) (mostL ks)
def mostL : List WT → Nat
  | [] => 0
  | t :: r => max (mostT t) (mostL r)
end
theorem cntT_eq (t : WT) : cntT t = 1 + cntL t.ks := by cases t; rfl
theorem bksT_eq (t : WT) : bksT t = (if t.b then 1 else 0) + bksL t.ks := by cases t; rfl
theorem prsT_eq (t : WT) : prsT t = t.ps.length + prsL t.ks := by cases t; rfl
theorem htT_eq (t : WT) : htT t = 1 + htL t.ks := by cases t; rfl
theorem mostT_eq (t : WT) : mostT t = max (if t.b then t.ps.length else 0) (mostL t.ks) := by cases t; rfl
theorem cntL_cons (t : WT) (r : List WT) : cntL (t :: r) = cntT t + cntL r := rfl
theorem bksL_cons (t : WT) (r : List WT) : bksL (t :: r) = bksT t + bksL r := rfl
theorem prsL_cons (t : WT) (r : List WT) : prsL (t :: r) = prsT t + prsL r := rfl
theorem htL_cons (t : WT) (r : List WT) : htL (t :: r) = max (htT t) (htL r) := rfl
theorem mostL_cons (t : WT) (r : List WT) : mostL (t :: r) = max (mostT t) (mostL r) := rfl
theorem cntL_append (a b : List WT) : cntL (a ++ b) = cntL a + cntL b := by
  induction a with
  | nil => simp [cntL]
  | cons t a ih => rw [List.cons_append, cntL_cons, cntL_cons, ih]; omega

theorem cntL_at : ∀ {l : List WT} {i : Nat} {u : WT}, l[i]? = some u → cntL (l.take i) + cntT u ≤ cntL l ∧ bksL (l.take i) + bksT u ≤ bksL l ∧ prsL (l.take i) + prsT u ≤ prsL l ∧ htT u ≤ htL l
  | [], i, u, h => by simp at h
  | t :: r, 0, u, h => by
    simp at h; subst h
    simp only [List.take_zero, cntL, bksL, prsL, htL]
    exact ⟨by omega, by omega, by omega, by omega⟩
  | t :: r, i + 1, u, h => by
    obtain ⟨h1, h2, h3, h4⟩ := cntL_at (l := r) (i := i) (u := u) (by simpa using h)
    rw [List.take_succ_cons, cntL_cons, bksL_cons, prsL_cons, cntL_cons, bksL_cons, prsL_cons, htL_cons]
    exact ⟨by omega, by omega, by omega, by omega⟩
/-- A world may be named by what is known of it. -/
theorem wp_nameW {P : Program} {c : Code} {Q : Exit → Act → World → Prop} {a : Act} {W : World} (R : World → Prop) (hR : R W) (h : ∀ w', Hid (R w') → c.wp P Q a w') : c.wp P Q a W := h W (Lib.hid hR)

/-- Nodes, buckets, pairs, how deep, the most. -/
structure St5 where
  n : Nat
  k : Nat
  p : Nat
  d : Nat
  m : Nat
def stT (t : WT) (d : Nat) (s : St5) : St5 := ⟨s.n + cntT t, s.k + bksT t, s.p + prsT t, max s.d (d - 1 + htT t), max s.m (mostT t)⟩
def stL (l : List WT) (d : Nat) (s : St5) : St5 := ⟨s.n + cntL l, s.k + bksL l, s.p + prsL l, max s.d (if l = [] then 0 else d - 1 + htL l), max s.m (mostL l)⟩
theorem stL_nil (d : Nat) (s : St5) : stL [] d s = s := by simp [stL, cntL, bksL, prsL, mostL]
theorem htT_pos (t : WT) : 1 ≤ htT t := by rw [htT_eq]; omega
theorem stL_snoc (l : List WT) (t : WT) (d : Nat) (s : St5) : stL (l ++ [t]) d s = stT t d (stL l d s) := by
  have e : ∀ l : List WT, cntL (l ++ [t]) = cntL l + cntT t ∧ bksL (l ++ [t]) = bksL l + bksT t ∧ prsL (l ++ [t]) = prsL l + prsT t ∧ htL (l ++ [t]) = max (htL l) (htT t) ∧ mostL (l ++ [t]) = max (mostL l) (mostT t) := by
    intro l
    induction l with
    | nil => simp [cntL, bksL, prsL, htL, mostL]
    | cons x l ih =>
      obtain ⟨h1, h2, h3, h4, h5⟩ := ih
      rw [List.cons_append, cntL_cons, bksL_cons, prsL_cons, htL_cons, mostL_cons, h1, h2, h3, h4, h5, cntL_cons, bksL_cons, prsL_cons, htL_cons, mostL_cons]
      exact ⟨by omega, by omega, by omega, by omega, by omega⟩
  obtain ⟨h1, h2, h3, h4, h5⟩ := e l
  have ht := htT_pos t
  simp only [stL, stT, h1, h2, h3, h4, h5, List.append_eq_nil_iff, List.cons_ne_self, and_false, if_false, reduceCtorEq]
  congr 1
  · omega
  · omega
  · omega
  · by_cases hl : l = []
    · subst hl; simp [htL]
    · rw [if_neg hl]; omega
  · omega

/-! ### Level by level -/
def lay : Nat → List WT → List WT
  | 0, l => l
  | k + 1, l => lay k (l.flatMap WT.ks)
theorem lay_succ' : ∀ (k : Nat) (l : List WT), lay (k + 1) l = (lay k l).flatMap WT.ks
  | 0, l => rfl
  | k + 1, l => lay_succ' k (l.flatMap WT.ks)
theorem lay_nil : ∀ k, lay k [] = []
  | 0 => rfl
  | k + 1 => lay_nil k
theorem lay_append : ∀ (k : Nat) (a b : List WT), lay k (a ++ b) = lay k a ++ lay k b
  | 0, a, b => rfl
  | k + 1, a, b => by simp only [lay, List.flatMap_append]; exact lay_append k _ _
theorem htL_flat : ∀ l : List WT, htL (l.flatMap WT.ks) = htL l - 1
  | [] => rfl
  | t :: r => by
    have ih := htL_flat r
    have e : ∀ a b : List WT, htL (a ++ b) = max (htL a) (htL b) := by
      intro a b
      induction a with
      | nil => simp [htL]
      | cons x a ih2 => rw [List.cons_append, htL_cons, htL_cons, ih2]; omega
    rw [List.flatMap_cons, e, ih, htL_cons, htT_eq]
    omega
theorem htL_zero {l : List WT} : htL l = 0 ↔ l = [] := by
  cases l with
  | nil => simp [htL]
  | cons t r => have := htT_pos t; rw [htL_cons]; simp; omega
theorem lay_some : ∀ (k : Nat) (l : List WT), lay k l ≠ [] ↔ k < htL l
  | 0, l => by
    have := @htL_zero l
    simp only [lay, ne_eq]
    rw [← this]; omega
  | k + 1, l => by
    rw [show lay (k + 1) l = lay k (l.flatMap WT.ks) from rfl, lay_some k, htL_flat]
    omega
theorem cntL_flat (l : List WT) : cntL l = l.length + cntL (l.flatMap WT.ks) := by
  induction l with
  | nil => simp [cntL]
  | cons t r ih => rw [List.flatMap_cons, cntL_append, cntL_cons, cntT_eq, ih, List.length_cons]; omega
/-- How many on the levels ahead of the k-th. -/
def upto (l : List WT) : Nat → Nat
  | 0 => 0
  | k + 1 => upto l k + (lay k l).length
theorem cntL_upto (l : List WT) : ∀ k, cntL l = upto l k + cntL (lay k l)
  | 0 => by simp [upto, lay]
  | k + 1 => by
    rw [cntL_upto l k, upto, lay_succ', cntL_flat (lay k l)]
    omega
theorem upto_all {l : List WT} {k : Nat} (h : htL l ≤ k) : upto l k = cntL l := by
  have := cntL_upto l k
  have e : lay k l = [] := by
    apply Classical.byContradiction
    intro hne
    have := (lay_some k l).1 hne
    omega
  rw [e] at this
  simp [cntL] at this
  omega

theorem len_cntL : ∀ l : List WT, l.length ≤ cntL l
  | [] => Nat.zero_le _
  | t :: r => by
    have := len_cntL r
    rw [cntL_cons, cntT_eq, List.length_cons]; omega
theorem lay_le (t : WT) (k : Nat) : (lay k [t]).length ≤ cntT t := by
  have h1 := cntL_upto [t] k
  have h2 := len_cntL (lay k [t])
  have h3 : cntL [t] = cntT t := by simp [cntL]
  omega
/-- The levels' lengths. -/
def lens (t : WT) (n : Nat) : List Value := (List.range n).map fun j => .int .i64 (((lay j [t]).length : Nat) : Int)
theorem lens_length (t : WT) (n : Nat) : (lens t n).length = n := by simp [lens]
theorem lens_succ (t : WT) (n : Nat) : lens t (n + 1) = lens t n ++ [.int .i64 (((lay n [t]).length : Nat) : Int)] := by simp [lens, List.range_succ]

/-! ### A node in memory is a tree -/
inductive RepN (T : TypeId) (w : World) : Nat → WT → Prop
  | mk {g : Nat} {t : WT} {d n : Nat} {ow : Option Addr} {pv kv : Value} {kb : List Nat} (h : Nd T w g d n t.ps kb t.b ow pv kv) (hd : d < 4294967296) (hn : n < 4294967296) (h9 : t.ps.length ≤ 1000000) (hl : kb.length = t.ks.length) (hl9 : kb.length ≤ 32)
      (hk : ∀ (j k : Nat) (u : WT), kb[j]? = some k → t.ks[j]? = some u → RepN T w k u) : RepN T w g t
/-- Kids in memory are trees. -/
def RepNs (T : TypeId) (w : World) (ks : List Nat) (ts : List WT) : Prop := ks.length = ts.length ∧ ∀ (j k : Nat) (u : WT), ks[j]? = some k → ts[j]? = some u → RepN T w k u
section
variable {T : TypeId} {w w' : World} {g : Nat} {t : WT} {ks : List Nat} {ts : List WT}
theorem RepN.ext (h : RepN T w g t) (f : Ext w w') : RepN T w' g t := by
  induction h with
  | mk h hd hn h9 hl hl9 _ ih => exact .mk (h.ext f) hd hn h9 hl hl9 ih
theorem RepN.open (h : RepN T w g t) : ∃ d n ow pv kv kb, Nd T w g d n t.ps kb t.b ow pv kv ∧ d < 4294967296 ∧ n < 4294967296 ∧ t.ps.length ≤ 1000000 ∧ kb.length ≤ 32 ∧ RepNs T w kb t.ks := by
  cases h with
  | mk h hd hn h9 hl hl9 hk => exact ⟨_, _, _, _, _, _, h, hd, hn, h9, hl9, hl, hk⟩
theorem RepNs.ext (h : RepNs T w ks ts) (f : Ext w w') : RepNs T w' ks ts := ⟨h.1, fun j k u h1 h2 => (h.2 j k u h1 h2).ext f⟩
theorem RepNs.nil (T : TypeId) (w : World) : RepNs T w [] [] := ⟨rfl, fun j k u h => by simp at h⟩
theorem RepNs.append {ks2 : List Nat} {ts2 : List WT} (h : RepNs T w ks ts) (h2 : RepNs T w ks2 ts2) : RepNs T w (ks ++ ks2) (ts ++ ts2) := by
  refine ⟨by simp [h.1, h2.1], fun j k u a b => ?_⟩
  rcases Nat.lt_or_ge j ks.length with hj | hj
  · rw [List.getElem?_append_left hj] at a
    rw [List.getElem?_append_left (by have := h.1; omega)] at b
    exact h.2 j k u a b
  · rw [List.getElem?_append_right hj] at a
    rw [List.getElem?_append_right (by have := h.1; omega), ← h.1] at b
    exact h2.2 _ k u a b
theorem RepNs.one (h : RepN T w g t) : RepNs T w [g] [t] := by
  refine ⟨rfl, fun j k u a b => ?_⟩
  match j with
  | 0 => simp at a b; subst a b; exact h
  | j + 1 => simp at a
theorem RepNs.drop (h : RepNs T w ks ts) (i : Nat) : RepNs T w (ks.drop i) (ts.drop i) := ⟨by simp [h.1], fun j k u a b => by rw [List.getElem?_drop] at a b; exact h.2 _ k u a b⟩
end

/-! ### The trie of a list -/
def oneP : List Pr → Option Pr | [p] => some p | _ => none
def ones (xs : List (List Pr)) : List Pr := xs.filterMap oneP
def twos (xs : List (List Pr)) : List (List Pr) := xs.filter fun x => decide (2 ≤ x.length)
def parts (H : List UInt8 → Nat) (lv : Nat) (l : List Pr) : List (List Pr) := (List.range 32).map fun c => part H lv c l
def trieOf (H : List UInt8 → Nat) : Nat → List Pr → WT
  | 0, l => .mk true l []
  | f + 1, l => .mk false (ones (parts H (12 - f) l)) ((twos (parts H (12 - f) l)).map (trieOf H f))
theorem parts_length (H : List UInt8 → Nat) (lv : Nat) (l : List Pr) : (parts H lv l).length = 32 := by simp [parts]
theorem parts_get (H : List UInt8 → Nat) (lv : Nat) (l : List Pr) {c : Nat} (h : c < 32) : (parts H lv l)[c]? = some (part H lv c l) := by
  unfold parts
  rw [List.getElem?_map, List.getElem?_range h]; rfl
theorem twos_len (xs : List (List Pr)) : (twos xs).length ≤ xs.length := List.length_filter_le ..
theorem ones_len (xs : List (List Pr)) : (ones xs).length ≤ xs.length := List.length_filterMap_le ..

theorem slots_parts {R : Nat → List Pr → Prop} : ∀ (sl : List (Slot Nat)) (xs : List (List Pr)), sl.length = xs.length → (∀ (i : Nat) s x, sl[i]? = some s → xs[i]? = some x → SlotOk R s x) →
    prsOf sl = ones xs ∧ (kdsOf sl).length = (twos xs).length ∧ ∀ (j k : Nat) x, (kdsOf sl)[j]? = some k → (twos xs)[j]? = some x → 2 ≤ x.length ∧ R k x
  | [], [], _, _ => ⟨rfl, rfl, fun j k x h => by simp [kdsOf] at h⟩
  | [], _ :: _, h, _ => by simp at h
  | _ :: _, [], h, _ => by simp at h
  | s :: sl, x :: xs, h, hs => by
    obtain ⟨i1, i2, i3⟩ := slots_parts sl xs (by simpa using h) (fun i s' x' a b => hs (i + 1) s' x' a b)
    have h0 := hs 0 s x rfl rfl
    cases s with
    | no =>
      have e : x = [] := h0
      subst e
      exact ⟨i1, i2, i3⟩
    | pr p =>
      have e : x = [p] := h0
      subst e
      refine ⟨?_, i2, i3⟩
      rw [prsOf_pr, i1]; rfl
    | kid q =>
      have e : 2 ≤ x.length ∧ R q x := h0
      have e1 : ones (x :: xs) = ones xs := by
        match x, e.1 with
        | a :: b :: r, _ => rfl
      have e2 : twos (x :: xs) = x :: twos xs := by unfold twos; rw [List.filter_cons, if_pos (by simpa using e.1)]
      rw [prsOf_kid, kdsOf_kid, e1, e2]
      refine ⟨i1, by simp [i2], fun j k y a b => ?_⟩
      match j with
      | 0 => simp at a b; subst a b; exact e
      | j + 1 => exact i3 j k y (by simpa using a) (by simpa using b)

theorem TR.rep {T : TypeId} {H : List UInt8 → Nat} {w : World} : ∀ (f : Nat) {g : Nat} {l : List Pr}, TR T H w f g l → l.length ≤ 1000000 → RepN T w g (trieOf H f l)
  | 0, g, l, ⟨ow, pv, kv, nd⟩, h9 => .mk (t := .mk true l []) nd (by decide) (by decide) h9 rfl (by simp) (fun j k u h => by simp at h)
  | f + 1, g, l, ⟨sl, hN, hs⟩, h9 => by
    obtain ⟨h32, ow, pv, kv, nd⟩ := hN
    obtain ⟨e1, e2, e3⟩ := slots_parts (R := TR T H w f) sl (parts H (12 - f) l) (by rw [h32, parts_length]) (fun i s x a b => by
      have hi : i < 32 := by have := (List.getElem?_eq_some_iff.1 a).1; omega
      rw [parts_get H _ l hi] at b
      cases b
      exact hs i s a)
    have hz := bits32 Slot.isP h32
    have hz2 := bits32 Slot.isK h32
    refine .mk (t := .mk false _ _) (by rw [WT.ps_mk, WT.b_mk, ← e1]; exact nd) hz hz2 ?_ ?_ ?_ ?_
    · rw [WT.ps_mk]
      have := ones_len (parts H (12 - f) l)
      rw [parts_length] at this
      omega
    · rw [WT.ks_mk, List.length_map]; exact e2
    · have := kdsOf_len sl; omega
    · intro j k u a b
      rw [WT.ks_mk, List.getElem?_map] at b
      obtain ⟨x, hx, rfl⟩ := Option.map_eq_some_iff.1 b
      obtain ⟨_, hR⟩ := e3 j k x a hx
      refine TR.rep f hR ?_
      obtain ⟨c, hc⟩ := List.mem_iff_getElem?.1 (List.mem_of_getElem? hx)
      have hm : x ∈ parts H (12 - f) l := by
        have := List.mem_of_getElem? hx
        exact (List.mem_filter.1 this).1
      obtain ⟨c', _, rfl⟩ := List.mem_map.1 hm
      exact Nat.le_trans part_length h9
end Go.QS
