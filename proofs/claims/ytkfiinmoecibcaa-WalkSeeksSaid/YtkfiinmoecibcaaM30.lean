/- Texts joined. -/
import Derived.Test.YtkfiinmoecibcaaM22
import Derived.Test.YtkfiinmoecibcaaNn
set_option linter.unusedVariables false
set_option linter.unusedSimpArgs false
/- The trie of a list: how many nodes, pairs, levels; its walk has just the list's pairs. No program. -/
namespace Go.QS
open Go.RowKit Go.QS.Nk

theorem ones_e (xs : List (List Pr)) : ones ([] :: xs) = ones xs ∧ twos ([] :: xs) = twos xs := ⟨rfl, rfl⟩
theorem ones_p (p : Pr) (xs : List (List Pr)) : ones ([p] :: xs) = p :: ones xs ∧ twos ([p] :: xs) = twos xs := ⟨rfl, rfl⟩
theorem ones_t (a b : Pr) (r : List Pr) (xs : List (List Pr)) : ones ((a :: b :: r) :: xs) = ones xs ∧ twos ((a :: b :: r) :: xs) = (a :: b :: r) :: twos xs := ⟨rfl, by simp [twos]⟩
theorem ones_sum : ∀ xs : List (List Pr), (ones xs).length + sumL (twos xs) = sumL xs
  | [] => rfl
  | x :: xs => by
    have ih := ones_sum xs
    match x with
    | [] => rw [(ones_e xs).1, (ones_e xs).2, ih]; simp [sumL]
    | [p] => rw [(ones_p p xs).1, (ones_p p xs).2]; simp only [sumL, List.length_cons, List.length_nil]; omega
    | a :: b :: r => rw [(ones_t a b r xs).1, (ones_t a b r xs).2]; simp only [sumL, List.length_cons]; omega
theorem parts_upto (H : List UInt8 → Nat) (lv : Nat) (l : List Pr) : ∀ n, sumL ((List.range n).map fun c => part H lv c l) = (l.filter fun p => decide (chk (H p.1) lv < n)).length
  | 0 => by
    have e : (l.filter fun p => decide (chk (H p.1) lv < 0)) = [] := List.filter_eq_nil_iff.2 fun p _ => by simp
    rw [e]; rfl
  | n + 1 => by
    rw [List.range_succ, List.map_append, sumL_append, parts_upto H lv l n, parts_len]
    simp [sumL]
theorem parts_sum_all (H : List UInt8 → Nat) (lv : Nat) (l : List Pr) : sumL (parts H lv l) = l.length := by
  unfold parts
  rw [parts_upto, List.filter_eq_self.2]
  intro p _
  exact decide_eq_true (chk_lt _ _)
theorem twos_two {xs : List (List Pr)} {x : List Pr} (h : x ∈ twos xs) : 2 ≤ x.length ∧ x ∈ xs := by
  have := List.mem_filter.1 h
  exact ⟨by simpa using this.2, this.1⟩
theorem sumL_two : ∀ {xs : List (List Pr)}, (∀ x ∈ xs, 2 ≤ x.length) → 2 * xs.length ≤ sumL xs
  | [], _ => Nat.zero_le _
  | x :: xs, h => by
    have ih := sumL_two (xs := xs) fun y hy => h y (List.mem_cons_of_mem _ hy)
    have := h x (List.mem_cons_self ..)
    simp only [sumL, List.length_cons]; omega
theorem part_le {H : List UInt8 → Nat} {lv : Nat} {l x : List Pr} (h : x ∈ parts H lv l) : x.length ≤ l.length := by
  obtain ⟨c, _, rfl⟩ := List.mem_map.1 h
  exact part_length

theorem prsL_trie (H : List UInt8 → Nat) (f : Nat) (ih : ∀ l, prsT (trieOf H f l) = l.length) : ∀ xs : List (List Pr), prsL (xs.map (trieOf H f)) = sumL xs
  | [] => rfl
  | x :: xs => by rw [List.map_cons, prsL_cons, ih, prsL_trie H f ih xs]; rfl
theorem prs_trie (H : List UInt8 → Nat) : ∀ (f : Nat) (l : List Pr), prsT (trieOf H f l) = l.length
  | 0, l => by rw [prsT_eq]; simp [trieOf, prsL]
  | f + 1, l => by
    rw [prsT_eq]
    simp only [trieOf, WT.ps_mk, WT.ks_mk]
    rw [prsL_trie H f (prs_trie H f), ones_sum, parts_sum_all]
theorem cntL_trie (H : List UInt8 → Nat) (f : Nat) (ih : ∀ l, cntT (trieOf H f l) ≤ 1 + f * l.length) : ∀ xs : List (List Pr), cntL (xs.map (trieOf H f)) ≤ xs.length + f * sumL xs
  | [] => by simp [cntL]
  | x :: xs => by
    have h1 := ih x
    have h2 := cntL_trie H f ih xs
    rw [List.map_cons, cntL_cons]
    simp only [sumL, List.length_cons, Nat.mul_add]; omega
theorem cnt_trie (H : List UInt8 → Nat) : ∀ (f : Nat) (l : List Pr), cntT (trieOf H f l) ≤ 1 + f * l.length
  | 0, l => by rw [cntT_eq]; simp [trieOf, cntL]
  | f + 1, l => by
    rw [cntT_eq]
    simp only [trieOf, WT.ks_mk]
    have h1 := cntL_trie H f (cnt_trie H f) (twos (parts H (12 - f) l))
    have h2 := ones_sum (parts H (12 - f) l)
    rw [parts_sum_all] at h2
    have h3 := sumL_two (xs := twos (parts H (12 - f) l)) fun x hx => (twos_two hx).1
    have h4 : f * sumL (twos (parts H (12 - f) l)) ≤ f * l.length := Nat.mul_le_mul_left _ (by omega)
    rw [Nat.add_mul]; omega
theorem htL_trie (H : List UInt8 → Nat) (f : Nat) (ih : ∀ l, htT (trieOf H f l) ≤ f + 1) : ∀ xs : List (List Pr), htL (xs.map (trieOf H f)) ≤ f + 1
  | [] => by simp [htL]
  | x :: xs => by rw [List.map_cons, htL_cons]; exact Nat.max_le.2 ⟨ih x, htL_trie H f ih xs⟩
theorem ht_trie (H : List UInt8 → Nat) : ∀ (f : Nat) (l : List Pr), htT (trieOf H f l) ≤ f + 1
  | 0, l => by rw [htT_eq]; simp [trieOf, htL]
  | f + 1, l => by
    rw [htT_eq]
    simp only [trieOf, WT.ks_mk]
    have := htL_trie H f (ht_trie H f) (twos (parts H (12 - f) l))
    omega
/-- The buckets are the nodes of the last level. -/
theorem bks_trie (H : List UInt8 → Nat) : ∀ (f : Nat) (l : List Pr), bksT (trieOf H f l) = (lay f [trieOf H f l]).length
  | 0, l => by rw [bksT_eq]; simp [trieOf, bksL, lay]
  | f + 1, l => by
    rw [bksT_eq]
    have e : lay (f + 1) [trieOf H (f + 1) l] = lay f ((twos (parts H (12 - f) l)).map (trieOf H f)) := by simp [lay, trieOf]
    rw [e]
    simp only [trieOf, WT.ks_mk, WT.b_mk, Bool.false_eq_true, if_false, Nat.zero_add]
    generalize twos (parts H (12 - f) l) = xs
    induction xs with
    | nil => rw [List.map_nil, lay_nil]; rfl
    | cons x xs ih =>
      rw [List.map_cons, bksL_cons, bks_trie H f x, ih, show trieOf H f x :: xs.map (trieOf H f) = [trieOf H f x] ++ xs.map (trieOf H f) from rfl, lay_append, List.length_append]
theorem most_trie (H : List UInt8 → Nat) : ∀ (f : Nat) (l : List Pr), 2 ≤ l.length ∨ 0 < f → mostT (trieOf H f l) ≠ 1
  | 0, l, h => by
    rw [mostT_eq]
    simp only [trieOf, WT.b_mk, WT.ps_mk, WT.ks_mk, if_true, mostL]
    omega
  | f + 1, l, _ => by
    rw [mostT_eq]
    simp only [trieOf, WT.b_mk, WT.ks_mk, Bool.false_eq_true, if_false]
    have key : ∀ xs : List (List Pr), (∀ x ∈ xs, 2 ≤ x.length) → mostL (xs.map (trieOf H f)) ≠ 1 := by
      intro xs
      induction xs with
      | nil => intro _; simp [mostL]
      | cons x xs ih =>
        intro hx
        have h1 := most_trie H f x (.inl (hx x (List.mem_cons_self ..)))
        have h2 := ih fun y hy => hx y (List.mem_cons_of_mem _ hy)
        rw [List.map_cons, mostL_cons]
        omega
    have := key _ fun x hx => (twos_two (xs := parts H (12 - f) l) hx).1
    omega

/-! ### Its walk has just the list's pairs -/
theorem ones_perm : ∀ xs : List (List Pr), (ones xs ++ (twos xs).flatten).Perm xs.flatten
  | [] => List.Perm.refl _
  | x :: xs => by
    have ih := ones_perm xs
    match x with
    | [] => rw [(ones_e xs).1, (ones_e xs).2]; simpa using ih
    | [p] => rw [(ones_p p xs).1, (ones_p p xs).2]; simpa using ih
    | a :: b :: r =>
      have e1 : ones ((a :: b :: r) :: xs) = ones xs := rfl
      have e2 : twos ((a :: b :: r) :: xs) = (a :: b :: r) :: twos xs := by simp [twos]
      rw [e1, e2, List.flatten_cons, List.flatten_cons]
      have h1 : (ones xs ++ ((a :: b :: r) ++ (twos xs).flatten)).Perm ((a :: b :: r) ++ (ones xs ++ (twos xs).flatten)) := by
        rw [← List.append_assoc, ← List.append_assoc]
        exact List.Perm.append_right _ List.perm_append_comm
      exact h1.trans (List.Perm.append_left _ ih)
theorem parts_perm_upto (H : List UInt8 → Nat) (lv : Nat) (l : List Pr) : ∀ n, ((List.range n).map fun c => part H lv c l).flatten.Perm (l.filter fun p => decide (chk (H p.1) lv < n))
  | 0 => by
    have e : (l.filter fun p => decide (chk (H p.1) lv < 0)) = [] := List.filter_eq_nil_iff.2 fun p _ => by simp
    rw [e]; exact List.Perm.refl _
  | n + 1 => by
    rw [List.range_succ, List.map_append, List.flatten_append]
    have ih := parts_perm_upto H lv l n
    refine (List.Perm.append_right _ ih).trans ?_
    simp only [List.map_cons, List.map_nil, List.flatten_cons, List.flatten_nil, List.append_nil, part]
    clear ih
    induction l with
    | nil => exact List.Perm.refl _
    | cons p l ih =>
      rcases Nat.lt_trichotomy (chk (H p.1) lv) n with h | h | h
      · have h1 : chk (H p.1) lv < n + 1 := by omega
        have h2 : ¬ chk (H p.1) lv = n := by omega
        simpa [List.filter_cons, h, h1, h2] using ih
      · have h1 : chk (H p.1) lv < n + 1 := by omega
        have h2 : ¬ chk (H p.1) lv < n := by omega
        simp only [List.filter_cons, h1, h2, h, beq_self_eq_true, decide_true, decide_false, if_true, Bool.false_eq_true, if_false, Nat.lt_irrefl, Nat.lt_succ_self]
        exact List.perm_middle.trans (List.Perm.cons _ (by simpa using ih))
      · have h1 : ¬ chk (H p.1) lv < n + 1 := by omega
        have h2 : ¬ chk (H p.1) lv < n := by omega
        have h3 : ¬ chk (H p.1) lv = n := by omega
        simpa [List.filter_cons, h1, h2, h3] using ih
theorem parts_perm (H : List UInt8 → Nat) (lv : Nat) (l : List Pr) : (parts H lv l).flatten.Perm l := by
  unfold parts
  refine (parts_perm_upto H lv l 32).trans (List.Perm.of_eq ?_)
  rw [List.filter_eq_self]
  intro p _
  exact decide_eq_true (chk_lt _ _)
theorem walk_perm (H : List UInt8 → Nat) : ∀ (f : Nat) (l : List Pr) (d : Nat), ((walkT (trieOf H f l) d).map Prod.fst).Perm l
  | 0, l, d => by
    rw [walkT_eq]
    simp [trieOf, walkL, List.map_map, Function.comp_def]
  | f + 1, l, d => by
    rw [walkT_eq]
    simp only [trieOf, WT.ps_mk, WT.ks_mk, List.map_append, List.map_map, Function.comp_def, List.map_id']
    have key : ∀ xs : List (List Pr), ((walkL (xs.map (trieOf H f)) (d + 1)).map Prod.fst).Perm xs.flatten := by
      intro xs
      induction xs with
      | nil => exact List.Perm.refl _
      | cons x xs ih =>
        rw [List.map_cons, walkL_cons, List.map_append, List.flatten_cons]
        exact List.Perm.append (walk_perm H f x (d + 1)) ih
    refine (List.Perm.append_left _ (key _)).trans ((ones_perm _).trans (parts_perm H _ l))
theorem walk_len (H : List UInt8 → Nat) (f : Nat) (l : List Pr) (d : Nat) : (walkT (trieOf H f l) d).length = l.length := by
  have := (walk_perm H f l d).length_eq
  simpa using this
end Go.QS
/- A walk's cursor: frames of a way down: plain, and in memory. -/
namespace Go.QS
open Go.RowKit Go.QS.Nk

/-- A frame: pairs and kids that are still to come. -/
abbrev Fp := List Pr × List WT
/-- What is still to come: the last frame first; the first one so deep. -/
def comB : List Fp → Nat → List (Pr × Nat)
  | [], _ => []
  | s :: r, d => comB r (d + 1) ++ (s.1.map (fun p => (p, d)) ++ walkL s.2 (d + 1))
theorem comB_append : ∀ (a b : List Fp) (d : Nat), comB (a ++ b) d = comB b (d + a.length) ++ comB a d
  | [], b, d => by simp [comB]
  | s :: a, b, d => by
    rw [List.cons_append, comB, comB_append a b (d + 1), comB, List.append_assoc, List.length_cons, show d + 1 + a.length = d + (a.length + 1) by omega]
theorem comB_snoc (a : List Fp) (s : Fp) (d : Nat) : comB (a ++ [s]) d = s.1.map (fun p => (p, d + a.length)) ++ walkL s.2 (d + a.length + 1) ++ comB a d := by
  rw [comB_append]
  simp [comB]
/-- Its weight. -/
def wtB : List Fp → Nat
  | [] => 0
  | s :: r => 1 + 2 * cntL s.2 + wtB r
theorem wtB_append : ∀ a b : List Fp, wtB (a ++ b) = wtB a + wtB b
  | [], b => by simp [wtB]
  | s :: a, b => by rw [List.cons_append, wtB, wtB, wtB_append a b]; omega
theorem wtB_snoc (a : List Fp) (s : Fp) : wtB (a ++ [s]) = wtB a + (1 + 2 * cntL s.2) := by rw [wtB_append]; simp [wtB]
theorem wtB_len : ∀ a : List Fp, a.length ≤ wtB a
  | [] => Nat.le_refl _
  | s :: a => by have := wtB_len a; rw [wtB, List.length_cons]; omega
theorem com_take (a : List Fp) (p : Pr) (ps : List Pr) (ks : List WT) : comB (a ++ [(p :: ps, ks)]) 1 = (p, a.length + 1) :: comB (a ++ [(ps, ks)]) 1 := by
  rw [comB_snoc, comB_snoc, Nat.add_comm 1 a.length]; simp
theorem com_push (a : List Fp) (t : WT) (ts : List WT) : comB (a ++ [([], t :: ts)]) 1 = comB ((a ++ [([], ts)]) ++ [(t.ps, t.ks)]) 1 := by
  rw [comB_snoc, comB_snoc, comB_snoc, walkL_cons, walkT_eq, List.length_append]
  simp only [List.map_nil, List.nil_append, List.length_cons, List.length_nil, List.append_assoc, Nat.zero_add]
  rw [show 1 + a.length + 1 = 1 + (a.length + 1) by omega]
theorem wt_push (a : List Fp) (t : WT) (ts : List WT) : wtB ((a ++ [([], ts)]) ++ [(t.ps, t.ks)]) < wtB (a ++ [([], t :: ts)]) := by
  rw [wtB_snoc, wtB_snoc, wtB_snoc, cntL_cons, cntT_eq]; simp only; omega
theorem com_pop (a : List Fp) : comB (a ++ [([], [])]) 1 = comB a 1 := by rw [comB_snoc]; simp [walkL]
theorem com_one (t : WT) : comB [(t.ps, t.ks)] 1 = walkT t 1 := by rw [walkT_eq]; simp [comB]

/-! ### In memory -/
/-- A frame's two slices. -/
abbrev Fm := Value × Value
def flatF (l : List Fm) : List Value := l.flatMap fun f => [f.1, f.2]
theorem flatF_length (l : List Fm) : (flatF l).length = l.length * 2 := by
  induction l with
  | nil => rfl
  | cons a l ih =>
    have e : flatF (a :: l) = a.1 :: a.2 :: flatF l := rfl
    rw [e]; simp only [List.length_cons, ih]; omega
theorem flatF_append (a b : List Fm) : flatF (a ++ b) = flatF a ++ flatF b := by simp [flatF]
theorem flatF_get : ∀ {l : List Fm} {i : Nat} {f : Fm}, l[i]? = some f → (flatF l)[i * 2]? = some f.1 ∧ (flatF l)[i * 2 + 1]? = some f.2
  | [], i, f, h => by simp at h
  | b :: l, 0, f, h => by
    simp at h; subst h
    exact ⟨rfl, rfl⟩
  | b :: l, i + 1, f, h => by
    have := flatF_get (l := l) (i := i) (f := f) (by simpa using h)
    have e : flatF (b :: l) = b.1 :: b.2 :: flatF l := rfl
    rw [e, show (i + 1) * 2 = i * 2 + 1 + 1 by omega]
    simpa using this
/-- The blocks that a frame leans on. -/
def FrB (m : Fm) (b : Nat) : Prop := m.1.ownBlock = some b ∨ m.2.ownBlock = some b
/-- A frame in memory; its rows lie apart from the cursor and the way. -/
def FrOk (T : TypeId) (W0 w : World) (c : Nat) (rb : Option Nat) (m : Fm) (s : Fp) : Prop :=
  ∃ kb, PS w m.1 s.1 ∧ Sl w 1 m.2 kb.length (ptrs kb) ∧ RepNs T W0 kb s.2 ∧ s.1.length ≤ 1000000 ∧ kb.length ≤ 1000000 ∧ ∀ b, FrB m b → b < w.heap.size ∧ b ≠ c ∧ rb ≠ some b
section
variable {T : TypeId} {W0 w w' : World} {c : Nat} {rb rb' : Option Nat} {m : Fm} {s : Fp}
theorem sl_block {k n : Nat} {v : Value} {xs : List Value} (h : Sl w k v n xs) (hk : ∀ b, v.ownBlock = some b → b < w.heap.size ∧ w'.heap[b]? = w.heap[b]?) : Sl w' k v n xs := by
  obtain ⟨A, C, rfl, h1, h2, h3, h4⟩ := h
  refine ⟨A, C, rfl, h1, h2, h3, fun hne => ?_⟩
  obtain ⟨b, o, rfl, hc⟩ := h4 hne
  refine ⟨b, o, rfl, fun j u hu => ?_⟩
  exact (World.cell?_of_block (w := w) (hk b rfl).2).trans (hc j u hu)
/-- A frame stays where its rows stay. -/
theorem FrOk.keep (h : FrOk T W0 w c rb m s) (hs : w.heap.size ≤ w'.heap.size) (hk : ∀ b, b < w.heap.size → b ≠ c → rb ≠ some b → w'.heap[b]? = w.heap[b]?) (hr : rb' = rb ∨ ∀ b, rb' = some b → w.heap.size ≤ b) : FrOk T W0 w' c rb' m s := by
  obtain ⟨kb, h1, h2, h3, h4, h5, h6⟩ := h
  refine ⟨kb, sl_block h1 fun b hb => ⟨(h6 b (.inl hb)).1, ?_⟩, sl_block h2 fun b hb => ⟨(h6 b (.inr hb)).1, ?_⟩, h3, h4, h5, fun b hb => ?_⟩
  · obtain ⟨e1, e2, e3⟩ := h6 b (.inl hb); exact hk b e1 e2 e3
  · obtain ⟨e1, e2, e3⟩ := h6 b (.inr hb); exact hk b e1 e2 e3
  · obtain ⟨e1, e2, e3⟩ := h6 b hb
    refine ⟨Nat.lt_of_lt_of_le e1 hs, e2, ?_⟩
    rcases hr with rfl | hr
    · exact e3
    · intro e; have := hr b e; omega
end
/-- A cursor in memory. -/
structure CurW (T CT FT : TypeId) (W0 w : World) (c : Nat) (V : Value) (ms : List Fm) (st : List Fp) (d : Nat) : Prop where
  cell : w.heap[c]? = some (.cells #[V, .int .i64 (d : Int)] CT (0, 0))
  row : w.ownsRow W0.heap.size FT 2 V ms.length (flatF ms)
  len : ms.length = st.length
  fr : ∀ (i : Nat) (m : Fm) (s : Fp), ms[i]? = some m → st[i]? = some s → FrOk T W0 w c V.ownBlock m s
  ext : Ext W0 w
  le : W0.heap.size ≤ c
  ne : V.ownBlock ≠ some c
/-- The cursor and its way turn alone. -/
abbrev TwoW (c : Nat) (V : Value) (w w' : World) : Prop := Only (fun k => k = c ∨ V.ownBlock = some k) w w'
/-- A way is the old one, or new. -/
def NewW (w : World) (V V' : Value) : Prop := V'.ownBlock = V.ownBlock ∨ ∀ b, V'.ownBlock = some b → w.heap.size ≤ b
section
variable {T CT FT : TypeId} {W0 w w' a b : World} {c d : Nat} {V V' V'' : Value} {ms : List Fm} {st : List Fp}
theorem TwoW.of_ext (f : Ext w w') : TwoW c V w w' := Only.of_ext f
theorem TwoW.trans (h : TwoW c V a b) (k : TwoW c V' b w) (n : NewW a V V') : TwoW c V a w :=
  Only.trans' h k fun i hi hT => by
    rcases hT with e | e
    · exact .inl e
    · rcases n with n | n
      · exact .inr (by rw [← n]; exact e)
      · have := n i e; omega
theorem TwoW.setC (h : TwoW c V a w) (j : Nat) (u : Value) : TwoW c V a (w.setCell ⟨c, j, none⟩ u) := Only.setCell h (.inl (.inl rfl)) u
theorem TwoW.setR (h : TwoW c V a w) {g : Nat} (hg : V.ownBlock = some g) (j : Nat) (u : Value) : TwoW c V a (w.setCell ⟨g, j, none⟩ u) := Only.setCell h (.inl (.inr hg)) u
theorem NewW.refl (w : World) (V : Value) : NewW w V V := .inl rfl
theorem NewW.trans (h : NewW a V V') (k : NewW b V' V'') (hs : a.heap.size ≤ b.heap.size) : NewW a V V'' := by
  rcases k with k | k
  · rcases h with h | h
    · exact .inl (k.trans h)
    · exact .inr fun x hx => h x (by rw [← k]; exact hx)
  · exact .inr fun x hx => Nat.le_trans hs (k x hx)
theorem CurW.keep (h : CurW T CT FT W0 w c V ms st d) (f : Ext w w') : CurW T CT FT W0 w' c V ms st d :=
  ⟨(f.block c (heap_lt h.cell)).trans h.cell, row_ext h.row f, h.len, fun i m s h1 h2 => (h.fr i m s h1 h2).keep f.size (fun b hb _ _ => f.block b hb) (.inl rfl), Ext.trans h.ext f, h.le, h.ne⟩
/-- Another cursor's turn leaves it. -/
theorem CurW.two {c2 : Nat} {V2 : Value} (h : CurW T CT FT W0 w c V ms st d) (k : TwoW c2 V2 w w') (hc : c ≠ c2) (hc2 : V2.ownBlock ≠ some c) (hV : ∀ b, V.ownBlock = some b → b ≠ c2 ∧ V2.ownBlock ≠ some b)
    (hf : ∀ (i : Nat) (m : Fm), ms[i]? = some m → ∀ b, FrB m b → b ≠ c2 ∧ V2.ownBlock ≠ some b) (hE : Ext W0 w') : CurW T CT FT W0 w' c V ms st d := by
  refine ⟨(k.block c (heap_lt h.cell) (fun e => e.elim hc hc2)).trans h.cell, Only.own k h.row (fun b hb e => e.elim (hV b hb).1 (hV b hb).2), h.len, fun i m s h1 h2 => ?_, hE, h.le, h.ne⟩
  obtain ⟨kb, e1, e2, e3, e4, e5, e6⟩ := h.fr i m s h1 h2
  have hb := hf i m h1
  refine ⟨kb, sl_block e1 fun b hb' => ⟨(e6 b (.inl hb')).1, k.block b (e6 b (.inl hb')).1 fun e => e.elim (hb b (.inl hb')).1 (hb b (.inl hb')).2⟩, sl_block e2 fun b hb' => ⟨(e6 b (.inr hb')).1, k.block b (e6 b (.inr hb')).1 fun e => e.elim (hb b (.inr hb')).1 (hb b (.inr hb')).2⟩, e3, e4, e5, fun b hb' => ?_⟩
  obtain ⟨z1, z2, z3⟩ := e6 b hb'
  exact ⟨Nat.lt_of_lt_of_le z1 k.size, z2, z3⟩
end
end Go.QS
/- A walk's cursor in memory turns: its last frame, its depth, its way. No program. -/
namespace Go.QS
open Go.RowKit Go.QS.Nk
section
variable {T CT FT : TypeId} {W0 w w' : World} {c d n g C : Nat} {V V' : Value} {ms ms2 : List Fm} {st st2 : List Fp} {m : Fm} {s : Fp}

theorem slice_inj {g g' n n' C C' : Nat} (e : Value.slice (some ⟨g, 0, none⟩) n C = Value.slice (some ⟨g', 0, none⟩) n' C') : g = g' ∧ C = C' := by
  injection e with e1 e2 e3
  injection e1 with e1
  injection e1 with e1
  exact ⟨e1, e3⟩
theorem snoc_split {α : Type} {l : List α} {n : Nat} (h : l.length = n + 1) : ∃ a x, l = a ++ [x] ∧ a.length = n := by
  have hne : l ≠ [] := fun e => by rw [e] at h; simp at h
  exact ⟨l.dropLast, l.getLast hne, (List.dropLast_concat_getLast hne).symm, by simp [h]⟩
theorem get_snoc {α : Type} (a : List α) (x : α) : (a ++ [x])[a.length]? = some x := by simp
theorem run_fromW {P : Program} {t e : TypeId} {size bytes : Nat} (ht : P.underlying t = some (.slice e)) (hi : ∃ i z, P.info? e = some i ∧ i.zero = some z ∧ i.size = size ∧ i.bytes = bytes ∧ z.cells.size = size) (A : Option Addr) {n c i : Nat} (hin : i ≤ n) (hnc : n ≤ c) :
    ∃ A2, (∀ w, (Instr.slice t (.slice A n c) (some (.int .i64 (i : Int))) none none).run P w = .ok (.slice A2 (n - i) (c - i)) w) ∧
      (∀ (w : World) (xs : List Value), xs.length = n * size → Seg w A xs → Seg w A2 (xs.drop (i * size))) ∧ (∀ a2, A2 = some a2 → ∃ a, A = some a ∧ a.block = a2.block) := by
  obtain ⟨inf, z, hi, hz, hs, hb, hzs⟩ := hi
  refine ⟨if c = i then A else A.map (·.add (i * size)), fun w => ?_, fun w xs hl hs => ?_, fun a2 h => ?_⟩
  · have h1 : (0 : Int) ≤ (i : Int) := by omega
    have h2 : (i : Int) ≤ (n : Int) := by omega
    simp [Instr.slice, Instr.sliceBounds, Instr.sliceBound, asIntOf, run_underlying ht, sizeOf, typeInfo, hi, hs, hin]
  · by_cases h : c = i
    · have : xs.drop (i * size) = [] := List.drop_eq_nil_of_le (by rw [hl]; exact Nat.mul_le_mul_right _ (by omega))
      rw [this]; exact Seg.nil _ _
    · rw [if_neg h]
      intro hne
      obtain ⟨b, o, hA, hc⟩ := hs (fun e => hne (by simp [e]))
      subst hA
      have := Seg.drop (w := w) (b := b) (o := o) hs (i * size)
      obtain ⟨b', o', hA', hc'⟩ := this hne
      cases hA'
      exact ⟨b, o + i * size, by simp [Addr.add_lit], hc'⟩
  · by_cases hc : c = i
    · rw [if_pos hc] at h; exact ⟨_, h, rfl⟩
    · rw [if_neg hc] at h
      cases A with
      | none => cases h
      | some a =>
        rw [Option.map_some] at h
        cases h
        refine ⟨a, rfl, ?_⟩
        unfold Addr.add
        split <;> rfl
/-- What is known of the last frame. -/
theorem CurW.last (h : CurW T CT FT W0 w c V ms (st2 ++ [s]) d) (hn : st2.length = n) :
    ∃ g C ms2 m, V = .slice (some ⟨g, 0, none⟩) (n + 1) C ∧ ms = ms2 ++ [m] ∧ ms2.length = n ∧ n + 1 ≤ C ∧ C ≤ maxLen ∧ W0.heap.size ≤ g ∧ g < w.heap.size ∧ g ≠ c ∧ w.cell? ⟨g, n * 2, none⟩ = some m.1 ∧ w.cell? ⟨g, n * 2 + 1, none⟩ = some m.2 ∧ (∀ j, w.frozen? ⟨g, j, none⟩ = false) ∧ FrOk T W0 w c (some g) m s ∧ FrOk T W0 w c V.ownBlock m s := by
  have hl : ms.length = n + 1 := by rw [h.len, List.length_append, hn]; rfl
  obtain ⟨ms2, m, rfl, hm2⟩ := snoc_split hl
  rcases h.row.2 with ⟨_, h0⟩ | ⟨g, C, cur, rfl, h2, h3, h4, h5, h6, h7⟩
  · simp at h0
  · rw [hl] at h4 h7 ⊢
    have hne : g ≠ c := fun e => h.ne (by rw [e]; rfl)
    have hget : ∀ r u, (flatF (ms2 ++ [m]))[n * 2 + r]? = some u → r < 2 → w.cell? ⟨g, n * 2 + r, none⟩ = some u := by
      intro r u hu hr
      rw [seg_of_heap h3, ← Array.getElem?_toList, ← hu, ← h7, List.getElem?_take_of_lt (by omega)]
    have hq := flatF_get (l := ms2 ++ [m]) (i := n) (f := m) (by rw [← hm2]; exact get_snoc _ _)
    have hf := h.fr n m s (by rw [← hm2]; exact get_snoc _ _) (by rw [← hn]; exact get_snoc _ _)
    exact ⟨g, C, ms2, m, rfl, rfl, hm2, h4, h5, h2, heap_lt h3, hne, hget 0 _ hq.1 (by decide), hget 1 _ hq.2 (by decide), fun j => by simp [World.frozen?, h3], hf, hf⟩
theorem set_two0 (l : List Value) (a b u : Value) (n : Nat) (h : l.length = n) : (l ++ [a, b]).set n u = l ++ [u, b] := by
  rw [List.set_append_right _ _ (by omega), h, Nat.sub_self]; rfl
theorem set_two1 (l : List Value) (a b u : Value) (n : Nat) (h : l.length = n) : (l ++ [a, b]).set (n + 1) u = l ++ [a, u] := by
  rw [List.set_append_right _ _ (by omega), h, Nat.add_sub_cancel_left]; rfl
/-- The last frame turns. -/
theorem CurW.setTop {m' : Fm} {s' : Fp} (h : CurW T CT FT W0 w c (.slice (some ⟨g, 0, none⟩) (n + 1) C) (ms2 ++ [m]) (st2 ++ [s]) d) (hn : st2.length = n) (hm : ms2.length = n) (j : Nat) (u : Value) (hj : (j = 0 ∧ m' = (u, m.2)) ∨ (j = 1 ∧ m' = (m.1, u)))
    (hF : FrOk T W0 w c (some g) m' s') : CurW T CT FT W0 (w.setCell ⟨g, n * 2 + j, none⟩ u) c (.slice (some ⟨g, 0, none⟩) (n + 1) C) (ms2 ++ [m']) (st2 ++ [s']) d := by
  have hne : g ≠ c := fun e => h.ne (by rw [e]; rfl)
  have hb : ∀ b, b ≠ g → (w.setCell ⟨g, n * 2 + j, none⟩ u).heap[b]? = w.heap[b]? := fun b hb => Below.heap_setCell w ⟨g, n * 2 + j, none⟩ u b hb
  have hk : ∀ {m0 : Fm} {s0 : Fp}, FrOk T W0 w c (some g) m0 s0 → FrOk T W0 (w.setCell ⟨g, n * 2 + j, none⟩ u) c (some g) m0 s0 := fun h0 => h0.keep (by simp) (fun b _ _ hr => hb b fun e => hr (by rw [e])) (.inl rfl)
  refine ⟨(hb c (Ne.symm hne)).trans h.cell, ?_, by simp [hm, hn], fun i x y hx hy => ?_, ?_, h.le, h.ne⟩
  · rcases h.row.2 with ⟨e, _⟩ | ⟨g', C', cur, e, h2, h3, h4, h5, h6, h7⟩
    · cases e
    · obtain ⟨rfl, rfl⟩ := slice_inj e
      have hl : (ms2 ++ [m]).length = n + 1 := by simp [hm]
      have hl' : (ms2 ++ [m']).length = n + 1 := by simp [hm]
      rw [hl] at h4 h7
      rw [hl']
      refine ⟨by rw [flatF_length, hl'], .inr ⟨g, C, cur.setIfInBounds (n * 2 + j) u, rfl, h2, heap_set h3 _ _, h4, h5, by simpa using h6, ?_⟩⟩
      rw [Array.toList_setIfInBounds, List.take_set, h7, flatF_append, flatF_append]
      have e2 : flatF [m] = [m.1, m.2] := rfl
      have e3 : flatF [m'] = [m'.1, m'.2] := rfl
      rw [e2, e3]
      have hfl : (flatF ms2).length = n * 2 := by rw [flatF_length, hm]
      rcases hj with ⟨rfl, rfl⟩ | ⟨rfl, rfl⟩
      · exact set_two0 _ _ _ _ _ hfl
      · exact set_two1 _ _ _ _ _ hfl
  · rcases Nat.lt_or_ge i n with hi | hi
    · rw [List.getElem?_append_left (by omega)] at hx
      rw [List.getElem?_append_left (by omega)] at hy
      exact hk (h.fr i x y (by rw [List.getElem?_append_left (by omega)]; exact hx) (by rw [List.getElem?_append_left (by omega)]; exact hy))
    · have hin : i = n := by
        have := (List.getElem?_eq_some_iff.1 hx).1
        simp [hm] at this; omega
      subst hin
      rw [← hm, get_snoc] at hx
      rw [← hn, get_snoc] at hy
      cases hx; cases hy
      exact hk hF
  · refine h.ext.setCell ?_ u
    rcases h.row.2 with ⟨e, _⟩ | ⟨g', C', cur, e, h2, _⟩
    · cases e
    · obtain ⟨rfl, rfl⟩ := slice_inj e; exact h2
/-- The depth turns. -/
theorem CurW.setD (h : CurW T CT FT W0 w c V ms st d) (d' : Nat) : CurW T CT FT W0 (w.setCell ⟨c, 1, none⟩ (.int .i64 (d' : Int))) c V ms st d' := by
  have hb : ∀ b, b ≠ c → (w.setCell ⟨c, 1, none⟩ (.int .i64 (d' : Int))).heap[b]? = w.heap[b]? := fun b hb => Below.heap_setCell w ⟨c, 1, none⟩ _ b hb
  refine ⟨heap_set h.cell 1 _, ?_, h.len, fun i x y hx hy => (h.fr i x y hx hy).keep (by simp) (fun b _ hc _ => hb b hc) (.inl rfl), h.ext.setCell h.le _, h.le, h.ne⟩
  refine ⟨h.row.1, ?_⟩
  rcases h.row.2 with e | ⟨g, C, cur, e, h2, h3, h4⟩
  · exact .inl e
  · exact .inr ⟨g, C, cur, e, h2, (hb g (fun e2 => h.ne (by rw [e, e2]; rfl))).trans h3, h4⟩
/-- A cell far off turns. -/
theorem CurW.setFar (h : CurW T CT FT W0 w c V ms st d) {p : Addr} (u : Value) (hc : p.block ≠ c) (hr : V.ownBlock ≠ some p.block) (hf : ∀ (i : Nat) (m : Fm), ms[i]? = some m → ∀ b, FrB m b → b ≠ p.block) (hW : W0.heap.size ≤ p.block) : CurW T CT FT W0 (w.setCell p u) c V ms st d := by
  have hb : ∀ b, b ≠ p.block → (w.setCell p u).heap[b]? = w.heap[b]? := fun b hb => Below.heap_setCell w p u b hb
  refine ⟨(hb c (Ne.symm hc)).trans h.cell, ?_, h.len, fun i x y hx hy => ?_, h.ext.setCell hW u, h.le, h.ne⟩
  · refine ⟨h.row.1, ?_⟩
    rcases h.row.2 with e | ⟨g, C, cur, e, h2, h3, h4⟩
    · exact .inl e
    · exact .inr ⟨g, C, cur, e, h2, (hb g (fun e2 => hr (by rw [e, ← e2]; rfl))).trans h3, h4⟩
  · obtain ⟨kb, e1, e2, e3, e4, e5, e6⟩ := h.fr i x y hx hy
    refine ⟨kb, sl_block e1 fun b hb' => ⟨(e6 b (.inl hb')).1, hb b (hf i x hx b (.inl hb'))⟩, sl_block e2 fun b hb' => ⟨(e6 b (.inr hb')).1, hb b (hf i x hx b (.inr hb'))⟩, e3, e4, e5, fun b hb' => ?_⟩
    obtain ⟨z1, z2, z3⟩ := e6 b hb'
    exact ⟨by simpa using z1, z2, z3⟩
/-- The last frame goes. -/
theorem CurW.pop (h : CurW T CT FT W0 w c (.slice (some ⟨g, 0, none⟩) (n + 1) C) (ms2 ++ [m]) (st2 ++ [s]) d) (hn : st2.length = n) (hm : ms2.length = n) :
    CurW T CT FT W0 (w.setCell ⟨c, 0, none⟩ (.slice (some ⟨g, 0, none⟩) n C)) c (.slice (some ⟨g, 0, none⟩) n C) ms2 st2 d := by
  have hb : ∀ b, b ≠ c → (w.setCell ⟨c, 0, none⟩ (.slice (some ⟨g, 0, none⟩) n C)).heap[b]? = w.heap[b]? := fun b hb => Below.heap_setCell w ⟨c, 0, none⟩ _ b hb
  have hne : g ≠ c := fun e => h.ne (by rw [e]; rfl)
  refine ⟨heap_set h.cell 0 _, ?_, by omega, fun i x y hx hy => ?_, h.ext.setCell h.le _, h.le, h.ne⟩
  · rcases h.row.2 with ⟨e, _⟩ | ⟨g', C', cur, e, h2, h3, h4, h5, h6, h7⟩
    · cases e
    · obtain ⟨rfl, rfl⟩ := slice_inj e
      have hl : (ms2 ++ [m]).length = n + 1 := by simp [hm]
      rw [hl] at h4 h7
      refine ⟨flatF_length _, .inr ⟨g, C, cur, by rw [hm], h2, (hb g hne).trans h3, by omega, h5, h6, ?_⟩⟩
      have h8 := congrArg (List.take (n * 2)) h7
      rw [List.take_take, Nat.min_eq_left (by omega), flatF_append, List.take_left' (by rw [flatF_length, hm])] at h8
      rw [hm]; exact h8
  · have hi : i < n := by have := (List.getElem?_eq_some_iff.1 hx).1; omega
    exact (h.fr i x y (by rw [List.getElem?_append_left (by omega)]; exact hx) (by rw [List.getElem?_append_left (by omega)]; exact hy)).keep (by simp) (fun b _ hc _ => hb b hc) (.inl rfl)
/-- A frame more: the way has grown, and lies in the cursor's cell. -/
theorem CurW.push {m' : Fm} {s' : Fp} (h : CurW T CT FT W0 w c V ms st d) (hr : w'.ownsRow W0.heap.size FT 2 V' (ms.length + 1) (flatF ms ++ flatF [m'])) (hg : w.grownBy w' V.ownBlock) (hn : V'.ownBlock = V.ownBlock ∨ V'.ownBlock = some w.heap.size)
    (hF : FrOk T W0 w c V.ownBlock m' s') : CurW T CT FT W0 (w'.setCell ⟨c, 0, none⟩ V') c V' (ms ++ [m']) (st ++ [s']) d := by
  have hcl := heap_lt h.cell
  have hb : ∀ b, b ≠ c → (w'.setCell ⟨c, 0, none⟩ V').heap[b]? = w'.heap[b]? := fun b hb => Below.heap_setCell w' ⟨c, 0, none⟩ _ b hb
  have hc' : w'.heap[c]? = some (.cells #[V, .int .i64 (d : Int)] CT (0, 0)) := (hg.block c hcl (fun e => h.ne e.symm)).trans h.cell
  have hne' : V'.ownBlock ≠ some c := by
    rcases hn with e | e
    · rw [e]; exact h.ne
    · rw [e]; intro e2; cases e2; omega
  have hnew : V'.ownBlock = V.ownBlock ∨ ∀ b, V'.ownBlock = some b → w.heap.size ≤ b := by
    rcases hn with e | e
    · exact .inl e
    · exact .inr fun b hb => by rw [e] at hb; cases hb; exact Nat.le_refl _
  have hk : ∀ {m0 : Fm} {s0 : Fp}, FrOk T W0 w c V.ownBlock m0 s0 → FrOk T W0 (w'.setCell ⟨c, 0, none⟩ V') c V'.ownBlock m0 s0 := fun h0 =>
    h0.keep (by have := hg.size; simpa using this) (fun b hlt hbc hbr => (hb b hbc).trans (hg.block b hlt (fun e => hbr e.symm))) hnew
  refine ⟨heap_set hc' 0 _, ?_, by simp [h.len], fun i x y hx hy => ?_, ?_, h.le, hne'⟩
  · rw [flatF_append, List.length_append]
    refine ⟨hr.1, ?_⟩
    rcases hr.2 with e | ⟨g, C, cur, e, h2, h3, h4⟩
    · exact .inl e
    · exact .inr ⟨g, C, cur, e, h2, (hb g (fun e2 => hne' (by rw [e, e2]; rfl))).trans h3, h4⟩
  · rcases Nat.lt_or_ge i ms.length with hi | hi
    · rw [List.getElem?_append_left hi] at hx
      rw [List.getElem?_append_left (by have := h.len; omega)] at hy
      exact hk (h.fr i x y hx hy)
    · have hin : i = ms.length := by
        have := (List.getElem?_eq_some_iff.1 hx).1
        simp at this; omega
      subst hin
      rw [get_snoc] at hx
      rw [h.len, get_snoc] at hy
      cases hx; cases hy
      exact hk hF
  · have hW : Ext W0 w' := h.ext.grown hg h.ext.size fun k hk => (World.ownsRow.lt h.row k hk).1
    exact hW.setCell h.le _
end
end Go.QS
