/- Texts joined. -/
import Derived.Test.YtkfiinmoecibcaaM22
import Derived.Test.YtkfiinmoecibcaaM03
import Derived.Laws.Rows
import Derived.Deep.LoopGhost
set_option linter.unusedVariables false
set_option linter.unusedSimpArgs false
/- The trie of a list: how many nodes, pairs, levels; its walk has just the list's pairs. No program. -/
namespace Go.QS
open Go.RowKit Go.QS.Nk

theorem ones_e (xs : List (List Pr)) : ones ([] :: xs) = ones xs ∧ twos ([] :: xs) = twos xs := ⟨rfl, rfl⟩
theorem ones_p (p : Pr) (xs : List (List Pr)) : ones ([p] :: xs) = p :: ones xs ∧ twos ([p] :: xs) = twos xs := ⟨rfl, rfl⟩
theorem ones_t (a b : Pr) (r : List Pr) (xs : List (List Pr)) : ones ((a :: b :: r) :: xs) = ones xs ∧ twos ((a :: b :: r) :: xs) = (a :: b :: r) :: twos xs := ⟨rfl, by simp [twos]⟩
theorem ones_sum : ∀ xs : List (List Pr), (ones xs).length + sumL (twos xs) = sumL xs
  | [] => rfl
  | x :: xs => by
    have ih := ones_sum xs
    match x with
    | [] => rw [(ones_e xs).1, (ones_e xs).2, ih]; simp [sumL]
    | [p] => rw [(ones_p p xs).1, (ones_p p xs).2]; simp only [sumL, List.length_cons, List.length_nil]; omega
    | a :: b :: r => rw [(ones_t a b r xs).1, (ones_t a b r xs).2]; simp only [sumL, List.length_cons]; omega
theorem parts_upto (H : List UInt8 → Nat) (lv : Nat) (l : List Pr) : ∀ n, sumL ((List.range n).map fun c => part H lv c l) = (l.filter fun p => decide (chk (H p.1) lv < n)).length
  | 0 => by
    have e : (l.filter fun p => decide (chk (H p.1) lv < 0)) = [] := List.filter_eq_nil_iff.2 fun p _ => by simp
    rw [e]; rfl
  | n + 1 => by
    rw [List.range_succ, List.map_append, sumL_append, parts_upto H lv l n, parts_len]
    simp [sumL]
theorem parts_sum_all (H : List UInt8 → Nat) (lv : Nat) (l : List Pr) : sumL (parts H lv l) = l.length := by
  unfold parts
  rw [parts_upto, List.filter_eq_self.2]
  intro p _
  exact decide_eq_true (chk_lt _ _)
theorem twos_two {xs : List (List Pr)} {x : List Pr} (h : x ∈ twos xs) : 2 ≤ x.length ∧ x ∈ xs := by
  have := List.mem_filter.1 h
  exact ⟨by simpa using this.2, this.1⟩
theorem sumL_two : ∀ {xs : List (List Pr)}, (∀ x ∈ xs, 2 ≤ x.length) → 2 * xs.length ≤ sumL xs
  | [], _ => Nat.zero_le _
  | x :: xs, h => by
    have ih := sumL_two (xs := xs) fun y hy => h y (List.mem_cons_of_mem _ hy)
    have := h x (List.mem_cons_self ..)
    simp only [sumL, List.length_cons]; omega
theorem part_le {H : List UInt8 → Nat} {lv : Nat} {l x : List Pr} (h : x ∈ parts H lv l) : x.length ≤ l.length := by
  obtain ⟨c, _, rfl⟩ := List.mem_map.1 h
  exact part_length

theorem prsL_trie (H : List UInt8 → Nat) (f : Nat) (ih : ∀ l, prsT (trieOf H f l) = l.length) : ∀ xs : List (List Pr), prsL (xs.map (trieOf H f)) = sumL xs
  | [] => rfl
  | x :: xs => by rw [List.map_cons, prsL_cons, ih, prsL_trie H f ih xs]; rfl
theorem prs_trie (H : List UInt8 → Nat) : ∀ (f : Nat) (l : List Pr), prsT (trieOf H f l) = l.length
  | 0, l => by rw [prsT_eq]; simp [trieOf, prsL]
  | f + 1, l => by
    rw [prsT_eq]
    simp only [trieOf, WT.ps_mk, WT.ks_mk]
    rw [prsL_trie H f (prs_trie H f), ones_sum, parts_sum_all]
theorem cntL_trie (H : List UInt8 → Nat) (f : Nat) (ih : ∀ l, cntT (trieOf H f l) ≤ 1 + f * l.length) : ∀ xs : List (List Pr), cntL (xs.map (trieOf H f)) ≤ xs.length + f * sumL xs
  | [] => by simp [cntL]
  | x :: xs => by
    have h1 := ih x
    have h2 := cntL_trie H f ih xs
    rw [List.map_cons, cntL_cons]
    simp only [sumL, List.length_cons, Nat.mul_add]; omega
theorem cnt_trie (H : List UInt8 → Nat) : ∀ (f : Nat) (l : List Pr), cntT (trieOf H f l) ≤ 1 + f * l.length
  | 0, l => by rw [cntT_eq]; simp [trieOf, cntL]
  | f + 1, l => by
    rw [cntT_eq]
    simp only [trieOf, WT.ks_mk]
    have h1 := cntL_trie H f (cnt_trie H f) (twos (parts H (12 - f) l))
    have h2 := ones_sum (parts H (12 - f) l)
    rw [parts_sum_all] at h2
    have h3 := sumL_two (xs := twos (parts H (12 - f) l)) fun x hx => (twos_two hx).1
    have h4 : f * sumL (twos (parts H (12 - f) l)) ≤ f * l.length := Nat.mul_le_mul_left _ (by omega)
    rw [Nat.add_mul]; omega
theorem htL_trie (H : List UInt8 → Nat) (f : Nat) (ih : ∀ l, htT (trieOf H f l) ≤ f + 1) : ∀ xs : List (List Pr), htL (xs.map (trieOf H f)) ≤ f + 1
  | [] => by simp [htL]
  | x :: xs => by rw [List.map_cons, htL_cons]; exact Nat.max_le.2 ⟨ih x, htL_trie H f ih xs⟩
theorem ht_trie (H : List UInt8 → Nat) : ∀ (f : Nat) (l : List Pr), htT (trieOf H f l) ≤ f + 1
  | 0, l => by rw [htT_eq]; simp [trieOf, htL]
  | f + 1, l => by
    rw [htT_eq]
    simp only [trieOf, WT.ks_mk]
    have := htL_trie H f (ht_trie H f) (twos (parts H (12 - f) l))
    omega
/-- The buckets are the nodes of the last level. -/
theorem bks_trie (H : List UInt8 → Nat) : ∀ (f : Nat) (l : List Pr), bksT (trieOf H f l) = (lay f [trieOf H f l]).length
  | 0, l => by rw [bksT_eq]; simp [trieOf, bksL, lay]
  | f + 1, l => by
    rw [bksT_eq]
    have e : lay (f + 1) [trieOf H (f + 1) l] = lay f ((twos (parts H (12 - f) l)).map (trieOf H f)) := by simp [lay, trieOf]
    rw [e]
    simp only [trieOf, WT.ks_mk, WT.b_mk, Bool.false_eq_true, if_false, Nat.zero_add]
    generalize twos (parts H (12 - f) l) = xs
    induction xs with
    | nil => rw [List.map_nil, lay_nil]; rfl
    | cons x xs ih =>
      rw [List.map_cons, bksL_cons, bks_trie H f x, ih, show trieOf H f x :: xs.map (trieOf H f) = [trieOf H f x] ++ xs.map (trieOf H f) from rfl, lay_append, List.length_append]
theorem most_trie (H : List UInt8 → Nat) : ∀ (f : Nat) (l : List Pr), 2 ≤ l.length ∨ 0 < f → mostT (trieOf H f l) ≠ 1
  | 0, l, h => by
    rw [mostT_eq]
    simp only [trieOf, WT.b_mk, WT.ps_mk, WT.ks_mk, if_true, mostL]
    omega
  | f + 1, l, _ => by
    rw [mostT_eq]
    simp only [trieOf, WT.b_mk, WT.ks_mk, Bool.false_eq_true, if_false]
    have key : ∀ xs : List (List Pr), (∀ x ∈ xs, 2 ≤ x.length) → mostL (xs.map (trieOf H f)) ≠ 1 := by
      intro xs
      induction xs with
      | nil => intro _; simp [mostL]
      | cons x xs ih =>
        intro hx
        have h1 := most_trie H f x (.inl (hx x (List.mem_cons_self ..)))
        have h2 := ih fun y hy => hx y (List.mem_cons_of_mem _ hy)
        rw [List.map_cons, mostL_cons]
        omega
    have := key _ fun x hx => (twos_two (xs := parts H (12 - f) l) hx).1
    omega

/-! ### Its walk has just the list's pairs -/
theorem ones_perm : ∀ xs : List (List Pr), (ones xs ++ (twos xs).flatten).Perm xs.flatten
  | [] => List.Perm.refl _
  | x :: xs => by
    have ih := ones_perm xs
    match x with
    | [] => rw [(ones_e xs).1, (ones_e xs).2]; simpa using ih
    | [p] => rw [(ones_p p xs).1, (ones_p p xs).2]; simpa using ih
    | a :: b :: r =>
      have e1 : ones ((a :: b :: r) :: xs) = ones xs := rfl
      have e2 : twos ((a :: b :: r) :: xs) = (a :: b :: r) :: twos xs := by simp [twos]
      rw [e1, e2, List.flatten_cons, List.flatten_cons]
      have h1 : (ones xs ++ ((a :: b :: r) ++ (twos xs).flatten)).Perm ((a :: b :: r) ++ (ones xs ++ (twos xs).flatten)) := by
        rw [← List.append_assoc, ← List.append_assoc]
        exact List.Perm.append_right _ List.perm_append_comm
      exact h1.trans (List.Perm.append_left _ ih)
theorem parts_perm_upto (H : List UInt8 → Nat) (lv : Nat) (l : List Pr) : ∀ n, ((List.range n).map fun c => part H lv c l).flatten.Perm (l.filter fun p => decide (chk (H p.1) lv < n))
  | 0 => by
    have e : (l.filter fun p => decide (chk (H p.1) lv < 0)) = [] := List.filter_eq_nil_iff.2 fun p _ => by simp
    rw [e]; exact List.Perm.refl _
  | n + 1 => by
    rw [List.range_succ, List.map_append, List.flatten_append]
    have ih := parts_perm_upto H lv l n
    refine (List.Perm.append_right _ ih).trans ?_
    simp only [List.map_cons, List.map_nil, List.flatten_cons, List.flatten_nil, List.append_nil, part]
    clear ih
    induction l with
    | nil => exact List.Perm.refl _
    | cons p l ih =>
      rcases Nat.lt_trichotomy (chk (H p.1) lv) n with h | h | h
      · have h1 : chk (H p.1) lv < n + 1 := by omega
        have h2 : ¬ chk (H p.1) lv = n := by omega
        simpa [List.filter_cons, h, h1, h2] using ih
      · have h1 : chk (H p.1) lv < n + 1 := by omega
        have h2 : ¬ chk (H p.1) lv < n := by omega
        simp only [List.filter_cons, h1, h2, h, beq_self_eq_true, decide_true, decide_false, if_true, Bool.false_eq_true, if_false, Nat.lt_irrefl, Nat.lt_succ_self]
        exact List.perm_middle.trans (List.Perm.cons _ (by simpa using ih))
      · have h1 : ¬ chk (H p.1) lv < n + 1 := by omega
        have h2 : ¬ chk (H p.1) lv < n := by omega
        have h3 : ¬ chk (H p.1) lv = n := by omega
        simpa [List.filter_cons, h1, h2, h3] using ih
theorem parts_perm (H : List UInt8 → Nat) (lv : Nat) (l : List Pr) : (parts H lv l).flatten.Perm l := by
  unfold parts
  refine (parts_perm_upto H lv l 32).trans (List.Perm.of_eq ?_)
  rw [List.filter_eq_self]
  intro p _
  exact decide_eq_true (chk_lt _ _)
theorem walk_perm (H : List UInt8 → Nat) : ∀ (f : Nat) (l : List Pr) (d : Nat), ((walkT (trieOf H f l) d).map Prod.fst).Perm l
  | 0, l, d => by
    rw [walkT_eq]
    simp [trieOf, walkL, List.map_map, Function.comp_def]
  | f + 1, l, d => by
    rw [walkT_eq]
    simp only [trieOf, WT.ps_mk, WT.ks_mk, List.map_append, List.map_map, Function.comp_def, List.map_id']
    have key : ∀ xs : List (List Pr), ((walkL (xs.map (trieOf H f)) (d + 1)).map Prod.fst).Perm xs.flatten := by
      intro xs
      induction xs with
      | nil => exact List.Perm.refl _
      | cons x xs ih =>
        rw [List.map_cons, walkL_cons, List.map_append, List.flatten_cons]
        exact List.Perm.append (walk_perm H f x (d + 1)) ih
    refine (List.Perm.append_left _ (key _)).trans ((ones_perm _).trans (parts_perm H _ l))
theorem walk_len (H : List UInt8 → Nat) (f : Nat) (l : List Pr) (d : Nat) : (walkT (trieOf H f l) d).length = l.length := by
  have := (walk_perm H f l d).length_eq
  simpa using this
end Go.QS
/- Contracts: chapter 9's own few, trie. -/
namespace Go.QS
open Go.RowKit Go.QS.Nk
def cutL (l : List Pr) (i : Nat) : List Pr := ((l.take 40).take i).map cutP
theorem cutL_snoc {l : List Pr} {i : Nat} {p : Pr} (h : l[i]? = some p) (hi : i < 40) : cutL l (i + 1) = cutL l i ++ [cutP p] := by
  have : (l.take 40)[i]? = some p := by rw [List.getElem?_take_of_lt hi]; exact h
  rw [cutL, take_snoc this, List.map_append]; rfl
theorem cutL_past {l : List Pr} {i : Nat} (hi : 40 ≤ i) : cutL l i = cutL l 40 := by
  unfold cutL
  rw [List.take_take, List.take_take, Nat.min_eq_right hi, Nat.min_self]
theorem cutL_all {l : List Pr} {i : Nat} (hi : l.length ≤ i) : cutL l i = (l.take 40).map cutP := by
  unfold cutL
  rw [List.take_of_length_le (by rw [List.length_take]; omega)]
theorem cutL_len (l : List Pr) (i : Nat) : (cutL l i).length ≤ 40 := by
  unfold cutL
  simp only [List.length_map, List.length_take]
  omega
theorem cutL_keys (l : List Pr) (i : Nat) : ∀ p ∈ cutL l i, p.1.length ≤ 40 ∧ p.2.length ≤ 40 := by
  intro p hp
  obtain ⟨q, _, rfl⟩ := List.mem_map.1 hp
  exact cutP_short q
theorem rsort_sub (l : List Pr) : ∀ q ∈ rsort l, q ∈ l := by
  have key : ∀ (n : Nat) (l : List Pr), l.length = n → ∀ q ∈ rsort l, q ∈ l := by
    intro n
    induction n with
    | zero => intro l hl q hq; rw [List.eq_nil_of_length_eq_zero hl] at hq; simp [rsort] at hq
    | succ n ih =>
      intro l hl q hq
      rcases List.eq_nil_or_concat l with rfl | ⟨r, x, rfl⟩
      · simp at hl
      · rw [List.concat_eq_append] at hq hl ⊢
        rw [rsort_snoc] at hq
        rcases mem_rput.1 hq with rfl | ⟨h, _⟩
        · simp
        · exact List.mem_append_left _ (ih r (by simpa using hl) q h)
  exact key _ l rfl
/-- The map of the first pairs, cut. -/
def xOf (l : List Pr) : List Pr := rsort ((l.take 40).map cutP)
theorem xOf_ok (l : List Pr) : Rise (xOf l) ∧ (xOf l).length ≤ 40 ∧ ∀ q ∈ xOf l, q.1.length ≤ 40 ∧ q.2.length ≤ 40 := by
  refine ⟨rsort_rise _, ?_, fun q hq => ?_⟩
  · have := rsort_length ((l.take 40).map cutP)
    have h2 : ((l.take 40).map cutP).length ≤ 40 := by simp; omega
    unfold xOf; omega
  · obtain ⟨p, _, rfl⟩ := List.mem_map.1 (rsort_sub _ q hq)
    exact cutP_short p
end Go.QS
namespace Go.Proofs.Ytkfiinmoecibcaa
open Go.RowKit Go.QS Go.QS.Nk
set_option linter.unusedVariables false

set_option maxRecDepth 100000 in
theorem few09_c (w : World) (p : Pr) :
    Calls Try.prog 58 #[.agg #[str p.1, str p.2]] w fun e w' => e = .returned (.agg #[str (cutP p).1, str (cutP p).2]) ∧ Ext w w' := by
  obtain ⟨k, v⟩ := p
  simp only [cutP]
  by_cases h1 : 40 < k.length
  · have d1 : decide (40 < k.length) = true := by simp [h1]
    have b1 : (40 : Int) ≤ (k.length : Int) := by omega
    by_cases h2 : 40 < v.length
    · have d2 : decide (40 < v.length) = true := by simp [h2]
      have b2 : (40 : Int) ≤ (v.length : Int) := by omega
      go_enter Try.func58, Try.ntmps58
      repeat' (first | go_skip | go_guarded | go_step)
      (try simp only [Exit.inBlock, Exit.then]); refine bodyPost_ret_by (results_cell_row rfl _ _ _ _ _ _ _ rfl (heap_alloc2_new _ _ _) Try.underlying40 rfl (by kernel_rfl)) rfl ?_
      exact ⟨rfl, ((Ext.refl w).alloc (Nat.le_refl _) _).alloc (by simp) _⟩
    · have d2 : decide (40 < v.length) = false := by simp; omega
      have e2 : v.take 40 = v := List.take_of_length_le (by omega)
      rw [e2]
      go_enter Try.func58, Try.ntmps58
      repeat' (first | go_skip | go_guarded | go_step)
      (try simp only [Exit.inBlock, Exit.then]); refine bodyPost_ret_by (results_cell_row rfl _ _ _ _ _ _ _ rfl (heap_alloc2_new _ _ _) Try.underlying40 rfl (by kernel_rfl)) rfl ?_
      exact ⟨rfl, ((Ext.refl w).alloc (Nat.le_refl _) _).alloc (by simp) _⟩
  · have d1 : decide (40 < k.length) = false := by simp; omega
    have e1 : k.take 40 = k := List.take_of_length_le (by omega)
    rw [e1]
    by_cases h2 : 40 < v.length
    · have d2 : decide (40 < v.length) = true := by simp [h2]
      have b2 : (40 : Int) ≤ (v.length : Int) := by omega
      go_enter Try.func58, Try.ntmps58
      repeat' (first | go_skip | go_guarded | go_step)
      (try simp only [Exit.inBlock, Exit.then]); refine bodyPost_ret_by (results_cell_row rfl _ _ _ _ _ _ _ rfl (heap_alloc2_new _ _ _) Try.underlying40 rfl (by kernel_rfl)) rfl ?_
      exact ⟨rfl, ((Ext.refl w).alloc (Nat.le_refl _) _).alloc (by simp) _⟩
    · have d2 : decide (40 < v.length) = false := by simp; omega
      have e2 : v.take 40 = v := List.take_of_length_le (by omega)
      rw [e2]
      go_enter Try.func58, Try.ntmps58
      repeat' (first | go_skip | go_guarded | go_step)
      (try simp only [Exit.inBlock, Exit.then]); refine bodyPost_ret_by (results_cell_row rfl _ _ _ _ _ _ _ rfl (heap_alloc2_new _ _ _) Try.underlying40 rfl (by kernel_rfl)) rfl ?_
      exact ⟨rfl, ((Ext.refl w).alloc (Nat.le_refl _) _).alloc (by simp) _⟩
theorem box_free' {w : World} {g : Nat} {p : Pr} (h : PrAt w g p) (j : Nat) : w.frozen? ⟨g, j, none⟩ = false := by
  unfold PrAt at h
  simp [World.frozen?, h]
set_option maxRecDepth 100000 in
set_option maxHeartbeats 1000000 in
theorem trie09_c (h : Hs) (hk : h.Ok) (w : World) (v : Value) (l : List Pr) (hP : PS w v l) :
    Calls Try.prog 27 #[hsV h, v] w fun e w' => ∃ g v', e = .returned (.tuple #[ptr g, v']) ∧ Ext w w' ∧ TR ND h.hash w' 13 g (xOf l) ∧ PS w' v' (xOf l) := by
  obtain ⟨A, c, rfl, hl, hn, hc, hs⟩ := hP
  obtain ⟨n, hn2⟩ : ∃ n, n = l.length := ⟨_, rfl⟩
  have hn9 : n ≤ 9223372036854775807 := by unfold maxLen at hc; omega
  rw [← hn2] at hn ⊢
  have Hn := Lib.hid (And.intro hn2 hs)
  clear hn2 hl hs
  go_enter Try.func27, Try.ntmps27
  repeat' (go_not_at_region 1; (first | go_skip | go_guarded | go_step))
  obtain ⟨gh, hgh⟩ : ∃ g, g = w.heap.size := ⟨_, rfl⟩
  rw [← hgh]
  refine wp_named (fun w' => HsAt w' gh h ∧ Ext w w') ⟨by rw [hgh]; exact heap_new w _, (Ext.refl w).alloc (Nat.le_refl _) _⟩ ?_
  clear hgh
  intro wa HW
  repeat' (first | go_at_call 13 | (go_not_at_region 4; (first | go_skip | go_guarded | go_step)))
  refine (empty_c h wa).mono ?_
  rintro e w0 ⟨g0, rfl, T0, f0⟩
  have H0 : Hid (HsAt w0 gh h ∧ Ext w w0 ∧ TR ND h.hash w0 13 g0 []) := Lib.hid ⟨HW.out.1.ext f0, HW.out.2.trans f0, T0⟩
  clear T0 f0 HW
  go_simp
  repeat' (go_not_at_region 4; (first | go_skip | go_guarded | go_step))
  go_loopg [6, 7, 8, 9, 13] n (fun gk vn vx vi vp vc wr => ∃ i g : Nat, vn = ptr g ∧ vc = .int .i64 i ∧ i ≤ n ∧ n - i ≤ gk ∧ Hid (HsAt wr gh h ∧ Ext w wr ∧ TR ND h.hash wr 13 g (rsort (cutL l i)) ∧ PS wr vx (rsort (cutL l i))))
  case atStart => exact ⟨0, g0, rfl, rfl, Nat.zero_le _, by omega, Lib.hid ⟨H0.out.1, H0.out.2.1, H0.out.2.2, Sl.nil _ _⟩⟩
  case round =>
    obtain ⟨i, g, rfl, rfl, hin, hgk, HI⟩ := hrel
    rcases Nat.lt_or_ge i n with hlt | hge
    · have d1 : decide (i < n) = true := by simp [hlt]
      obtain ⟨p, hp⟩ := get_of_lt l (show i < l.length by have := Hn.out.1; omega)
      obtain ⟨b, o, rfl, hq1, hq2⟩ := seg_pair (Hn.out.2.below HI.out.2.1) hp
      have hi1 : (i : Int) < (n : Int) := by omega
      have HP := Lib.hid hp
      clear hp
      repeat' (go_not_at_region 6; (first | go_skip | go_guarded | go_step))
      obtain ⟨gp, hgp⟩ : ∃ g, g = wr.heap.size := ⟨_, rfl⟩
      rw [← hgp]
      refine wp_named (fun w' => PrAt w' gp p ∧ HsAt w' gh h ∧ Ext w w' ∧ Ext wr w' ∧ wr.heap.size ≤ gp) ⟨by rw [hgp]; exact heap_new wr _, HI.out.1.ext ((Ext.refl _).alloc (Nat.le_refl _) _), HI.out.2.1.alloc HI.out.2.1.size _, (Ext.refl _).alloc (Nat.le_refl _) _, by omega⟩ ?_
      clear hgp hq1 hq2
      intro w1 H1
      have G5 : wr.heap.size ≤ gp := H1.out.2.2.2.2
      by_cases h40 : i < 40
      · have d2 : decide (i < 40) = true := by simp [h40]
        obtain ⟨c1, c2⟩ := H1.out.1.cells
        repeat' (first | go_at_call 58 | go_skip | go_guarded | go_step)
        refine (few09_c _ p).mono ?_
        rintro e w2 ⟨rfl, f2⟩
        obtain ⟨q, hq⟩ : ∃ q, q = cutP p := ⟨_, rfl⟩
        rw [← hq]
        have hql : q.1.length ≤ 40 := by rw [hq]; exact (cutP_short p).1
        have HQ := Lib.hid hq
        have H2 : Hid (PrAt w2 gp p ∧ HsAt w2 gh h ∧ Ext w w2 ∧ Ext wr w2) := Lib.hid ⟨H1.out.1.ext f2, H1.out.2.1.ext f2, H1.out.2.2.1.trans f2, H1.out.2.2.2.1.trans f2⟩
        clear c1 c2 f2 hq
        obtain ⟨c1, c2⟩ := H2.out.1.cells
        have cf := box_free' H2.out.1
        have hgl := heap_lt H2.out.1
        have hne : gh ≠ gp := by
          have := heap_lt HI.out.1
          omega
        go_simp
        repeat' (go_not_at_region 8; (first | go_skip | go_guarded | go_step))
        refine wp_named (fun w' => PrAt w' gp q ∧ HsAt w' gh h ∧ Ext w w' ∧ Ext wr w') ⟨?_, ?_, ?_, ?_⟩ ?_
        · exact heap_set (heap_set H2.out.1 0 _) 1 _
        · exact (Below.heap_setCell _ _ _ _ hne).trans ((Below.heap_setCell _ _ _ _ hne).trans H2.out.2.1)
        · have hle : w.heap.size ≤ gp := Nat.le_trans HI.out.2.1.size G5
          exact (H2.out.2.2.1.setCell hle _).setCell hle _
        · exact (H2.out.2.2.2.setCell G5 _).setCell G5 _
        intro w3 H3
        clear c1 c2 cf hgl H1 H2
        obtain ⟨c1, c2⟩ := H3.out.1.cells
        obtain ⟨e0, e1, e2⟩ := H3.out.2.1.cells
        have hr := rsort_rise (cutL l i)
        have hlen : (rsort (cutL l i)).length ≤ 40 := Nat.le_trans (rsort_length _) (cutL_len l i)
        have HPU := Lib.hid (cput_c h hk w3 (ptr g) _ q (Rot.of (TR.ext H3.out.2.2.2 13 HI.out.2.2.1)) hr (by omega) (fun y hy => by have := (cutL_keys l i y (rsort_sub _ y hy)).1; omega) (by omega))
        clear hr
        repeat' (first | go_at_call 14 | go_skip | go_guarded | go_step)
        refine HPU.out.mono ?_
        rintro e w4 ⟨g4, rfl, t4, f4, _⟩
        have H4 : Hid (PrAt w4 gp q ∧ HsAt w4 gh h ∧ Ext w w4 ∧ Ext wr w4 ∧ TR ND h.hash w4 13 g4 (rput (rsort (cutL l i)) q)) := Lib.hid ⟨H3.out.1.ext f4, H3.out.2.1.ext f4, H3.out.2.2.1.trans f4, H3.out.2.2.2.trans f4, t4⟩
        clear f4 t4 c1 c2 e0 e1 e2 HPU H3
        obtain ⟨c1, c2⟩ := H4.out.1.cells
        go_simp
        repeat' (first | go_at_call 37 | go_skip | go_guarded | go_step)
        refine (rput_c w4 _ (rsort (cutL l i)) q (HI.out.2.2.2.below H4.out.2.2.2.1) (by omega) (by omega)).mono ?_
        rintro e w5 ⟨v5, rfl, o5, f5⟩
        have H5 : Hid (HsAt w5 gh h ∧ Ext w w5 ∧ TR ND h.hash w5 13 g4 (rsort (cutL l (i + 1))) ∧ PS w5 v5 (rsort (cutL l (i + 1)))) := by
          rw [cutL_snoc HP.out h40, ← HQ.out, rsort_snoc]
          exact Lib.hid ⟨H4.out.2.1.ext f5, H4.out.2.2.1.trans f5, TR.ext f5 13 H4.out.2.2.2.2, PS.of_own o5⟩
        clear f5 o5 c1 c2 hql
        go_simp
        repeat' (first | go_skip | go_guarded | go_step)
        go_roundg (n - (i + 1))
        case measure => omega
        case rel => exact ⟨i + 1, g4, rfl, by go_num, by omega, Nat.le_refl _, H5⟩
      · have d2 : decide (i < 40) = false := by simp; omega
        repeat' (first | go_skip | go_guarded | go_step)
        go_roundg (n - (i + 1))
        case measure => omega
        case rel =>
          refine ⟨i + 1, g, rfl, by go_num, by omega, Nat.le_refl _, ?_⟩
          have e1 : cutL l (i + 1) = cutL l i := by rw [cutL_past (show 40 ≤ i + 1 by omega), cutL_past (show 40 ≤ i by omega)]
          rw [e1]
          exact Lib.hid ⟨H1.out.2.1, H1.out.2.2.1, TR.ext H1.out.2.2.2.1 13 HI.out.2.2.1, HI.out.2.2.2.below H1.out.2.2.2.1⟩
    · obtain rfl : i = n := by omega
      have d1 : decide (i < i) = false := by simp
      have hcx : rsort (cutL l i) = xOf l := by rw [cutL_all (by have := Hn.out.1; omega)]; rfl
      rw [hcx] at HI
      repeat' (first | go_skip | go_guarded | go_step)
      go_ret2
      exact ⟨g, _, rfl, HI.out.2.1, HI.out.2.2.1, HI.out.2.2.2⟩
end Go.Proofs.Ytkfiinmoecibcaa
