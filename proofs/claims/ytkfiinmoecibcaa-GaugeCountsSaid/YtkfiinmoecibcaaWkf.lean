/- Contracts: the document's Level and Buckets of a trie. -/
import Derived.Test.YtkfiinmoecibcaaM23
import Derived.Test.YtkfiinmoecibcaaM21
import Derived.Deep.LoopGhost
import Derived.Deep.DeepCutAuto
set_option linter.unusedVariables false
set_option linter.unusedSimpArgs false
namespace Go.QS
open Go.RowKit Go.QS.Nk
/-- What hangs at each chunk of the document's node: no kid, or one that C tells of. -/
def Hang (A : Array Value) (xs : List (List WT)) (C : Nat → WT → Prop) : Prop := xs.length = 32 ∧ ∀ c, c < 32 →
  (xs[c]? = some [] ∧ ∃ i : Nat, A[2 + c]? = some (.int .i64 (i : Int)) ∧ i ≠ 2) ∨ (∃ u q, xs[c]? = some [u] ∧ A[2 + c]? = some (.int .i64 2) ∧ A[98 + c]? = some (ptr q) ∧ C q u)
theorem flat_snoc {xs : List (List WT)} {c : Nat} {x : List WT} (h : xs[c]? = some x) : (xs.take (c + 1)).flatten = (xs.take c).flatten ++ x := by
  rw [take_snoc h, List.flatten_append]; simp
theorem flat_sub (xs : List (List WT)) (c : Nat) : xs.flatten = (xs.take c).flatten ++ (xs.drop c).flatten := by
  rw [← List.flatten_append, List.take_append_drop]
theorem bksL_append (a b : List WT) : bksL (a ++ b) = bksL a + bksL b := by
  induction a with
  | nil => simp [bksL]
  | cons t a ih => rw [List.cons_append, bksL_cons, bksL_cons, ih]; omega
theorem mostL_append (a b : List WT) : mostL (a ++ b) = max (mostL a) (mostL b) := by
  induction a with
  | nil => simp [mostL]
  | cons t a ih => rw [List.cons_append, mostL_cons, mostL_cons, ih]; omega
/-- The kids of a trie by their chunks. -/
def hung (H : List UInt8 → Nat) (f : Nat) (l : List Pr) : List (List WT) := (parts H (12 - f) l).map fun x => if 2 ≤ x.length then [trieOf H f x] else []
theorem hung_flat (H : List UInt8 → Nat) (f : Nat) (l : List Pr) : (hung H f l).flatten = (trieOf H (f + 1) l).ks := by
  unfold hung
  simp only [trieOf, WT.ks_mk]
  generalize parts H (12 - f) l = xs
  induction xs with
  | nil => rfl
  | cons x xs ih =>
    rw [List.map_cons, List.flatten_cons, ih]
    by_cases h : 2 ≤ x.length
    · rw [if_pos h]
      have e : twos (x :: xs) = x :: twos xs := by simp [twos, h]
      rw [e]; rfl
    · rw [if_neg h]
      have e : twos (x :: xs) = twos xs := by simp [twos, h]
      rw [e]; rfl
theorem hang_zero {A : Array Value} (C : Nat → WT → Prop) (h : ∀ c, c < 32 → A[2 + c]? = some (.int .i64 0)) : Hang A (List.replicate 32 []) C :=
  ⟨by simp, fun c hc => .inl ⟨by rw [List.getElem?_replicate]; simp [hc], 0, h c hc, by decide⟩⟩
end Go.QS
namespace Go.Proofs.Ytkfiinmoecibcaa
open Go.RowKit Go.QS Go.QS.Nk
set_option linter.unusedVariables false

theorem hang_succ {H : List UInt8 → Nat} {w : World} {f : Nat} {A : Array Value} {l : List Pr} {C : Nat → WT → Prop} (h : ∀ c, c < 32 → EntOk (DR H w f) A c (Go.QS.part H (12 - f) c l)) (hl : l.length ≤ 100000)
    (hC : ∀ q x, DR H w f q x → x.length ≤ 100000 → C q (trieOf H f x)) : Hang A (hung H f l) C := by
  refine ⟨by simp [hung, parts_length], fun c hc => ?_⟩
  have hg : (hung H f l)[c]? = some (if 2 ≤ (Go.QS.part H (12 - f) c l).length then [trieOf H f (Go.QS.part H (12 - f) c l)] else []) := by
    unfold hung
    rw [List.getElem?_map, parts_get H _ l hc]; rfl
  rcases h c hc with ⟨h0, b0⟩ | ⟨p, h0, b0, _, _⟩ | ⟨h2, q, b0, b1, hR⟩
  · rw [h0] at hg
    exact .inl ⟨by simpa using hg, 0, b0, by decide⟩
  · rw [h0] at hg
    exact .inl ⟨by simpa using hg, 1, b0, by decide⟩
  · rw [if_pos h2] at hg
    exact .inr ⟨_, q, hg, b0, b1, hC q _ hR (Nat.le_trans part_length hl)⟩

def LevOk (w : World) (k : Nat) (q : Nat) (u : WT) : Prop := ∀ W, Ext w W → Calls Try.prog 29 #[ptr q, .int .i64 (k : Int)] W fun e w' => e = .returned (.int .i64 (((lay k [u]).length : Nat) : Int)) ∧ Ext W w'

set_option maxRecDepth 100000 in
set_option maxHeartbeats 1000000 in
theorem level0_c (w : World) (q : Nat) (u : WT) : LevOk w 0 q u := by
  intro W fW
  clear fW
  go_enter Try.func29, Try.ntmps29
  repeat' (first | go_skip | go_guarded | go_step)
  go_ret
  exact ⟨rfl, Ext.refl _⟩

set_option maxRecDepth 100000 in
set_option maxHeartbeats 1000000 in
theorem level_go (w : World) (q k : Nat) (A : Array Value) (xs : List (List WT)) (hq : w.heap[q]? = some (.cells A TT (0, 0))) (hA : Hang A xs (LevOk w k)) (h9 : (lay k xs.flatten).length ≤ 1000000000) (hk9 : k ≤ 1000000) :
    ∀ W, Ext w W → Calls Try.prog 29 #[ptr q, .int .i64 ((k + 1 : Nat) : Int)] W fun e w' => e = .returned (.int .i64 (((lay k xs.flatten).length : Nat) : Int)) ∧ Ext W w' := by
  intro W fW
  have HA := Lib.hid (And.intro hA (And.intro hq fW))
  have hk0 : ¬ ((k : Int) + 1 = 0) := by omega
  have d0 : ((k : Int) + 1 == 0) = false := by rw [beq_eq_false_iff_ne]; exact hk0
  clear hA hq fW
  go_enter Try.func29, Try.ntmps29
  repeat' (go_not_at_region 5; (first | go_skip | go_guarded | go_step))
  go_loopg [5, 6] 32 (fun gk v5 v6 wr => ∃ (c n : Nat), v6 = .int .i64 c ∧ v5 = .int .i64 n ∧ c ≤ 32 ∧ 32 - c ≤ gk ∧ Hid (n = (lay k (xs.take c).flatten).length ∧ Ext W wr))
  case atStart => exact ⟨0, 0, rfl, rfl, Nat.zero_le _, by omega, Lib.hid ⟨by rw [List.take_zero, List.flatten_nil, lay_nil]; rfl, Ext.refl _⟩⟩
  case round =>
    obtain ⟨c, n, rfl, rfl, hc, hgk, HI⟩ := hrel
    rcases Nat.lt_or_ge c 32 with hlt | hge
    · have d1 : decide (c < 32) = true := by simp [hlt]
      have hc1 : (c : Int) < 32 := by omega
      have hc0 : (0 : Int) ≤ (c : Int) := by omega
      have hqr := (Ext.trans HA.out.2.2 HI.out.2).block q (heap_lt HA.out.2.1) |>.trans HA.out.2.1
      rcases HA.out.1.2 c hlt with ⟨hx, i, b0, hi⟩ | ⟨u, q2, hx, b0, b1, hC⟩
      · have z0 := cell_at hqr b0
        have hi2 : ¬ ((i : Int) = 2) := by omega
        have d2 : ((i : Int) == 2) = false := by rw [beq_eq_false_iff_ne]; exact hi2
        have HX := Lib.hid (flat_snoc hx)
        clear hqr b0 hx
        repeat' (first | go_skip | go_guarded | go_step)
        go_roundg (32 - (c + 1))
        case measure => omega
        case rel => exact ⟨c + 1, n, by go_num, rfl, by omega, Nat.le_refl _, Lib.hid ⟨by rw [HX.out, List.append_nil]; exact HI.out.1, HI.out.2⟩⟩
      · have z0 := cell_at hqr b0
        have z1 := cell_at hqr b1
        have HX := Lib.hid (flat_snoc hx)
        have HC := Lib.hid (hC wr (Ext.trans HA.out.2.2 HI.out.2))
        have hsum : n + (lay k [u]).length ≤ 1000000000 := by
          have h1 := HI.out.1
          have h2 := flat_sub xs (c + 1)
          rw [HX.out] at h2
          rw [h2, lay_append, lay_append, List.length_append, List.length_append] at h9
          omega
        obtain ⟨m, hm⟩ : ∃ m, m = (lay k [u]).length := ⟨_, rfl⟩
        rw [← hm] at HC hsum
        have HM := Lib.hid hm
        have hs1 : ((k : Int) + 1 - 1) = (k : Int) := by omega
        clear hqr b0 b1 hx hC hm
        repeat' (first | go_at_call 29 | go_skip | go_guarded | go_step)
        refine HC.out.mono ?_
        rintro e w2 ⟨rfl, f2⟩
        have H2 := Lib.hid (Ext.trans HI.out.2 f2)
        clear f2 z0 z1 HC
        go_simp
        repeat' (first | go_skip | go_guarded | go_step)
        go_roundg (32 - (c + 1))
        case measure => omega
        case rel => exact ⟨c + 1, n + m, by go_num, by go_num, by omega, Nat.le_refl _, Lib.hid ⟨by rw [HX.out, lay_append, List.length_append, ← HI.out.1, ← HM.out], H2.out⟩⟩
    · obtain rfl : c = 32 := by omega
      have htk : xs.take 32 = xs := List.take_of_length_le (by have := HA.out.1.1; omega)
      repeat' (first | go_skip | go_guarded | go_step)
      go_ret
      exact ⟨by rw [HI.out.1, htk]; rfl, HI.out.2⟩
theorem level_c {H : List UInt8 → Nat} {w : World} : ∀ (k f : Nat) (q : Nat) (l : List Pr), DR H w f q l → l.length ≤ 100000 → k ≤ 1000 → f ≤ 13 → LevOk w k q (trieOf H f l)
  | 0, f, q, l, _, _, _, _ => level0_c w q _
  | k + 1, 0, q, l, ⟨A, v, hq, a0, a1, hP, hZ⟩, h9, hk, _ => by
    have := level_go w q k A (List.replicate 32 []) hq (hang_zero _ hZ) (by rw [show (List.replicate 32 ([] : List WT)).flatten = [] by simp, lay_nil]; simp) (by omega)
    rw [show (List.replicate 32 ([] : List WT)).flatten = [] by simp] at this
    exact this
  | k + 1, f + 1, q, l, ⟨A, hq, a0, hE, hL⟩, h9, hk, hf => by
    have hH := hang_succ (C := LevOk w k) hE h9 fun q' x hD hx => level_c k f q' x hD hx (by omega) (by omega)
    have h0 := cnt_trie H (f + 1) l
    have h1 := lay_le (trieOf H (f + 1) l) (k + 1)
    have h2 : (f + 1) * l.length ≤ 13 * 100000 := Nat.mul_le_mul hf h9
    have e : lay (k + 1) [trieOf H (f + 1) l] = lay k (hung H f l).flatten := by rw [hung_flat]; simp [lay]
    have := level_go w q k A (hung H f l) hq hH (by rw [← e]; omega) (by omega)
    rw [← e] at this
    exact this

def BksOk (w : World) (q : Nat) (u : WT) : Prop := ∀ W, Ext w W → Calls Try.prog 30 #[ptr q] W fun e w' => e = .returned (.tuple #[.int .i64 (bksT u : Int), .int .i64 (mostT u : Int)]) ∧ Ext W w'

set_option maxRecDepth 100000 in
set_option maxHeartbeats 1000000 in
theorem bks_zero {H : List UInt8 → Nat} {w : World} {q : Nat} {l : List Pr} (hD : DR H w 0 q l) : BksOk w q (trieOf H 0 l) := by
  intro W fW
  obtain ⟨A, v, hq, a0, a1, hP, _⟩ := DR.ext fW 0 hD
  obtain ⟨A1, C1, rfl, _, _, _, _⟩ := hP
  have z0 := cell_at hq a0
  have z1 := cell_at hq a1
  have e1 : bksT (trieOf H 0 l) = 1 := by simp [trieOf, bksT, bksL]
  have e2 : mostT (trieOf H 0 l) = l.length := by simp [trieOf, mostT, mostL]
  rw [e1, e2]
  clear hq a0 a1 hD fW e1 e2
  go_enter Try.func30, Try.ntmps30
  repeat' (go_not_at_region 2; (first | go_skip | go_guarded | go_step))
  go_quiet (fail)
  repeat' (first | go_skip | go_guarded | go_step)
  go_ret2
  exact ⟨rfl, below_drewN (Ext.refl _) nq⟩

set_option maxRecDepth 100000 in
set_option maxHeartbeats 1000000 in
theorem bks_go (w : World) (q : Nat) (A : Array Value) (xs : List (List WT)) (hq : w.heap[q]? = some (.cells A TT (0, 0))) (ha : A[0]? = some (.bool false)) (hA : Hang A xs (BksOk w)) (h9 : bksL xs.flatten ≤ 1000000000) (hm9 : mostL xs.flatten ≤ 1000000000) :
    ∀ W, Ext w W → Calls Try.prog 30 #[ptr q] W fun e w' => e = .returned (.tuple #[.int .i64 (bksL xs.flatten : Int), .int .i64 (mostL xs.flatten : Int)]) ∧ Ext W w' := by
  intro W fW
  have zb := cell_at ((fW.block q (heap_lt hq)).trans hq) ha
  have HA := Lib.hid (And.intro hA (And.intro hq fW))
  clear hA hq fW ha
  go_enter Try.func30, Try.ntmps30
  repeat' (go_not_at_region 5; (first | go_skip | go_guarded | go_step))
  clear zb
  go_loopg [4, 5, 6, 7, 8] 32 (fun gk v4 v5 v6 v7 v8 wr => ∃ (c n m : Nat), v6 = .int .i64 c ∧ v4 = .int .i64 n ∧ v5 = .int .i64 m ∧ c ≤ 32 ∧ 32 - c ≤ gk ∧ Hid (n = bksL (xs.take c).flatten ∧ m = mostL (xs.take c).flatten ∧ Ext W wr))
  case atStart => exact ⟨0, 0, 0, rfl, rfl, rfl, Nat.zero_le _, by omega, Lib.hid ⟨rfl, rfl, Ext.refl _⟩⟩
  case round =>
    obtain ⟨c, n, m, rfl, rfl, rfl, hc, hgk, HI⟩ := hrel
    rcases Nat.lt_or_ge c 32 with hlt | hge
    · have d1 : decide (c < 32) = true := by simp [hlt]
      have hc1 : (c : Int) < 32 := by omega
      have hc0 : (0 : Int) ≤ (c : Int) := by omega
      have hqr := (Ext.trans HA.out.2.2 HI.out.2.2).block q (heap_lt HA.out.2.1) |>.trans HA.out.2.1
      rcases HA.out.1.2 c hlt with ⟨hx, i, b0, hi⟩ | ⟨u, q2, hx, b0, b1, hC⟩
      · have z0 := cell_at hqr b0
        have hi2 : ¬ ((i : Int) = 2) := by omega
        have d2 : ((i : Int) == 2) = false := by rw [beq_eq_false_iff_ne]; exact hi2
        have HX := Lib.hid (flat_snoc hx)
        clear hqr b0 hx
        repeat' (first | go_skip | go_guarded | go_step)
        go_roundg (32 - (c + 1))
        case measure => omega
        case rel => exact ⟨c + 1, n, m, by go_num, rfl, rfl, by omega, Nat.le_refl _, Lib.hid ⟨by rw [HX.out, List.append_nil]; exact HI.out.1, by rw [HX.out, List.append_nil]; exact HI.out.2.1, HI.out.2.2⟩⟩
      · have z0 := cell_at hqr b0
        have z1 := cell_at hqr b1
        have HX := Lib.hid (flat_snoc hx)
        have HC := Lib.hid (hC wr (Ext.trans HA.out.2.2 HI.out.2.2))
        have hsum : n + bksT u ≤ 1000000000 := by
          have h1 := HI.out.1
          have h2 := flat_sub xs (c + 1)
          rw [HX.out] at h2
          rw [h2, bksL_append, bksL_append] at h9
          simp only [bksL] at h9
          omega
        have hX1 : bksL (xs.take (c + 1)).flatten = n + bksT u := by rw [HX.out, bksL_append, ← HI.out.1]; simp [bksL]
        have hX2 : mostL (xs.take (c + 1)).flatten = max m (mostT u) := by rw [HX.out, mostL_append, ← HI.out.2.1]; simp [mostL]
        obtain ⟨a, ha⟩ : ∃ a, a = bksT u := ⟨_, rfl⟩
        obtain ⟨b, hb⟩ : ∃ b, b = mostT u := ⟨_, rfl⟩
        rw [← ha, ← hb] at HC
        rw [← ha] at hsum hX1
        rw [← hb] at hX2
        have HM := Lib.hid (And.intro hX1 hX2)
        clear hqr b0 b1 hx hC ha hb hX1 hX2
        repeat' (first | go_at_call 30 | go_skip | go_guarded | go_step)
        refine HC.out.mono ?_
        rintro e w2 ⟨rfl, f2⟩
        have H2 := Lib.hid (Ext.trans HI.out.2.2 f2)
        clear f2 z0 z1 HC
        go_simp
        rcases Nat.lt_or_ge m b with hmb | hmb
        · have d3 : decide (m < b) = true := by simp [hmb]
          have hmi : (m : Int) < (b : Int) := by omega
          have hmx : max m b = b := by omega
          repeat' (first | go_skip | go_guarded | go_step)
          go_roundg (32 - (c + 1))
          case measure => omega
          case rel => exact ⟨c + 1, n + a, b, by go_num, by go_num, rfl, by omega, Nat.le_refl _, Lib.hid ⟨HM.out.1.symm, by rw [HM.out.2, hmx], H2.out⟩⟩
        · have d3 : decide (m < b) = false := by simp; omega
          have hmi : ¬ (m : Int) < (b : Int) := by omega
          have hmx : max m b = m := by omega
          repeat' (first | go_skip | go_guarded | go_step)
          go_roundg (32 - (c + 1))
          case measure => omega
          case rel => exact ⟨c + 1, n + a, m, by go_num, by go_num, rfl, by omega, Nat.le_refl _, Lib.hid ⟨HM.out.1.symm, by rw [HM.out.2, hmx], H2.out⟩⟩
    · obtain rfl : c = 32 := by omega
      have htk : xs.take 32 = xs := List.take_of_length_le (by have := HA.out.1.1; omega)
      repeat' (first | go_skip | go_guarded | go_step)
      go_ret2
      exact ⟨by rw [HI.out.1, HI.out.2.1, htk]; rfl, HI.out.2.2⟩
theorem bksL_cnt : ∀ l : List WT, (∀ t ∈ l, bksT t ≤ cntT t) → bksL l ≤ cntL l
  | [], _ => Nat.le_refl _
  | t :: r, h => by
    have := bksL_cnt r fun u hu => h u (List.mem_cons_of_mem _ hu)
    have := h t (List.mem_cons_self ..)
    rw [bksL_cons, cntL_cons]; omega
theorem most_prs (H : List UInt8 → Nat) : ∀ (f : Nat) (l : List Pr), mostT (trieOf H f l) ≤ l.length
  | 0, l => by simp [trieOf, mostT, mostL]
  | f + 1, l => by
    rw [mostT_eq]
    simp only [trieOf, WT.b_mk, WT.ks_mk, Bool.false_eq_true, if_false]
    have key : ∀ xs : List (List Pr), (∀ x ∈ xs, x.length ≤ l.length) → mostL (xs.map (trieOf H f)) ≤ l.length := by
      intro xs
      induction xs with
      | nil => intro _; simp [mostL]
      | cons x xs ih =>
        intro hx
        have h1 := most_prs H f x
        have h2 := hx x (List.mem_cons_self ..)
        have h3 := ih fun y hy => hx y (List.mem_cons_of_mem _ hy)
        rw [List.map_cons, mostL_cons]
        omega
    have := key _ fun x hx => part_le (twos_two (xs := parts H (12 - f) l) hx).2
    omega
theorem buckets_c {H : List UInt8 → Nat} {w : World} : ∀ (f : Nat) (q : Nat) (l : List Pr), DR H w f q l → l.length ≤ 100000 → f ≤ 13 → BksOk w q (trieOf H f l)
  | 0, q, l, hD, _, _ => bks_zero hD
  | f + 1, q, l, ⟨A, hq, a0, hE, hL⟩, h9, hf => by
    have hH := hang_succ (C := BksOk w) hE h9 fun q' x hD hx => buckets_c f q' x hD hx (by omega)
    have h0 := cnt_trie H (f + 1) l
    have hb := bks_trie H (f + 1) l
    have h1 := lay_le (trieOf H (f + 1) l) (f + 1)
    have h2 : (f + 1) * l.length ≤ 13 * 100000 := Nat.mul_le_mul hf h9
    have e1 : bksT (trieOf H (f + 1) l) = bksL (hung H f l).flatten := by rw [hung_flat, bksT_eq]; simp [trieOf]
    have e2 : mostT (trieOf H (f + 1) l) = mostL (hung H f l).flatten := by rw [hung_flat, mostT_eq]; simp [trieOf]
    have h3 := most_prs H (f + 1) l
    have := bks_go w q A (hung H f l) hq a0 hH (by omega) (by omega)
    rw [← e1, ← e2] at this
    exact this
end Go.Proofs.Ytkfiinmoecibcaa
