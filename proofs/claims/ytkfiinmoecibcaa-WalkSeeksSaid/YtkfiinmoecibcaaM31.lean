/- Texts joined. -/
import Derived.Test.YtkfiinmoecibcaaM30
import Derived.Test.YtkfiinmoecibcaaM21
import Derived.Deep.LoopGhost
import Derived.Deep.DeepCutAuto
import Derived.Laws.Rows
import Derived.Laws.ResultCell
import Derived.Deep.QuietTactic
set_option linter.unusedVariables false
set_option linter.unusedSimpArgs false
/- Contracts: the document's Level and Buckets of a trie. -/
namespace Go.QS
open Go.RowKit Go.QS.Nk
/-- What hangs at each chunk of the document's node: no kid, or one that C tells of. -/
def Hang (A : Array Value) (xs : List (List WT)) (C : Nat → WT → Prop) : Prop := xs.length = 32 ∧ ∀ c, c < 32 →
  (xs[c]? = some [] ∧ ∃ i : Nat, A[2 + c]? = some (.int .i64 (i : Int)) ∧ i ≠ 2) ∨ (∃ u q, xs[c]? = some [u] ∧ A[2 + c]? = some (.int .i64 2) ∧ A[98 + c]? = some (ptr q) ∧ C q u)
theorem flat_snoc {xs : List (List WT)} {c : Nat} {x : List WT} (h : xs[c]? = some x) : (xs.take (c + 1)).flatten = (xs.take c).flatten ++ x := by
  rw [take_snoc h, List.flatten_append]; simp
theorem flat_sub (xs : List (List WT)) (c : Nat) : xs.flatten = (xs.take c).flatten ++ (xs.drop c).flatten := by
  rw [← List.flatten_append, List.take_append_drop]
theorem bksL_append (a b : List WT) : bksL (a ++ b) = bksL a + bksL b := by
  induction a with
  | nil => simp [bksL]
  | cons t a ih => rw [List.cons_append, bksL_cons, bksL_cons, ih]; omega
theorem mostL_append (a b : List WT) : mostL (a ++ b) = max (mostL a) (mostL b) := by
  induction a with
  | nil => simp [mostL]
  | cons t a ih => rw [List.cons_append, mostL_cons, mostL_cons, ih]; omega
/-- The kids of a trie by their chunks. -/
def hung (H : List UInt8 → Nat) (f : Nat) (l : List Pr) : List (List WT) := (parts H (12 - f) l).map fun x => if 2 ≤ x.length then [trieOf H f x] else []
theorem hung_flat (H : List UInt8 → Nat) (f : Nat) (l : List Pr) : (hung H f l).flatten = (trieOf H (f + 1) l).ks := by
  unfold hung
  simp only [trieOf, WT.ks_mk]
  generalize parts H (12 - f) l = xs
  induction xs with
  | nil => rfl
  | cons x xs ih =>
    rw [List.map_cons, List.flatten_cons, ih]
    by_cases h : 2 ≤ x.length
    · rw [if_pos h]
      have e : twos (x :: xs) = x :: twos xs := by simp [twos, h]
      rw [e]; rfl
    · rw [if_neg h]
      have e : twos (x :: xs) = twos xs := by simp [twos, h]
      rw [e]; rfl
theorem hang_zero {A : Array Value} (C : Nat → WT → Prop) (h : ∀ c, c < 32 → A[2 + c]? = some (.int .i64 0)) : Hang A (List.replicate 32 []) C :=
  ⟨by simp, fun c hc => .inl ⟨by rw [List.getElem?_replicate]; simp [hc], 0, h c hc, by decide⟩⟩
end Go.QS
namespace Go.Proofs.Ytkfiinmoecibcaa
open Go.RowKit Go.QS Go.QS.Nk
set_option linter.unusedVariables false

theorem hang_succ {H : List UInt8 → Nat} {w : World} {f : Nat} {A : Array Value} {l : List Pr} {C : Nat → WT → Prop} (h : ∀ c, c < 32 → EntOk (DR H w f) A c (Go.QS.part H (12 - f) c l)) (hl : l.length ≤ 100000)
    (hC : ∀ q x, DR H w f q x → x.length ≤ 100000 → C q (trieOf H f x)) : Hang A (hung H f l) C := by
  refine ⟨by simp [hung, parts_length], fun c hc => ?_⟩
  have hg : (hung H f l)[c]? = some (if 2 ≤ (Go.QS.part H (12 - f) c l).length then [trieOf H f (Go.QS.part H (12 - f) c l)] else []) := by
    unfold hung
    rw [List.getElem?_map, parts_get H _ l hc]; rfl
  rcases h c hc with ⟨h0, b0⟩ | ⟨p, h0, b0, _, _⟩ | ⟨h2, q, b0, b1, hR⟩
  · rw [h0] at hg
    exact .inl ⟨by simpa using hg, 0, b0, by decide⟩
  · rw [h0] at hg
    exact .inl ⟨by simpa using hg, 1, b0, by decide⟩
  · rw [if_pos h2] at hg
    exact .inr ⟨_, q, hg, b0, b1, hC q _ hR (Nat.le_trans part_length hl)⟩

def LevOk (w : World) (k : Nat) (q : Nat) (u : WT) : Prop := ∀ W, Ext w W → Calls Try.prog 29 #[ptr q, .int .i64 (k : Int)] W fun e w' => e = .returned (.int .i64 (((lay k [u]).length : Nat) : Int)) ∧ Ext W w'

set_option maxRecDepth 100000 in
set_option maxHeartbeats 1000000 in
theorem level0_c (w : World) (q : Nat) (u : WT) : LevOk w 0 q u := by
  intro W fW
  clear fW
  go_enter Try.func29, Try.ntmps29
  repeat' (first | go_skip | go_guarded | go_step)
  go_ret
  exact ⟨rfl, Ext.refl _⟩

set_option maxRecDepth 100000 in
set_option maxHeartbeats 1000000 in
theorem level_go (w : World) (q k : Nat) (A : Array Value) (xs : List (List WT)) (hq : w.heap[q]? = some (.cells A TT (0, 0))) (hA : Hang A xs (LevOk w k)) (h9 : (lay k xs.flatten).length ≤ 1000000000) (hk9 : k ≤ 1000000) :
    ∀ W, Ext w W → Calls Try.prog 29 #[ptr q, .int .i64 ((k + 1 : Nat) : Int)] W fun e w' => e = .returned (.int .i64 (((lay k xs.flatten).length : Nat) : Int)) ∧ Ext W w' := by
  intro W fW
  have HA := Lib.hid (And.intro hA (And.intro hq fW))
  have hk0 : ¬ ((k : Int) + 1 = 0) := by omega
  have d0 : ((k : Int) + 1 == 0) = false := by rw [beq_eq_false_iff_ne]; exact hk0
  clear hA hq fW
  go_enter Try.func29, Try.ntmps29
  repeat' (go_not_at_region 5; (first | go_skip | go_guarded | go_step))
  go_loopg [5, 6] 32 (fun gk v5 v6 wr => ∃ (c n : Nat), v6 = .int .i64 c ∧ v5 = .int .i64 n ∧ c ≤ 32 ∧ 32 - c ≤ gk ∧ Hid (n = (lay k (xs.take c).flatten).length ∧ Ext W wr))
  case atStart => exact ⟨0, 0, rfl, rfl, Nat.zero_le _, by omega, Lib.hid ⟨by rw [List.take_zero, List.flatten_nil, lay_nil]; rfl, Ext.refl _⟩⟩
  case round =>
    obtain ⟨c, n, rfl, rfl, hc, hgk, HI⟩ := hrel
    rcases Nat.lt_or_ge c 32 with hlt | hge
    · have d1 : decide (c < 32) = true := by simp [hlt]
      have hc1 : (c : Int) < 32 := by omega
      have hc0 : (0 : Int) ≤ (c : Int) := by omega
      have hqr := (Ext.trans HA.out.2.2 HI.out.2).block q (heap_lt HA.out.2.1) |>.trans HA.out.2.1
      rcases HA.out.1.2 c hlt with ⟨hx, i, b0, hi⟩ | ⟨u, q2, hx, b0, b1, hC⟩
      · have z0 := cell_at hqr b0
        have hi2 : ¬ ((i : Int) = 2) := by omega
        have d2 : ((i : Int) == 2) = false := by rw [beq_eq_false_iff_ne]; exact hi2
        have HX := Lib.hid (flat_snoc hx)
        clear hqr b0 hx
        repeat' (first | go_skip | go_guarded | go_step)
        go_roundg (32 - (c + 1))
        case measure => omega
        case rel => exact ⟨c + 1, n, by go_num, rfl, by omega, Nat.le_refl _, Lib.hid ⟨by rw [HX.out, List.append_nil]; exact HI.out.1, HI.out.2⟩⟩
      · have z0 := cell_at hqr b0
        have z1 := cell_at hqr b1
        have HX := Lib.hid (flat_snoc hx)
        have HC := Lib.hid (hC wr (Ext.trans HA.out.2.2 HI.out.2))
        have hsum : n + (lay k [u]).length ≤ 1000000000 := by
          have h1 := HI.out.1
          have h2 := flat_sub xs (c + 1)
          rw [HX.out] at h2
          rw [h2, lay_append, lay_append, List.length_append, List.length_append] at h9
          omega
        obtain ⟨m, hm⟩ : ∃ m, m = (lay k [u]).length := ⟨_, rfl⟩
        rw [← hm] at HC hsum
        have HM := Lib.hid hm
        have hs1 : ((k : Int) + 1 - 1) = (k : Int) := by omega
        clear hqr b0 b1 hx hC hm
        repeat' (first | go_at_call 29 | go_skip | go_guarded | go_step)
        refine HC.out.mono ?_
        rintro e w2 ⟨rfl, f2⟩
        have H2 := Lib.hid (Ext.trans HI.out.2 f2)
        clear f2 z0 z1 HC
        go_simp
        repeat' (first | go_skip | go_guarded | go_step)
        go_roundg (32 - (c + 1))
        case measure => omega
        case rel => exact ⟨c + 1, n + m, by go_num, by go_num, by omega, Nat.le_refl _, Lib.hid ⟨by rw [HX.out, lay_append, List.length_append, ← HI.out.1, ← HM.out], H2.out⟩⟩
    · obtain rfl : c = 32 := by omega
      have htk : xs.take 32 = xs := List.take_of_length_le (by have := HA.out.1.1; omega)
      repeat' (first | go_skip | go_guarded | go_step)
      go_ret
      exact ⟨by rw [HI.out.1, htk]; rfl, HI.out.2⟩
theorem level_c {H : List UInt8 → Nat} {w : World} : ∀ (k f : Nat) (q : Nat) (l : List Pr), DR H w f q l → l.length ≤ 100000 → k ≤ 1000 → f ≤ 13 → LevOk w k q (trieOf H f l)
  | 0, f, q, l, _, _, _, _ => level0_c w q _
  | k + 1, 0, q, l, ⟨A, v, hq, a0, a1, hP, hZ⟩, h9, hk, _ => by
    have := level_go w q k A (List.replicate 32 []) hq (hang_zero _ hZ) (by rw [show (List.replicate 32 ([] : List WT)).flatten = [] by simp, lay_nil]; simp) (by omega)
    rw [show (List.replicate 32 ([] : List WT)).flatten = [] by simp] at this
    exact this
  | k + 1, f + 1, q, l, ⟨A, hq, a0, hE, hL⟩, h9, hk, hf => by
    have hH := hang_succ (C := LevOk w k) hE h9 fun q' x hD hx => level_c k f q' x hD hx (by omega) (by omega)
    have h0 := cnt_trie H (f + 1) l
    have h1 := lay_le (trieOf H (f + 1) l) (k + 1)
    have h2 : (f + 1) * l.length ≤ 13 * 100000 := Nat.mul_le_mul hf h9
    have e : lay (k + 1) [trieOf H (f + 1) l] = lay k (hung H f l).flatten := by rw [hung_flat]; simp [lay]
    have := level_go w q k A (hung H f l) hq hH (by rw [← e]; omega) (by omega)
    rw [← e] at this
    exact this

def BksOk (w : World) (q : Nat) (u : WT) : Prop := ∀ W, Ext w W → Calls Try.prog 30 #[ptr q] W fun e w' => e = .returned (.tuple #[.int .i64 (bksT u : Int), .int .i64 (mostT u : Int)]) ∧ Ext W w'

set_option maxRecDepth 100000 in
set_option maxHeartbeats 1000000 in
theorem bks_zero {H : List UInt8 → Nat} {w : World} {q : Nat} {l : List Pr} (hD : DR H w 0 q l) : BksOk w q (trieOf H 0 l) := by
  intro W fW
  obtain ⟨A, v, hq, a0, a1, hP, _⟩ := DR.ext fW 0 hD
  obtain ⟨A1, C1, rfl, _, _, _, _⟩ := hP
  have z0 := cell_at hq a0
  have z1 := cell_at hq a1
  have e1 : bksT (trieOf H 0 l) = 1 := by simp [trieOf, bksT, bksL]
  have e2 : mostT (trieOf H 0 l) = l.length := by simp [trieOf, mostT, mostL]
  rw [e1, e2]
  clear hq a0 a1 hD fW e1 e2
  go_enter Try.func30, Try.ntmps30
  repeat' (go_not_at_region 2; (first | go_skip | go_guarded | go_step))
  go_quiet (fail)
  repeat' (first | go_skip | go_guarded | go_step)
  go_ret2
  exact ⟨rfl, below_drewN (Ext.refl _) nq⟩

set_option maxRecDepth 100000 in
set_option maxHeartbeats 1000000 in
theorem bks_go (w : World) (q : Nat) (A : Array Value) (xs : List (List WT)) (hq : w.heap[q]? = some (.cells A TT (0, 0))) (ha : A[0]? = some (.bool false)) (hA : Hang A xs (BksOk w)) (h9 : bksL xs.flatten ≤ 1000000000) (hm9 : mostL xs.flatten ≤ 1000000000) :
    ∀ W, Ext w W → Calls Try.prog 30 #[ptr q] W fun e w' => e = .returned (.tuple #[.int .i64 (bksL xs.flatten : Int), .int .i64 (mostL xs.flatten : Int)]) ∧ Ext W w' := by
  intro W fW
  have zb := cell_at ((fW.block q (heap_lt hq)).trans hq) ha
  have HA := Lib.hid (And.intro hA (And.intro hq fW))
  clear hA hq fW ha
  go_enter Try.func30, Try.ntmps30
  repeat' (go_not_at_region 5; (first | go_skip | go_guarded | go_step))
  clear zb
  go_loopg [4, 5, 6, 7, 8] 32 (fun gk v4 v5 v6 v7 v8 wr => ∃ (c n m : Nat), v6 = .int .i64 c ∧ v4 = .int .i64 n ∧ v5 = .int .i64 m ∧ c ≤ 32 ∧ 32 - c ≤ gk ∧ Hid (n = bksL (xs.take c).flatten ∧ m = mostL (xs.take c).flatten ∧ Ext W wr))
  case atStart => exact ⟨0, 0, 0, rfl, rfl, rfl, Nat.zero_le _, by omega, Lib.hid ⟨rfl, rfl, Ext.refl _⟩⟩
  case round =>
    obtain ⟨c, n, m, rfl, rfl, rfl, hc, hgk, HI⟩ := hrel
    rcases Nat.lt_or_ge c 32 with hlt | hge
    · have d1 : decide (c < 32) = true := by simp [hlt]
      have hc1 : (c : Int) < 32 := by omega
      have hc0 : (0 : Int) ≤ (c : Int) := by omega
      have hqr := (Ext.trans HA.out.2.2 HI.out.2.2).block q (heap_lt HA.out.2.1) |>.trans HA.out.2.1
      rcases HA.out.1.2 c hlt with ⟨hx, i, b0, hi⟩ | ⟨u, q2, hx, b0, b1, hC⟩
      · have z0 := cell_at hqr b0
        have hi2 : ¬ ((i : Int) = 2) := by omega
        have d2 : ((i : Int) == 2) = false := by rw [beq_eq_false_iff_ne]; exact hi2
        have HX := Lib.hid (flat_snoc hx)
        clear hqr b0 hx
        repeat' (first | go_skip | go_guarded | go_step)
        go_roundg (32 - (c + 1))
        case measure => omega
        case rel => exact ⟨c + 1, n, m, by go_num, rfl, rfl, by omega, Nat.le_refl _, Lib.hid ⟨by rw [HX.out, List.append_nil]; exact HI.out.1, by rw [HX.out, List.append_nil]; exact HI.out.2.1, HI.out.2.2⟩⟩
      · have z0 := cell_at hqr b0
        have z1 := cell_at hqr b1
        have HX := Lib.hid (flat_snoc hx)
        have HC := Lib.hid (hC wr (Ext.trans HA.out.2.2 HI.out.2.2))
        have hsum : n + bksT u ≤ 1000000000 := by
          have h1 := HI.out.1
          have h2 := flat_sub xs (c + 1)
          rw [HX.out] at h2
          rw [h2, bksL_append, bksL_append] at h9
          simp only [bksL] at h9
          omega
        have hX1 : bksL (xs.take (c + 1)).flatten = n + bksT u := by rw [HX.out, bksL_append, ← HI.out.1]; simp [bksL]
        have hX2 : mostL (xs.take (c + 1)).flatten = max m (mostT u) := by rw [HX.out, mostL_append, ← HI.out.2.1]; simp [mostL]
        obtain ⟨a, ha⟩ : ∃ a, a = bksT u := ⟨_, rfl⟩
        obtain ⟨b, hb⟩ : ∃ b, b = mostT u := ⟨_, rfl⟩
        rw [← ha, ← hb] at HC
        rw [← ha] at hsum hX1
        rw [← hb] at hX2
        have HM := Lib.hid (And.intro hX1 hX2)
        clear hqr b0 b1 hx hC ha hb hX1 hX2
        repeat' (first | go_at_call 30 | go_skip | go_guarded | go_step)
        refine HC.out.mono ?_
        rintro e w2 ⟨rfl, f2⟩
        have H2 := Lib.hid (Ext.trans HI.out.2.2 f2)
        clear f2 z0 z1 HC
        go_simp
        rcases Nat.lt_or_ge m b with hmb | hmb
        · have d3 : decide (m < b) = true := by simp [hmb]
          have hmi : (m : Int) < (b : Int) := by omega
          have hmx : max m b = b := by omega
          repeat' (first | go_skip | go_guarded | go_step)
          go_roundg (32 - (c + 1))
          case measure => omega
          case rel => exact ⟨c + 1, n + a, b, by go_num, by go_num, rfl, by omega, Nat.le_refl _, Lib.hid ⟨HM.out.1.symm, by rw [HM.out.2, hmx], H2.out⟩⟩
        · have d3 : decide (m < b) = false := by simp; omega
          have hmi : ¬ (m : Int) < (b : Int) := by omega
          have hmx : max m b = m := by omega
          repeat' (first | go_skip | go_guarded | go_step)
          go_roundg (32 - (c + 1))
          case measure => omega
          case rel => exact ⟨c + 1, n + a, m, by go_num, by go_num, rfl, by omega, Nat.le_refl _, Lib.hid ⟨HM.out.1.symm, by rw [HM.out.2, hmx], H2.out⟩⟩
    · obtain rfl : c = 32 := by omega
      have htk : xs.take 32 = xs := List.take_of_length_le (by have := HA.out.1.1; omega)
      repeat' (first | go_skip | go_guarded | go_step)
      go_ret2
      exact ⟨by rw [HI.out.1, HI.out.2.1, htk]; rfl, HI.out.2.2⟩
theorem bksL_cnt : ∀ l : List WT, (∀ t ∈ l, bksT t ≤ cntT t) → bksL l ≤ cntL l
  | [], _ => Nat.le_refl _
  | t :: r, h => by
    have := bksL_cnt r fun u hu => h u (List.mem_cons_of_mem _ hu)
    have := h t (List.mem_cons_self ..)
    rw [bksL_cons, cntL_cons]; omega
theorem most_prs (H : List UInt8 → Nat) : ∀ (f : Nat) (l : List Pr), mostT (trieOf H f l) ≤ l.length
  | 0, l => by simp [trieOf, mostT, mostL]
  | f + 1, l => by
    rw [mostT_eq]
    simp only [trieOf, WT.b_mk, WT.ks_mk, Bool.false_eq_true, if_false]
    have key : ∀ xs : List (List Pr), (∀ x ∈ xs, x.length ≤ l.length) → mostL (xs.map (trieOf H f)) ≤ l.length := by
      intro xs
      induction xs with
      | nil => intro _; simp [mostL]
      | cons x xs ih =>
        intro hx
        have h1 := most_prs H f x
        have h2 := hx x (List.mem_cons_self ..)
        have h3 := ih fun y hy => hx y (List.mem_cons_of_mem _ hy)
        rw [List.map_cons, mostL_cons]
        omega
    have := key _ fun x hx => part_le (twos_two (xs := parts H (12 - f) l) hx).2
    omega
theorem buckets_c {H : List UInt8 → Nat} {w : World} : ∀ (f : Nat) (q : Nat) (l : List Pr), DR H w f q l → l.length ≤ 100000 → f ≤ 13 → BksOk w q (trieOf H f l)
  | 0, q, l, hD, _, _ => bks_zero hD
  | f + 1, q, l, ⟨A, hq, a0, hE, hL⟩, h9, hf => by
    have hH := hang_succ (C := BksOk w) hE h9 fun q' x hD hx => buckets_c f q' x hD hx (by omega)
    have h0 := cnt_trie H (f + 1) l
    have hb := bks_trie H (f + 1) l
    have h1 := lay_le (trieOf H (f + 1) l) (f + 1)
    have h2 : (f + 1) * l.length ≤ 13 * 100000 := Nat.mul_le_mul hf h9
    have e1 : bksT (trieOf H (f + 1) l) = bksL (hung H f l).flatten := by rw [hung_flat, bksT_eq]; simp [trieOf]
    have e2 : mostT (trieOf H (f + 1) l) = mostL (hung H f l).flatten := by rw [hung_flat, mostT_eq]; simp [trieOf]
    have h3 := most_prs H (f + 1) l
    have := bks_go w q A (hung H f l) hq a0 hH (by omega) (by omega)
    rw [← e1, ← e2] at this
    exact this
end Go.Proofs.Ytkfiinmoecibcaa
/- Contracts: a walk's of, New, Depth. -/
namespace Go.Proofs.Ytkfiinmoecibcaa
open Go.RowKit Go.QS Go.QS.Nk
set_option linter.unusedVariables false

abbrev WCT : TypeId := 105
abbrev WFT : TypeId := 101
abbrev Cur (W0 w : World) (c : Nat) (V : Value) (ms : List Fm) (st : List Fp) (d : Nat) : Prop := CurW ND WCT WFT W0 w c V ms st d
theorem infoWF : ∃ i z, Try.prog.info? 101 = some i ∧ i.zero = some z ∧ i.size = 2 ∧ i.bytes = 48 ∧ z.cells.size = 2 := info_of (z := .agg #[.slice none 0 0, .slice none 0 0]) (by kernel_rfl) rfl
theorem results_rowL {P : Program} {fn : Func} {p : Tmp} {ty : TypeId} (h : fn.results = #[.cell p ty]) (tmps : Array Value) (w : World) (g : Nat) (t : TypeId) (cs : Array Value) (fr : Nat × Nat) (d : TypeDesc)
    (hp : tmps.getD p undef = .pointer (some ⟨g, 0, none⟩)) (hg : w.heap[g]? = some (.cells cs t fr)) (hu : P.underlying ty = some d) (hd : (match d with | .struct _ | .array _ _ => true | _ => false) = true) (hi : (P.info? ty).map (·.size) = some cs.size) :
    (results fn tmps).run P w = .ok (.agg cs) w := results_cell_row h tmps w g t cs fr d hp hg hu hd hi

set_option maxRecDepth 100000 in
set_option maxHeartbeats 1000000 in
theorem of_cc (w : World) (v1 v2 gv : Value) (xs ys : List Value) (n m : Nat)
    (h1 : ∀ W, Ext w W → Calls Try.prog 75 #[gv] W fun e w' => ∃ v', e = .returned v' ∧ w'.ownsRow W.heap.size NP 2 v' n xs ∧ Ext W w')
    (h2 : ∀ W, Ext w W → Calls Try.prog 61 #[gv] W fun e w' => ∃ v', e = .returned v' ∧ w'.ownsRow W.heap.size NK 1 v' m ys ∧ Ext W w') :
    Calls Try.prog 44 #[gv] w fun e w' => ∃ v1 v2, e = .returned (.agg #[v1, v2]) ∧ w'.ownsRow w.heap.size NP 2 v1 n xs ∧ w'.ownsRow w.heap.size NK 1 v2 m ys ∧ Ext w w' := by
  have HH := Lib.hid (And.intro h1 h2)
  clear h1 h2
  go_enter Try.func44, Try.ntmps44
  repeat' (go_not_at_region 1; (first | go_skip | go_guarded | go_step))
  obtain ⟨a, ha⟩ : ∃ a, a = w.heap.size := ⟨_, rfl⟩
  rw [← ha]
  refine wp_nameW (fun w' => w'.heap[a]? = some (.cells #[.slice none 0 0, .slice none 0 0] WFT (0, 0)) ∧ Ext w w' ∧ w.heap.size ≤ a) ⟨by rw [ha]; exact heap_new w _, (Ext.refl w).alloc (Nat.le_refl _) _, by omega⟩ ?_
  clear ha
  intro w1 H1
  repeat' (first | go_at_call 75 | go_skip | go_guarded | go_step)
  refine (HH.out.1 w1 H1.out.2.1).mono ?_
  rintro e w2 ⟨u1, rfl, r1, f1⟩
  obtain ⟨A1, C1, rfl⟩ := own_slice r1
  have H2 : Hid (w2.heap[a]? = some (.cells #[.slice none 0 0, .slice none 0 0] WFT (0, 0)) ∧ Ext w w2 ∧ w2.ownsRow w.heap.size NP 2 (.slice A1 n C1) n xs) := Lib.hid ⟨(f1.block a (heap_lt H1.out.1)).trans H1.out.1, H1.out.2.1.trans f1, by
    refine ⟨r1.1, ?_⟩
    rcases r1.2 with h | ⟨g, cap, cur, q1, q2, q3⟩
    · exact .inl h
    · exact .inr ⟨g, cap, cur, q1, Nat.le_trans H1.out.2.1.size q2, q3⟩⟩
  clear r1 f1
  go_simp
  repeat' (first | go_at_call 61 | go_skip | go_guarded | go_step)
  refine (HH.out.2 w2 H2.out.2.1).mono ?_
  rintro e w3 ⟨u2, rfl, r2, f2⟩
  obtain ⟨A2, C2, rfl⟩ := own_slice r2
  have H3 : Hid (w3.heap[a]? = some (.cells #[.slice none 0 0, .slice none 0 0] WFT (0, 0)) ∧ Ext w w3 ∧ w3.ownsRow w.heap.size NP 2 (.slice A1 n C1) n xs ∧ w3.ownsRow w.heap.size NK 1 (.slice A2 m C2) m ys) := Lib.hid ⟨(f2.block a (heap_lt H2.out.1)).trans H2.out.1, H2.out.2.1.trans f2, row_ext H2.out.2.2 f2, by
    refine ⟨r2.1, ?_⟩
    rcases r2.2 with h | ⟨g, cap, cur, q1, q2, q3⟩
    · exact .inl h
    · exact .inr ⟨g, cap, cur, q1, Nat.le_trans H2.out.2.1.size q2, q3⟩⟩
  clear r2 f2 H2
  have hal := heap_lt H3.out.1
  have ha0 : w3.cell? ⟨a, 0, none⟩ = some (.slice none 0 0) ∧ w3.cell? ⟨a, 1, none⟩ = some (.slice none 0 0) := by
    have := H3.out.1
    constructor <;> simp [World.cell?, this]
  have haf : ∀ j, w3.frozen? ⟨a, j, none⟩ = false := fun j => by have := H3.out.1; simp [World.frozen?, this]
  obtain ⟨a0, a1⟩ := ha0
  go_simp
  repeat' (first | go_skip | go_guarded | go_step)
  (try simp only [Exit.inBlock, Exit.then])
  refine bodyPost_ret_by (results_rowL rfl _ _ _ _ _ _ _ rfl (heap_set (heap_set H3.out.1 0 _) 1 _) Try.underlying101 rfl (by kernel_rfl)) rfl ?_
  have hle : w.heap.size ≤ a := H1.out.2.2
  have hT1 : (w3.setCell ⟨a, 0, none⟩ (.slice A1 n C1)).heap[a]? = some (.cells #[.slice A1 n C1, .slice none 0 0] WFT (0, 0)) := heap_set H3.out.1 0 _
  exact ⟨_, _, rfl, own_other (own_other H3.out.2.2.1 H3.out.1 (by decide) 0 _) hT1 (by decide) 1 _, own_other (own_other H3.out.2.2.2 H3.out.1 (by decide) 0 _) hT1 (by decide) 1 _, (H3.out.2.1.setCell hle _).setCell hle _⟩

theorem of_c (W0 w : World) (f0 : Ext W0 w) (g : Nat) (t : WT) (h : RepN ND W0 g t) :
    Calls Try.prog 44 #[ptr g] w fun e w' => ∃ v1 v2 kb, e = .returned (.agg #[v1, v2]) ∧ w'.ownsRow w.heap.size NP 2 v1 t.ps.length (flat t.ps) ∧ w'.ownsRow w.heap.size NK 1 v2 kb.length (ptrs kb) ∧ RepNs ND W0 kb t.ks ∧ kb.length ≤ 32 ∧ t.ps.length ≤ 1000000 ∧ Ext w w' := by
  obtain ⟨d, n, ow, pv, kv, kb, nd, _, _, h9, hk9, hk⟩ := h.open
  refine (of_cc w nil0 nil0 (ptr g) _ _ _ _ (fun W f => npairs_c W g pv t.ps (nd.ext (Ext.trans f0 f)).node.cells.2.2.1 (nd.ext (Ext.trans f0 f)).pairs (by omega)) (fun W f => nkids_c W g kv kb (nd.ext (Ext.trans f0 f)).node.cells.2.2.2.1 (nd.ext (Ext.trans f0 f)).kids (by omega))).mono ?_
  rintro e w' ⟨v1, v2, rfl, r1, r2, f⟩
  exact ⟨v1, v2, kb, rfl, r1, r2, hk, hk9, h9, f⟩
theorem of_nil (w : World) :
    Calls Try.prog 44 #[nil0] w fun e w' => ∃ v1 v2, e = .returned (.agg #[v1, v2]) ∧ w'.ownsRow w.heap.size NP 2 v1 0 [] ∧ w'.ownsRow w.heap.size NK 1 v2 0 [] ∧ Ext w w' :=
  of_cc w nil0 nil0 nil0 [] [] 0 0 (fun W f => (pairs_nil W).mono fun e w' ⟨h1, h2⟩ => ⟨_, h1, World.ownsRow_nil _ _ _ _, h2 ▸ Ext.refl _⟩) (fun W f => (kids_nil W).mono fun e w' ⟨h1, h2⟩ => ⟨_, h1, World.ownsRow_nil _ _ _ _, h2 ▸ Ext.refl _⟩)

/-- The plain tree of a root or none. -/
def RootW (w : World) (v : Value) (t : WT) : Prop := (v = nil0 ∧ t = .mk false [] []) ∨ ∃ g, v = ptr g ∧ RepN ND w g t
theorem of_root {w : World} {v : Value} {t : WT} (h : RootW w v t) :
    Calls Try.prog 44 #[v] w fun e w' => ∃ v1 v2 kb, e = .returned (.agg #[v1, v2]) ∧ w'.ownsRow w.heap.size NP 2 v1 t.ps.length (flat t.ps) ∧ w'.ownsRow w.heap.size NK 1 v2 kb.length (ptrs kb) ∧ RepNs ND w kb t.ks ∧ kb.length ≤ 32 ∧ t.ps.length ≤ 1000000 ∧ Ext w w' := by
  rcases h with ⟨rfl, rfl⟩ | ⟨g, rfl, h⟩
  · refine (of_nil w).mono ?_
    rintro e w' ⟨v1, v2, rfl, r1, r2, f⟩
    exact ⟨v1, v2, [], rfl, r1, r2, RepNs.nil _ _, by simp, by simp, f⟩
  · exact of_c w w (Ext.refl w) g t h

set_option maxRecDepth 100000 in
set_option maxHeartbeats 1000000 in
theorem wnew_c (w : World) (v : Value) (t : WT) (h : RootW w v t) :
    Calls Try.prog 15 #[v] w fun e w' => ∃ c V m, e = .returned (ptr c) ∧ Cur w w' c V [m] [(t.ps, t.ks)] 0 ∧ Ext w w' := by
  have HO := Lib.hid (of_root h)
  clear h
  go_enter Try.func15, Try.ntmps15
  repeat' (first | go_at_call 44 | go_skip | go_guarded | go_step)
  refine HO.out.mono ?_
  rintro e w1 ⟨v1, v2, kb, rfl, r1, r2, hr, hk9, hp9, f1⟩
  obtain ⟨A1, C1, rfl⟩ := own_slice r1
  obtain ⟨A2, C2, rfl⟩ := own_slice r2
  have H1 := Lib.hid (And.intro r1 (And.intro r2 (And.intro hr f1)))
  clear r1 r2 hr f1 HO
  go_simp
  repeat' (first | go_skip | go_guarded | go_step)
  go_ret
  obtain ⟨r1, r2, hr, f1⟩ := H1.out
  obtain ⟨w2, hw2⟩ : ∃ x, x = w1.alloc (.cells #[.slice A1 t.ps.length C1, .slice A2 kb.length C2] WFT) := ⟨_, rfl⟩
  have E2 : Ext w1 w2 := by rw [hw2]; exact (Ext.refl _).alloc (Nat.le_refl _) _
  have hs2 : w2.heap.size = w1.heap.size + 1 := by rw [hw2]; simp
  have hb2 : w2.heap[w1.heap.size]? = some (.cells #[.slice A1 t.ps.length C1, .slice A2 kb.length C2] WFT (0, 0)) := by rw [hw2]; exact heap_new w1 _
  obtain ⟨w3, hw3⟩ : ∃ x, x = w2.alloc (.cells #[.slice (some ⟨w1.heap.size, 0, none⟩) 1 1, .int .i64 0] WCT) := ⟨_, rfl⟩
  have E3 : Ext w2 w3 := by rw [hw3]; exact (Ext.refl _).alloc (Nat.le_refl _) _
  have hb3 : w3.heap[w2.heap.size]? = some (.cells #[.slice (some ⟨w1.heap.size, 0, none⟩) 1 1, .int .i64 0] WCT (0, 0)) := by rw [hw3]; exact heap_new w2 _
  have hs1 := f1.size
  have E13 : Ext w1 w3 := Ext.trans E2 E3
  have q1 := World.ownsRow.lt r1
  have q2 := World.ownsRow.lt r2
  refine ⟨w2.heap.size, .slice (some ⟨w1.heap.size, 0, none⟩) 1 1, (.slice A1 t.ps.length C1, .slice A2 kb.length C2), ?_, ?_, ?_⟩
  · rw [hs2]; simp
  · have hst : Cur w w3 w2.heap.size (.slice (some ⟨w1.heap.size, 0, none⟩) 1 1) [(.slice A1 t.ps.length C1, .slice A2 kb.length C2)] [(t.ps, t.ks)] 0 := by
      refine ⟨hb3, ?_, rfl, fun i m s a b => ?_, Ext.trans f1 E13, by omega, ?_⟩
      · refine row_ext ?_ E3
        refine ⟨rfl, .inr ⟨w1.heap.size, 1, #[.slice A1 t.ps.length C1, .slice A2 kb.length C2], rfl, hs1, hb2, Nat.le_refl _, by decide, by simp, rfl⟩⟩
      · match i with
        | 0 =>
          simp at a b
          subst a b
          refine ⟨kb, (PS.of_own r1).below E13, (Sl.of_own r2).below E13, hr, hp9, by omega, fun b hb => ?_⟩
          have hlt : b < w1.heap.size := by
            rcases hb with hb | hb
            · exact (q1 b hb).2
            · exact (q2 b hb).2
          have := E13.size
          refine ⟨by omega, by omega, fun e => ?_⟩
          have e' : w1.heap.size = b := by simpa [Value.ownBlock] using e
          omega
        | i + 1 => simp at a
      · intro e
        have e' : w1.heap.size = w2.heap.size := by simpa [Value.ownBlock] using e
        omega
    rw [hw3, hw2] at hst
    rw [hw2]
    exact hst
  · have := Ext.trans f1 E13
    rw [hw3, hw2] at this
    exact this
end Go.Proofs.Ytkfiinmoecibcaa
