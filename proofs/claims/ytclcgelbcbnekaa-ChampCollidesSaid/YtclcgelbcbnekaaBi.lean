/- Texts joined. -/
import Derived.Test.YtclcgelbcbnekaaMa
import Derived.Test.YtclcgelbcbnekaaRows
import Derived.Laws.Bits64b
import Derived.Deep.LoopGhost
set_option linter.unusedVariables false
set_option linter.unusedSimpArgs false
/- Plain: sixty-four bits turned left, a bit at a time and at once. -/
namespace Go.QS

/-- One bit to the left, round. -/
def rot1 (x : Nat) : Nat := x * 2 % 18446744073709551616 + x / 9223372036854775808
def turnN : Nat → Nat → Nat
  | 0, x => x
  | k + 1, x => turnN k (rot1 x)
theorem rot1_lt {x : Nat} (h : x < 18446744073709551616) : rot1 x < 18446744073709551616 := by
  unfold rot1; omega
theorem turnN_lt : ∀ (k : Nat) {x : Nat}, x < 18446744073709551616 → turnN k x < 18446744073709551616
  | 0, _, h => h
  | k + 1, _, h => turnN_lt k (rot1_lt h)
theorem turnN_succ : ∀ (k x : Nat), turnN (k + 1) x = rot1 (turnN k x)
  | 0, _ => rfl
  | k + 1, x => turnN_succ k (rot1 x)
/-- What lies above goes below. -/
def rotA (x k : Nat) : Nat := x % 2 ^ (64 - k) * 2 ^ k + x / 2 ^ (64 - k)
theorem rotA_zero {x : Nat} (h : x < 18446744073709551616) : rotA x 0 = x := by
  unfold rotA
  rw [show (64 - 0 : Nat) = 64 from rfl, Nat.mod_eq_of_lt (by simpa using h), Nat.div_eq_of_lt (by simpa using h)]
  simp
theorem rotA_succ {x k : Nat} (hk : k < 64) (h : x < 18446744073709551616) : rot1 (rotA x k) = rotA x (k + 1) := by
  obtain ⟨m, hm⟩ : ∃ m, 64 - (k + 1) = m := ⟨_, rfl⟩
  have e1 : 64 - k = m + 1 := by omega
  have e2 : k + 1 + m = 64 := by omega
  unfold rotA
  rw [hm, e1]
  obtain ⟨P, hP⟩ : ∃ P, 2 ^ m = P := ⟨_, rfl⟩
  obtain ⟨K, hK⟩ : ∃ K, 2 ^ k = K := ⟨_, rfl⟩
  have hPK : 2 * (K * P) = 18446744073709551616 := by
    rw [← hP, ← hK, ← Nat.pow_add, ← Nat.pow_succ', show (k + m).succ = 64 by omega]
  have hP0 : 0 < P := by rw [← hP]; exact Nat.two_pow_pos m
  have hK0 : 0 < K := by rw [← hK]; exact Nat.two_pow_pos k
  rw [Nat.pow_succ 2 m, Nat.pow_succ 2 k, hP, hK]
  obtain ⟨a, ha⟩ : ∃ a, x / (P * 2) = a := ⟨_, rfl⟩
  obtain ⟨y, hy⟩ : ∃ y, x % (P * 2) = y := ⟨_, rfl⟩
  have hx : x = P * 2 * a + y := by rw [← ha, ← hy]; exact (Nat.div_add_mod x (P * 2)).symm
  have hy2 : y < P * 2 := by rw [← hy]; exact Nat.mod_lt _ (by omega)
  obtain ⟨c, hc⟩ : ∃ c, y / P = c := ⟨_, rfl⟩
  obtain ⟨d, hd⟩ : ∃ d, y % P = d := ⟨_, rfl⟩
  have hyc : y = P * c + d := by rw [← hc, ← hd]; exact (Nat.div_add_mod y P).symm
  have hd2 : d < P := by rw [← hd]; exact Nat.mod_lt _ hP0
  have hc2 : c < 2 := by
    rw [← hc]; exact (Nat.div_lt_iff_lt_mul hP0).2 (by omega)
  have ha2 : a < K := by
    rw [← ha]
    refine (Nat.div_lt_iff_lt_mul (by omega)).2 ?_
    have : K * (P * 2) = 18446744073709551616 := by rw [← hPK, ← Nat.mul_assoc, Nat.mul_comm (K * P) 2]
    omega
  have q1 : x / P = 2 * a + c := by
    rw [hx, hyc]
    rw [show P * 2 * a + (P * c + d) = d + P * (2 * a + c) by rw [Nat.mul_add, Nat.mul_assoc]; omega]
    rw [Nat.add_mul_div_left _ _ hP0, Nat.div_eq_of_lt hd2, Nat.zero_add]
  have q2 : x % P = d := by
    rw [hx, hyc]
    rw [show P * 2 * a + (P * c + d) = d + P * (2 * a + c) by rw [Nat.mul_add, Nat.mul_assoc]; omega]
    rw [Nat.add_mul_mod_self_left, Nat.mod_eq_of_lt hd2]
  rw [ha, hy, q1, q2]
  unfold rot1
  have hdK : d * K < P * K := Nat.mul_lt_mul_of_pos_right hd2 hK0
  have hPK2 : P * K = 9223372036854775808 := by rw [Nat.mul_comm P K]; omega
  have hyK : y * K = c * 9223372036854775808 + d * K := by
    rw [hyc, Nat.add_mul, Nat.mul_comm P c, Nat.mul_assoc, hPK2]
  have hKle : K ≤ 9223372036854775808 := by rw [← hPK2]; exact Nat.le_mul_of_pos_left K hP0
  have hdK1 : d * K + K ≤ P * K := by
    have : (d + 1) * K ≤ P * K := Nat.mul_le_mul_right K hd2
    rw [Nat.add_mul, Nat.one_mul] at this
    exact this
  rw [hyK, ← Nat.mul_assoc d K 2]
  rcases (show c = 0 ∨ c = 1 by omega) with rfl | rfl
  · rw [Nat.zero_mul, Nat.zero_add]
    omega
  · rw [Nat.one_mul]
    omega
theorem turnN_rotA {x : Nat} (h : x < 18446744073709551616) : ∀ k, k ≤ 64 → turnN k x = rotA x k
  | 0, _ => (rotA_zero h).symm
  | k + 1, hk => by rw [turnN_succ, turnN_rotA h k (by omega), rotA_succ (by omega) h]
/-- .. as a machine has it. -/
theorem rotA_or {x k : Nat} (hk : k ≤ 64) (h : x < 18446744073709551616) : x * 2 ^ k % 18446744073709551616 ||| x / 2 ^ (64 - k) = rotA x k := by
  have e : 18446744073709551616 = 2 ^ (64 - k) * 2 ^ k := by rw [← Nat.pow_add, show 64 - k + k = 64 by omega]
  have hlt : x / 2 ^ (64 - k) < 2 ^ k := by
    refine (Nat.div_lt_iff_lt_mul (Nat.two_pow_pos _)).2 ?_
    rw [Nat.mul_comm, ← e]; exact h
  rw [e, Nat.mul_mod_mul_right, Nat.mul_comm (x % 2 ^ (64 - k)), ← Nat.two_pow_add_eq_or_of_lt hlt]
  unfold rotA
  rw [Nat.mul_comm]
theorem turn_or {x k : Nat} (hk : k ≤ 64) (h : x < 18446744073709551616) : x * 2 ^ k % 18446744073709551616 ||| x / 2 ^ (64 - k) = turnN k x := by
  rw [turnN_rotA h k hk, rotA_or hk h]
end Go.QS
/- Plain: the hash: four numbers, rounds, bytes taken eight by eight. No program. -/
namespace Go.QS

structure V4 where
  a : Nat
  b : Nat
  c : Nat
  d : Nat
def V4.Ok (v : V4) : Prop := v.a < 18446744073709551616 ∧ v.b < 18446744073709551616 ∧ v.c < 18446744073709551616 ∧ v.d < 18446744073709551616
theorem xor_lt {x y : Nat} (hx : x < 18446744073709551616) (hy : y < 18446744073709551616) : x ^^^ y < 18446744073709551616 := Nat.xor_lt_two_pow (n := 64) hx hy
def ad (x y : Nat) : Nat := (x + y) % 18446744073709551616
theorem ad_lt (x y : Nat) : ad x y < 18446744073709551616 := Nat.mod_lt _ (by decide)
/-- A round, in two halves. -/
def rndA (v : V4) : V4 := ⟨ad (turnN 32 (ad v.a v.b)) (turnN 16 v.d ^^^ ad v.c v.d), turnN 13 v.b ^^^ ad v.a v.b, ad v.c v.d, turnN 16 v.d ^^^ ad v.c v.d⟩
def rndB (v : V4) : V4 := ⟨v.a, turnN 17 v.b ^^^ ad v.c v.b, turnN 32 (ad v.c v.b), turnN 21 v.d ^^^ v.a⟩
def rnd (v : V4) : V4 := rndB (rndA v)
theorem rndA_ok {v : V4} (h : v.Ok) : (rndA v).Ok := ⟨ad_lt _ _, xor_lt (turnN_lt _ h.2.1) (ad_lt _ _), ad_lt _ _, xor_lt (turnN_lt _ h.2.2.2) (ad_lt _ _)⟩
theorem rndB_ok {v : V4} (h : v.Ok) : (rndB v).Ok := ⟨h.1, xor_lt (turnN_lt _ h.2.1) (ad_lt _ _), turnN_lt _ (ad_lt _ _), xor_lt (turnN_lt _ h.2.2.2) h.1⟩
theorem rnd_ok {v : V4} (h : v.Ok) : (rnd v).Ok := rndB_ok (rndA_ok h)
def rnds : Nat → V4 → V4
  | 0, v => v
  | n + 1, v => rnds n (rnd v)
theorem rnds_ok : ∀ (n : Nat) {v : V4}, v.Ok → (rnds n v).Ok
  | 0, _, h => h
  | n + 1, _, h => rnds_ok n (rnd_ok h)
theorem rnds_succ : ∀ (n : Nat) (v : V4), rnds (n + 1) v = rnd (rnds n v)
  | 0, _ => rfl
  | n + 1, v => rnds_succ n (rnd v)
def xd (v : V4) (m : Nat) : V4 := ⟨v.a, v.b, v.c, v.d ^^^ m⟩
def xa (v : V4) (m : Nat) : V4 := ⟨v.a ^^^ m, v.b, v.c, v.d⟩
def xc (v : V4) (m : Nat) : V4 := ⟨v.a, v.b, v.c ^^^ m, v.d⟩
theorem xd_ok {v : V4} {m : Nat} (h : v.Ok) (hm : m < 18446744073709551616) : (xd v m).Ok := ⟨h.1, h.2.1, h.2.2.1, xor_lt h.2.2.2 hm⟩
theorem xa_ok {v : V4} {m : Nat} (h : v.Ok) (hm : m < 18446744073709551616) : (xa v m).Ok := ⟨xor_lt h.1 hm, h.2.1, h.2.2.1, h.2.2.2⟩
theorem xc_ok {v : V4} {m : Nat} (h : v.Ok) (hm : m < 18446744073709551616) : (xc v m).Ok := ⟨h.1, h.2.1, xor_lt h.2.2.1 hm, h.2.2.2⟩
def tk (v : V4) (m : Nat) : V4 := xa (rnds 2 (xd v m)) m
theorem tk_ok {v : V4} {m : Nat} (h : v.Ok) (hm : m < 18446744073709551616) : (tk v m).Ok := xa_ok (rnds_ok 2 (xd_ok h hm)) hm
/-- Bytes as a number, the lowest first. -/
def leN : List UInt8 → Nat
  | [] => 0
  | b :: r => b.toNat + 256 * leN r
theorem leN_lt : ∀ s : List UInt8, leN s < 256 ^ s.length
  | [] => by simp [leN]
  | b :: r => by
    have ih := leN_lt r
    have hb : b.toNat < 256 := by have := UInt8.toNat_lt b; omega
    simp only [leN, List.length_cons, Nat.pow_succ]
    omega
theorem leN_lt8 {s : List UInt8} (h : s.length ≤ 8) : leN s < 18446744073709551616 := by
  have h1 := leN_lt s
  have h2 : 256 ^ s.length ≤ 256 ^ 8 := Nat.pow_le_pow_right (by decide) h
  have h3 : (256 : Nat) ^ 8 = 18446744073709551616 := by decide
  omega
theorem leN_lt7 {s : List UInt8} (h : s.length ≤ 7) : leN s < 72057594037927936 := by
  have h1 := leN_lt s
  have h2 : 256 ^ s.length ≤ 256 ^ 7 := Nat.pow_le_pow_right (by decide) h
  have h3 : (256 : Nat) ^ 7 = 72057594037927936 := by decide
  omega
/-- All bytes; n: how many there were. -/
def absorb (n : Nat) : Nat → V4 → List UInt8 → V4
  | 0, v, s => tk v (leN s + n % 256 * 72057594037927936)
  | f + 1, v, s => absorb n f (tk v (leN (s.take 8))) (s.drop 8)
def fin (v : V4) : Nat := let u := rnds 4 (xc v 255); u.a ^^^ u.b ^^^ u.c ^^^ u.d
def sip0 (k0 k1 : Nat) : V4 := ⟨k0 ^^^ 0x736f6d6570736575, k1 ^^^ 0x646f72616e646f6d, k0 ^^^ 0x6c7967656e657261, k1 ^^^ 0x7465646279746573⟩
def sipN (k0 k1 : Nat) (s : List UInt8) : Nat := fin (absorb s.length (s.length / 8) (sip0 k0 k1) s)
theorem sip0_ok {k0 k1 : Nat} (h0 : k0 < 18446744073709551616) (h1 : k1 < 18446744073709551616) : (sip0 k0 k1).Ok :=
  ⟨xor_lt h0 (by decide), xor_lt h1 (by decide), xor_lt h0 (by decide), xor_lt h1 (by decide)⟩
theorem fin_lt {v : V4} (h : v.Ok) : fin v < 18446744073709551616 := by
  obtain ⟨h1, h2, h3, h4⟩ := rnds_ok 4 (xc_ok (m := 255) h (by decide))
  exact xor_lt (xor_lt (xor_lt h1 h2) h3) h4
theorem absorb_ok (n : Nat) : ∀ (f : Nat) {v : V4} {s : List UInt8}, v.Ok → s.length / 8 = f → (absorb n f v s).Ok
  | 0, v, s, h, hf => tk_ok h (by have := leN_lt7 (s := s) (by omega); omega)
  | f + 1, v, s, h, hf => absorb_ok n f (tk_ok h (leN_lt8 (by simp; omega))) (by simp; omega)
theorem sipN_lt {k0 k1 : Nat} (h0 : k0 < 18446744073709551616) (h1 : k1 < 18446744073709551616) (s : List UInt8) : sipN k0 k1 s < 18446744073709551616 :=
  fin_lt (absorb_ok _ _ (sip0_ok h0 h1) rfl)
/-- A byte more, ahead. -/
theorem leN_at (s : List UInt8) (i n : Nat) : leN ((s.drop i).take (n + 1)) = (match s[i]? with | some b => b.toNat | none => 0) + 256 * leN ((s.drop (i + 1)).take n) := by
  cases h : s[i]? with
  | none =>
    have hl : s.length ≤ i := by simpa using h
    rw [List.drop_eq_nil_of_le hl, List.drop_eq_nil_of_le (by omega)]
    simp [leN]
  | some b =>
    obtain ⟨hl, he⟩ := List.getElem?_eq_some_iff.1 h
    rw [List.drop_eq_getElem_cons hl, he, List.take_succ_cons]
    rfl
/-- As a machine shifts them together. -/
theorem or_shift {A b k : Nat} (hb : b < 256) : A * 2 ^ (k + 8) ||| b * 2 ^ k = (A * 256 + b) * 2 ^ k := by
  have h1 : b * 2 ^ k < 2 ^ (k + 8) := by
    rw [Nat.pow_add, Nat.mul_comm (2 ^ k)]
    exact Nat.mul_lt_mul_of_pos_right (by simpa using hb) (Nat.two_pow_pos k)
  rw [Nat.mul_comm A, ← Nat.two_pow_add_eq_or_of_lt h1, Nat.add_mul, Nat.pow_add]
  have : 2 ^ k * 2 ^ 8 * A = A * 256 * 2 ^ k := by
    rw [Nat.mul_comm, Nat.mul_comm (2 ^ k), ← Nat.mul_assoc]
  rw [this]
end Go.QS
/- Contracts: bits turned: by math/bits, and as the document has it; five bits of a hash. -/
namespace Go.Proofs.Ytclcgelbcbnekaa
open Go.RowKit Go.QS
set_option linter.unusedVariables false

theorem or_law (x k : Nat) (hx : x < 18446744073709551616) (hk : k < 64) : bits BinOp.or IntKind.u64 ((x : Int) * 2 ^ k % 18446744073709551616) ((x : Int) / 2 ^ (64 - k)) = ((turnN k x : Nat) : Int) := by
  have e1 : (x : Int) * 2 ^ k % 18446744073709551616 = ((x * 2 ^ k % 18446744073709551616 : Nat) : Int) := by simp
  have e2 : (x : Int) / 2 ^ (64 - k) = ((x / 2 ^ (64 - k) : Nat) : Int) := by simp
  rw [e1, e2, bits_or_u64_nat _ _ (Nat.mod_lt _ (by decide)) (Nat.lt_of_le_of_lt (Nat.div_le_self _ _) hx), turn_or (by omega) hx]
set_option maxRecDepth 100000 in
theorem rotl_c (w : World) (x k : Nat) (hx : x < 18446744073709551616) (hk : k < 64) : Calls Try.prog 178 #[.int .u64 x, .int .i64 k] w fun e w' => e = .returned (.int .u64 (turnN k x)) ∧ w = w' := by
  have hA : bits BinOp.and IntKind.u64 (k : Int) 63 = (k : Int) := by
    have := bits_and_u64_nat k 63 (by omega) (by decide)
    rw [show k &&& 63 = k by rw [show (63 : Nat) = 2 ^ 6 - 1 from rfl, Nat.and_two_pow_sub_one_eq_mod]; exact Nat.mod_eq_of_lt (by omega)] at this
    exact this
  have hw : (k : Int) % 18446744073709551616 = (k : Int) := by omega
  have hs : (64 - (k : Int)) % 18446744073709551616 = ((64 - k : Nat) : Int) := by omega
  have h1 : (k : Int) ≤ 64 := by omega
  have h2 : ((64 - k : Nat) : Int) ≤ 64 := by omega
  have hor := or_law x k hx hk
  go_enter Try.func178, Try.ntmps178
  repeat' (first | go_skip | go_guarded | go_step)
  go_ret
  refine ⟨?_, rfl⟩
  change Ending.returned (Value.int IntKind.u64 (bits BinOp.or IntKind.u64 (IntKind.u64.wrap (↑x * 2 ^ k)) (↑x / 2 ^ (64 - k)))) = _
  rw [IntKind.wrap_u64, hor]
set_option maxRecDepth 100000 in
theorem turn_c (w : World) (x k : Nat) (hx : x < 18446744073709551616) (hk : k < 64) : Calls Try.prog 183 #[.int .u64 x, .int .i64 k] w fun e w' => e = .returned (.int .u64 (turnN k x)) ∧ w = w' := by
  go_enter Try.func183, Try.ntmps183
  repeat' (first | go_skip | go_guarded | go_step)
  go_loopg [5, 0] k (fun gk v5 v0 wr => ∃ i y : Nat, v5 = .int .i64 i ∧ v0 = .int .u64 y ∧ i ≤ k ∧ k - i ≤ gk ∧ y < 18446744073709551616 ∧ Hid (turnN (k - i) y = turnN k x) ∧ wr = w)
  case atStart => exact ⟨0, x, rfl, rfl, Nat.zero_le _, by omega, hx, Lib.hid rfl, rfl⟩
  case round =>
    obtain ⟨i, y, rfl, rfl, hik, hgk, hy, HT, rfl⟩ := hrel
    rcases Nat.lt_or_ge i k with hlt | hge
    · have d1 : decide (i < k) = true := by simp [hlt]
      have hr : rot1 y < 18446744073709551616 := rot1_lt hy
      have e1 : ((y : Int) * 2 % 18446744073709551616 + (y : Int) / 9223372036854775808) % 18446744073709551616 = ((rot1 y : Nat) : Int) := by
        have := hr
        unfold rot1 at this ⊢
        omega
      repeat' (first | go_skip | go_guarded | go_step)
      go_roundg (k - (i + 1))
      case measure => omega
      case rel => exact ⟨i + 1, rot1 y, by go_num, by rw [← e1]; go_num, by omega, Nat.le_refl _, hr, Lib.hid (by rw [← HT.out, show k - i = (k - (i + 1)) + 1 by omega]; rfl), rfl⟩
    · obtain rfl : i = k := by omega
      have d1 : decide (i < i) = false := by simp
      have e2 := HT.out
      rw [Nat.sub_self] at e2
      have e3 : y = turnN i x := e2
      repeat' (first | go_skip | go_guarded | go_step)
      go_ret
      exact ⟨by rw [← e3]; rfl, rfl⟩
end Go.Proofs.Ytclcgelbcbnekaa
