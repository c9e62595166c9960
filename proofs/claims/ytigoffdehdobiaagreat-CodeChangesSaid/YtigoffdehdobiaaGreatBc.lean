/- Contracts: take, Byte, Fixed, End of what is read. -/
import Derived.Test.YtigoffdehdobiaaGreatM02
import Derived.Laws.Bits64b
set_option linter.unusedVariables false
set_option linter.unusedSimpArgs false
namespace Go.Proofs.YtigoffdehdobiaaGreat
open Go.RowKit Go.QS
set_option linter.unusedVariables false

theorem encB_take (l : List UInt8) (n : Nat) : encB (l.take n) = (encB l).take n := by simp [encB, List.map_take]
theorem encB_drop (l : List UInt8) (n : Nat) : encB (l.drop n) = (encB l).drop n := by simp [encB, List.map_drop]

set_option maxRecDepth 100000 in
theorem take_c {V : Nat → Prop} {g : Nat} {w : World} {l : List UInt8} {e : Nat} (h : InAt V g w l e) (n : Nat) (hn9 : n ≤ 9223372036854775807) :
    Calls Tryz.prog 44 #[ptr g, .int .i64 (n : Int)] w fun x w' => ∃ v, x = .returned v ∧ BS w' v (sTake n (l, e)).1 ∧ InAt V g w' (sTake n (l, e)).2.1 (sTake n (l, e)).2.2 ∧ One g w w' := by
  obtain ⟨A, c, h1, h2, h3, h4, h5⟩ := h.ex
  have c0 : w.cell? ⟨g, 0, none⟩ = some (.slice A l.length c) := by rw [cellG h1]; rfl
  have f0 := freeG h1 0
  have hl := heap_lt h1
  have HE := Lib.hid (err_c h)
  have HF := Lib.hid (fail_c h 9)
  have HH := Lib.hid (And.intro h1 (And.intro h4 (And.intro h5 h)))
  clear h h4 h5 h1
  unfold sTake
  by_cases he : e = 0
  · subst he
    rw [if_pos rfl]
    by_cases hlt : l.length < n
    · have d1 : decide ((l.length : Int) < (n : Int)) = true := decide_eq_true (by omega)
      have d2 : (l.length : Int) < (n : Int) := by omega
      rw [if_pos hlt]
      go_enter Tryz.func44, Tryz.ntmps44
      repeat' (first
        | (go_at_call 30; refine HE.out.mono ?_; rintro x w1 ⟨rfl, rfl⟩; go_simp)
        | (go_at_call 20; refine HF.out.mono ?_; rintro x w1 ⟨rfl, hI, hO⟩; replace hI := Lib.hid hI; replace hO := Lib.hid hO; go_simp)
        | go_skip | go_guarded | go_step)
      go_ret
      exact ⟨_, rfl, Sl.nil _ _, hI.out, hO.out⟩
    · have d1 : decide ((l.length : Int) < (n : Int)) = false := decide_eq_false (by omega)
      have d2 : ¬ ((l.length : Int) < (n : Int)) := by omega
      have d3 : (n : Int) ≤ (l.length : Int) := by omega
      have d4 : (n : Int) ≤ (c : Int) := by omega
      rw [if_neg hlt]
      obtain ⟨m, hm⟩ : ∃ m, m = l.length := ⟨_, rfl⟩
      rw [← hm] at c0 d1 d2 d3 h2
      obtain ⟨A2, hrun, hseg, hbl⟩ := run_fromB Tryz.underlying22 infoU8 A (n := m) (c := c) (i := n) (by omega) h2
      have HM := Lib.hid hm
      have HS := Lib.hid (And.intro hseg hbl)
      clear hm hseg hbl hlt
      go_enter Tryz.func44, Tryz.ntmps44
      repeat' (first
        | (go_at_call 30; refine HE.out.mono ?_; rintro x w1 ⟨rfl, rfl⟩; go_simp)
        | go_skip | go_guarded | go_step)
      go_ret
      have hO : One g w (w.setCell ⟨g, 0, none⟩ (.slice A2 (m - n) (c - n))) := (One.refl w).setCell 0 _
      have hA2 : ∀ a, A2 = some a → a.block ≠ g ∧ V a.block := fun a ha => by
        obtain ⟨a', e1, e2⟩ := HS.out.2 a ha
        rw [← e2]; exact HH.out.2.2.1 a' e1
      have hsg := HS.out.1 w (encB l) (by rw [encB_length]; exact HM.out.symm) HH.out.2.1
      have hn : (l.take n).length = n := by rw [List.length_take]; have := HM.out; omega
      refine ⟨_, rfl, ⟨A, c, by rw [hn]; rfl, by rw [encB_length]; omega, by omega, h3, ?_⟩, ⟨A2, c - n, ?_, by rw [List.length_drop]; have := HM.out; omega, by omega, ?_, hA2⟩, hO⟩
      · rw [encB_take]; exact (HH.out.2.1.take n).one hO HH.out.2.2.1
      · have := heap_set HH.out.1 0 (.slice A2 (m - n) (c - n))
        rw [List.length_drop, ← HM.out]
        exact this
      · rw [encB_drop]; exact hsg.one hO hA2
  · rw [if_neg he]
    have d1 : ((e : Int) == 0) = false := by rw [beq_eq_false_iff_ne]; omega
    have d2 : ((e : Int) != 0) = true := by rw [bne_iff_ne]; omega
    go_enter Tryz.func44, Tryz.ntmps44
    repeat' (first
      | (go_at_call 30; refine HE.out.mono ?_; rintro x w1 ⟨rfl, rfl⟩; go_simp)
      | go_skip | go_guarded | go_step)
    go_ret
    exact ⟨_, rfl, Sl.nil _ _, HH.out.2.2.2, One.refl w⟩

def sByte (s : St2) : Nat × St2 := (match (sTake 1 s).1 with | b :: _ => b.toNat | [] => 0, (sTake 1 s).2)
theorem sTake_len (n : Nat) (s : St2) : (sTake n s).1.length = 0 ∨ (sTake n s).1.length = n := by
  unfold sTake
  split
  · split
    · exact .inl rfl
    · exact .inr (by rw [List.length_take]; omega)
  · exact .inl rfl

set_option maxRecDepth 100000 in
theorem byte_c {V : Nat → Prop} {g : Nat} {w : World} {l : List UInt8} {e : Nat} (h : InAt V g w l e) :
    Calls Tryz.prog 27 #[ptr g] w fun x w' => x = .returned (.int .u8 ((sByte (l, e)).1 : Int)) ∧ InAt V g w' (sByte (l, e)).2.1 (sByte (l, e)).2.2 ∧ One g w w' := by
  have HT := Lib.hid (take_c h 1 (by decide))
  have hlen := sTake_len 1 (l, e)
  unfold sByte
  obtain ⟨T, hT⟩ : ∃ T, T = sTake 1 (l, e) := ⟨_, rfl⟩
  rw [← hT] at hlen HT ⊢
  obtain ⟨r, l', e'⟩ := T
  simp only at hlen HT ⊢
  clear h hT
  go_enter Tryz.func27, Tryz.ntmps27
  repeat' (first | go_at_call 44 | go_skip | go_guarded | go_step)
  refine HT.out.mono ?_
  rintro x w1 ⟨v, rfl, ⟨A, c, rfl, hl2, hn2, hc2, hs2⟩, hI, hO⟩
  have HI := Lib.hid (And.intro hI hO)
  clear hI hO
  cases r with
  | nil =>
    go_simp
    repeat' (first | go_skip | go_guarded | go_step)
    refine wp_loop_once ?_
    repeat' (first | go_skip | go_guarded | go_step)
    go_ret
    exact ⟨rfl, HI.out⟩
  | cons b r =>
    have hr : r = [] := by
      rcases hlen with h | h
      · simp at h
      · simpa using h
    subst hr
    obtain ⟨b1, o1, rfl, hc1⟩ := hs2 (by simp [encB])
    have hq := hc1 0 (.int .u8 (b.toNat : Int)) (by simp [encB])
    simp only [List.length_cons, List.length_nil, Nat.zero_add, Nat.add_zero] at hq ⊢
    go_simp
    repeat' (first | go_skip | go_guarded | go_step)
    refine wp_loop_once ?_
    repeat' (first | go_skip | go_guarded | go_step)
    go_ret
    exact ⟨rfl, HI.out⟩

/-- Bytes as a number, the lowest first. -/
def leB : List UInt8 → Nat
  | [] => 0
  | b :: r => b.toNat + 256 * leB r
theorem leB_lt : ∀ s : List UInt8, leB s < 256 ^ s.length
  | [] => by simp [leB]
  | b :: r => by
    have := leB_lt r
    have hb := b.toNat_lt
    simp only [leB, List.length_cons, Nat.pow_succ]
    omega
theorem leB_snoc (b : UInt8) : ∀ s : List UInt8, leB (s ++ [b]) = leB s + b.toNat * 256 ^ s.length
  | [] => by simp [leB]
  | c :: r => by
    simp only [List.cons_append, leB, leB_snoc b r, List.length_cons, Nat.pow_succ]
    rw [Nat.mul_add, ← Nat.mul_assoc, Nat.mul_comm (256 ^ r.length) 256, ← Nat.mul_assoc, Nat.mul_comm 256 b.toNat]; omega
def sFixed (s : St2) : Nat × St2 := (leB (sTake 8 s).1, (sTake 8 s).2)
/-- A byte laid on, as a machine does it. -/
theorem orAdd (x P : Int) (a b k : Nat) (hx : x = (a : Int)) (hP : P = ((2 ^ k : Nat) : Int)) (ha : a < 2 ^ k) (hb : b * 2 ^ k < 18446744073709551616) (hk : k < 64) :
    bits BinOp.or IntKind.u64 x (IntKind.u64.wrap (IntKind.u64.wrap (b : Int) * P)) = ((a + b * 2 ^ k : Nat) : Int) := by
  subst hx hP
  have h64 : 2 ^ k ≤ 2 ^ 63 := Nat.pow_le_pow_right (by decide) (by omega)
  have h1 : 1 ≤ 2 ^ k := Nat.one_le_two_pow
  have hbb : b ≤ b * 2 ^ k := Nat.le_mul_of_pos_right b h1
  have e1 : IntKind.u64.wrap (b : Int) = (b : Int) := by rw [IntKind.wrap_u64]; omega
  have e2 : IntKind.u64.wrap ((b : Int) * ((2 ^ k : Nat) : Int)) = ((b * 2 ^ k : Nat) : Int) := by
    rw [IntKind.wrap_u64, ← Int.natCast_mul]; omega
  rw [e1, e2, bits_or_u64_nat a (b * 2 ^ k) (by omega) hb]
  congr 1
  rw [Nat.or_comm, Nat.mul_comm b, ← Nat.two_pow_add_eq_or_of_lt ha]
  omega

set_option maxRecDepth 100000 in
theorem fixed_c {V : Nat → Prop} {g : Nat} {w : World} {l : List UInt8} {e : Nat} (h : InAt V g w l e) :
    Calls Tryz.prog 28 #[ptr g] w fun x w' => x = .returned (.int .u64 ((sFixed (l, e)).1 : Int)) ∧ InAt V g w' (sFixed (l, e)).2.1 (sFixed (l, e)).2.2 ∧ One g w w' := by
  have HT := Lib.hid (take_c h 8 (by decide))
  have hlen := sTake_len 8 (l, e)
  unfold sFixed
  obtain ⟨T, hT⟩ : ∃ T, T = sTake 8 (l, e) := ⟨_, rfl⟩
  rw [← hT] at hlen HT ⊢
  obtain ⟨r, l', e'⟩ := T
  simp only at hlen HT ⊢
  clear h hT
  obtain ⟨n, hn⟩ : ∃ n, n = r.length := ⟨_, rfl⟩
  have hn8 : n ≤ 8 := by omega
  have HN := Lib.hid hn
  go_enter Tryz.func28, Tryz.ntmps28
  repeat' (first | go_at_call 44 | go_skip | go_guarded | go_step)
  refine HT.out.mono ?_
  rintro x w1 ⟨v, rfl, ⟨A, c, rfl, hl2, hn2, hc2, hs2⟩, hI, hO⟩
  have HI := Lib.hid (And.intro hI (And.intro hO hs2))
  rw [← hn]
  clear hI hO hn hlen hl2 hn2 hs2
  go_simp
  repeat' (go_not_at_region 3; (first | go_skip | go_guarded | go_step))
  go_loopg [3, 9] n (fun gk v3 v9 wr => ∃ i : Nat, v3 = .int .u64 ((leB (r.take i) : Nat) : Int) ∧ v9 = .int .i64 i ∧ i ≤ n ∧ n - i ≤ gk ∧ wr = w1)
  case atStart => exact ⟨0, rfl, rfl, Nat.zero_le _, by omega, rfl⟩
  case round =>
    obtain ⟨i, rfl, rfl, him, hgk, rfl⟩ := hrel
    rcases Nat.lt_or_ge i n with hlt | hge
    · have d1 : decide (i < n) = true := by simp [hlt]
      have hi1 : (i : Int) < (n : Int) := by omega
      obtain ⟨b, hb⟩ := get_of_lt r (show i < r.length by have := HN.out; omega)
      obtain ⟨b1, o1, rfl, hc1⟩ := HI.out.2.2 (by intro e; have := congrArg List.length e; rw [encB_length] at this; have := HN.out; simp only [List.length_nil] at *; omega)
      have hq := hc1 i _ (encB_get hb)
      have HB := Lib.hid hb
      obtain ⟨acc, hacc⟩ : ∃ acc, acc = leB (r.take i) := ⟨_, rfl⟩
      rw [← hacc]
      have HACC := Lib.hid hacc
      clear hc1 hb hacc
      have hi7 : i ≤ 7 := by omega
      have hacl : acc < 2 ^ (8 * i) := by
        have h1 := leB_lt (r.take i)
        rw [← HACC.out, List.length_take, Nat.min_eq_left (by have := HN.out; omega)] at h1
        rw [Nat.pow_mul]
        exact h1
      have hb9 : b.toNat * 2 ^ (8 * i) < 18446744073709551616 := by
        have h1 : 2 ^ (8 * i) ≤ 2 ^ 56 := Nat.pow_le_pow_right (by decide) (by omega)
        have h2 := b.toNat_lt
        have h3 : b.toNat * 2 ^ (8 * i) ≤ 255 * 2 ^ 56 := Nat.mul_le_mul (by omega) h1
        omega
      have hor := orAdd (acc : Int) (2 ^ (8 * i)) acc b.toNat (8 * i) rfl (by simp) hacl hb9 (by omega)
      obtain ⟨acc', hacc'⟩ : ∃ acc', acc' = acc + b.toNat * 2 ^ (8 * i) := ⟨_, rfl⟩
      rw [← hacc'] at hor
      have HACC' : Hid (acc' = leB (r.take (i + 1))) := Lib.hid (by
        rw [take_snoc HB.out, leB_snoc, ← HACC.out, hacc', Nat.pow_mul, List.length_take, Nat.min_eq_left (by have := HN.out; omega)])
      clear hacl hb9 hacc'
      repeat' (first | go_skip | go_guarded | go_step)
      go_roundg (n - (i + 1))
      case measure => omega
      case rel => exact ⟨i + 1, by rw [← HACC'.out], by go_num, by omega, Nat.le_refl _, rfl⟩
    · obtain rfl : i = n := by omega
      have d1 : decide (i < i) = false := by simp
      have ht : r.take i = r := List.take_of_length_le (by have := HN.out; omega)
      rw [ht]
      repeat' (first | go_skip | go_guarded | go_step)
      go_ret
      exact ⟨rfl, HI.out.1, HI.out.2.1⟩

set_option maxRecDepth 100000 in
theorem end_c {V : Nat → Prop} {g : Nat} {w : World} {l : List UInt8} {e : Nat} (h : InAt V g w l e) :
    Calls Tryz.prog 26 #[ptr g] w fun x w' => x = .returned (.int .i64 (((if l = [] then (l, e) else sFail 9 (l, e)) : St2).2 : Int)) ∧ InAt V g w' l ((if l = [] then (l, e) else sFail 9 (l, e)) : St2).2 ∧ One g w w' := by
  have HL := Lib.hid (left_c h)
  have HF := Lib.hid (fail_c h 9)
  have HH := Lib.hid h
  clear h
  by_cases hl : l = []
  · rw [if_pos hl]
    have hl0 : l.length = 0 := by rw [hl]; rfl
    rw [hl0] at HL
    have HE := Lib.hid (err_c HH.out)
    clear hl hl0
    go_enter Tryz.func26, Tryz.ntmps26
    repeat' (first
      | (go_at_call 29; refine HL.out.mono ?_; rintro x w1 ⟨rfl, rfl⟩; go_simp)
      | (go_at_call 30; refine HE.out.mono ?_; rintro x w1 ⟨rfl, rfl⟩; go_simp)
      | go_skip | go_guarded | go_step)
    go_ret
    exact ⟨rfl, HH.out, One.refl _⟩
  · rw [if_neg hl]
    have hpos : 0 < l.length := List.length_pos_iff.2 hl
    obtain ⟨n, hn⟩ : ∃ n, n = l.length := ⟨_, rfl⟩
    rw [← hn] at HL hpos
    clear hl hn
    go_enter Tryz.func26, Tryz.ntmps26
    repeat' (first
      | (go_at_call 29; refine HL.out.mono ?_; rintro x w1 ⟨rfl, rfl⟩; go_simp)
      | (go_at_call 20; refine HF.out.mono ?_; rintro x w1 ⟨rfl, hI, hO⟩; have HE := Lib.hid (err_c hI); replace hI := Lib.hid hI; replace hO := Lib.hid hO; go_simp)
      | (go_at_call 30; refine HE.out.mono ?_; rintro x w2 ⟨rfl, rfl⟩; go_simp)
      | go_skip | go_guarded | go_step)
    go_ret
    exact ⟨rfl, hI.out, hO.out⟩
end Go.Proofs.YtigoffdehdobiaaGreat
