/- The span of a beginning has just the keys that begin so: plain; the document's Begins. -/
import Derived.Test.YtaehdkgmkjhmgaaSo
namespace Go.Proofs.Ytaehdkgmkjhmgaa
open Go.RowKit Go.QS
set_option linter.unusedVariables false

theorem trim_cons (c : UInt8) (p : List UInt8) : trim (c :: p) = if trim p = 0 then (if c = 255 then 0 else 1) else trim p + 1 := by
  unfold trim
  rw [List.reverse_cons, List.dropWhile_append]
  by_cases h : (p.reverse.dropWhile fun b => b == 255) = []
  · rw [h]
    simp only [List.isEmpty_nil, if_true, List.length_nil]
    by_cases hc : c = 255
    · simp [hc]
    · simp [hc]
  · have h2 : (p.reverse.dropWhile fun b => b == 255).isEmpty = false := by
      cases hh : (p.reverse.dropWhile fun b => b == 255) with
      | nil => exact absurd hh h
      | cons a b => rfl
    rw [h2]
    have h3 : (p.reverse.dropWhile fun b => b == 255).length ≠ 0 := fun e => h (List.eq_nil_of_length_eq_zero e)
    rw [if_neg h3]
    simp
theorem abv_zero {p : List UInt8} (h : trim p = 0) : abv p = ([], false) := by
  unfold abv
  split <;> simp [h]
theorem abv_pos {p : List UInt8} (h : trim p ≠ 0) : ∃ x, p[trim p - 1]? = some x ∧ abv p = (p.take (trim p - 1) ++ [x + 1], true) := by
  have hl := trim_le p
  obtain ⟨x, hx⟩ := get_of_lt p (show trim p - 1 < p.length by omega)
  refine ⟨x, hx, ?_⟩
  unfold abv
  rw [hx]
  simp [h]
theorem abv_cons (c : UInt8) (p : List UInt8) : abv (c :: p) = if (abv p).2 then (c :: (abv p).1, true) else if c = 255 then ([], false) else ([c + 1], true) := by
  by_cases h : trim p = 0
  · rw [abv_zero h]
    simp only [Bool.false_eq_true, if_false]
    have ht := trim_cons c p
    rw [if_pos h] at ht
    by_cases hc : c = 255
    · rw [if_pos hc] at ht ⊢
      exact abv_zero ht
    · rw [if_neg hc] at ht ⊢
      obtain ⟨x, hx, he⟩ := abv_pos (p := c :: p) (by omega)
      rw [he, ht]
      rw [ht] at hx
      simp at hx
      subst hx
      rfl
  · obtain ⟨x, hx, he⟩ := abv_pos h
    have ht := trim_cons c p
    rw [if_neg h] at ht
    obtain ⟨y, hy, he'⟩ := abv_pos (p := c :: p) (by omega)
    rw [he', he, ht]
    simp only [if_true]
    rw [ht] at hy
    obtain ⟨m, hm⟩ : ∃ m, trim p = m + 1 := ⟨trim p - 1, by omega⟩
    rw [hm] at hx hy ⊢
    simp only [Nat.add_sub_cancel, List.getElem?_cons_succ] at hx hy ⊢
    rw [hx] at hy
    cases hy
    simp

theorem pfx_iff : ∀ (p k : List UInt8), (¬ k < p ∧ ((abv p).2 = false ∨ k < (abv p).1)) ↔ k.take p.length = p
  | [], k => by
    rw [abv_zero (p := []) rfl]
    simp
  | c :: p, [] => by simp
  | c :: p, d :: k => by
    have ih := pfx_iff p k
    have hlt : ∀ (x y : UInt8) (a b : List UInt8), x :: a < y :: b ↔ x.toNat < y.toNat ∨ (x = y ∧ a < b) := by
      intro x y a b
      rw [List.cons_lt_cons_iff, UInt8.lt_iff_toNat_lt]
    have htk : (d :: k).take (c :: p).length = c :: p ↔ d = c ∧ k.take p.length = p := by simp
    rw [htk, abv_cons, hlt]
    cases hb : (abv p).2 with
    | true =>
      rw [hb] at ih
      simp only [if_true, Bool.true_eq_false, false_or] at ih ⊢
      rw [hlt, ← ih]
      constructor
      · rintro ⟨h1, h2⟩
        rcases h2 with h2 | ⟨rfl, h2⟩
        · exact absurd (.inl h2) h1
        · exact ⟨rfl, fun h => h1 (.inr ⟨rfl, h⟩), h2⟩
      · rintro ⟨rfl, h1, h2⟩
        refine ⟨?_, .inr ⟨rfl, h2⟩⟩
        rintro (h | ⟨_, h⟩)
        · omega
        · exact h1 h
    | false =>
      rw [hb] at ih
      simp only [Bool.false_eq_true, if_false, true_or, and_true] at ih ⊢
      have hcd := UInt8.toNat_lt c
      have hdd := UInt8.toNat_lt d
      by_cases hc : c = 255
      · rw [if_pos hc]
        simp only [true_or, and_true]
        rw [← ih]
        have hc2 : c.toNat = 255 := by rw [hc]; rfl
        constructor
        · intro h1
          have : ¬ d.toNat < c.toNat := fun h => h1 (.inl h)
          have hd : d = c := UInt8.toNat_inj.1 (by omega)
          exact ⟨hd, fun h => h1 (.inr ⟨hd, h⟩)⟩
        · rintro ⟨rfl, h1⟩
          rintro (h | ⟨_, h⟩)
          · omega
          · exact h1 h
      · rw [if_neg hc]
        simp only [Bool.true_eq_false, false_or]
        have hc2 : c.toNat < 255 := by
          have : c.toNat ≠ 255 := fun e => hc (UInt8.toNat_inj.1 e)
          omega
        have hc1 : (c + 1).toNat = c.toNat + 1 := by rw [UInt8.toNat_add]; show (c.toNat + 1) % 256 = _; omega
        rw [hlt, hc1, ← ih]
        constructor
        · rintro ⟨h1, h2⟩
          have h3 : ¬ d.toNat < c.toNat := fun h => h1 (.inl h)
          rcases h2 with h2 | ⟨_, h2⟩
          · have hd : d = c := UInt8.toNat_inj.1 (by omega)
            exact ⟨hd, fun h => h1 (.inr ⟨hd, h⟩)⟩
          · exact absurd h2 (List.not_lt_nil _)
        · rintro ⟨rfl, h1⟩
          refine ⟨?_, .inl (by omega)⟩
          rintro (h | ⟨_, h⟩)
          · omega
          · exact h1 h

theorem pfx_has (p k : List UInt8) : (Sp.pfx p).has k = begins k p := by
  rw [Bool.eq_iff_iff]
  have := pfx_iff p k
  unfold Sp.has Sp.pfx begins
  simp only [Bool.and_eq_true, Bool.not_eq_true', decide_eq_false_iff_not, Bool.or_eq_true, decide_eq_true_eq, beq_iff_eq, Bool.not_eq_eq_eq_not, Bool.not_true] at this ⊢
  exact this
theorem all_has (k : List UInt8) : Sp.has ⟨[], [], true⟩ k = true := by
  have := List.not_lt_nil k
  simp [Sp.has, this]

theorem common_begins : ∀ (s p : List UInt8), (common s p = p.length) ↔ s.take p.length = p
  | s, [] => by cases s <;> simp [common]
  | [], c :: p => by simp [common]
  | d :: s, c :: p => by
    have ih := common_begins s p
    unfold common
    by_cases h : d = c
    · subst h; simp [ih]
    · simp [h]

set_option maxRecDepth 100000 in
set_option maxHeartbeats 1000000 in
theorem rcommon_c (w : World) (a b : List UInt8) (ha : a.length ≤ 9223372036854775807) (hb : b.length ≤ 9223372036854775807) :
    Calls Try.prog 57 #[str a, str b] w fun e w' => e = .returned (.int .i64 (common a b)) ∧ Ext w w' := by
  go_enter Try.func57, Try.ntmps57
  repeat' go_step
  go_loopg [5] a.length (fun gk vk wr => ∃ k : Nat, vk = .int .i64 k ∧ k ≤ a.length ∧ k ≤ b.length ∧ a.length - k ≤ gk ∧ Ext w wr ∧ Hid (a.take k = b.take k))
  case atStart => exact ⟨0, rfl, Nat.zero_le _, Nat.zero_le _, Nat.le_refl _, Ext.refl _, Lib.hid rfl⟩
  case round =>
    obtain ⟨k, rfl, hka, hkb, hgk, hE, HT⟩ := hrel
    by_cases h1 : k < a.length
    · have d1 : decide (k < a.length) = true := by simp [h1]
      by_cases h2 : k < b.length
      · have d2 : decide (k < b.length) = true := by simp [h2]
        obtain ⟨x, hx⟩ := get_of_lt a h1
        obtain ⟨y, hy⟩ := get_of_lt b h2
        have i1 := idx_str Try.underlying9 hx
        have i2 := idx_str Try.underlying9 hy
        have HX : Hid (_ ∧ _) := Lib.hid ⟨hx, hy⟩
        clear hx hy
        by_cases hxy : x = y
        · subst hxy
          have hne : ((x.toNat : Int) == (x.toNat : Int)) = true := by simp
          repeat' (first | go_skip | go_guarded | go_step)
          go_quiet (fail)
          repeat' go_step
          go_roundg (a.length - (k + 1))
          case measure => omega
          case rel => exact ⟨k + 1, by go_num, by omega, by omega, Nat.le_refl _, below_drewN hE _, Lib.hid (by rw [take_snoc HX.out.1, take_snoc HX.out.2, HT.out])⟩
        · have hxy' : x.toNat ≠ y.toNat := fun e => hxy (UInt8.toNat_inj.1 e)
          have hne : ((x.toNat : Int) == (y.toNat : Int)) = false := by rw [beq_eq_false_iff_ne]; omega
          have hne' : (x.toNat == y.toNat) = false := by rw [beq_eq_false_iff_ne]; exact hxy'
          have HL : Hid (common a b = k) := Lib.hid (common_at hka hkb HT.out (.inr (.inr (by rw [HX.out.1, HX.out.2]; exact fun e => hxy (Option.some.inj e)))))
          clear hxy hxy'
          repeat' (first | go_skip | go_guarded | go_step)
          go_quiet (fail)
          repeat' go_step
          go_ret
          refine ⟨?_, below_drewN hE _⟩
          rw [HL.out]; rfl
      · have d2 : decide (k < b.length) = false := by simp; omega
        have HL : Hid (common a b = k) := Lib.hid (common_at hka hkb HT.out (.inr (.inl (by omega))))
        repeat' (first | go_skip | go_guarded | go_step)
        go_quiet (fail)
        repeat' go_step
        go_ret
        refine ⟨?_, below_drewN hE _⟩
        rw [HL.out]; rfl
    · have d1 : decide (k < a.length) = false := by simp; omega
      have HL : Hid (common a b = k) := Lib.hid (common_at hka hkb HT.out (.inl (by omega)))
      repeat' (first | go_skip | go_guarded | go_step)
      go_quiet (fail)
      repeat' go_step
      go_ret
      refine ⟨?_, below_drewN hE _⟩
      rw [HL.out]; rfl

set_option maxRecDepth 100000 in
theorem rbegins_c (w : World) (a b : List UInt8) (ha : a.length ≤ 9223372036854775807) (hb : b.length ≤ 9223372036854775807) :
    Calls Try.prog 20 #[str a, str b] w fun e w' => e = .returned (.bool (begins a b)) ∧ Ext w w' := by
  have HC := Lib.hid (rcommon_c w a b ha hb)
  have he : ((common a b : Int) == (b.length : Int)) = begins a b := by
    have := common_begins a b
    rw [Bool.eq_iff_iff]
    unfold begins
    rw [beq_iff_eq, beq_iff_eq, ← this]
    omega
  clear ha hb
  go_enter Try.func20, Try.ntmps20
  repeat' (first | (go_at_call 57; refine HC.out.mono ?_; rintro e w1 ⟨rfl, f1⟩; replace f1 := Lib.hid f1; go_simp) | go_skip | go_guarded | go_step)
  go_ret
  exact ⟨rfl, f1.out⟩
end Go.Proofs.Ytaehdkgmkjhmgaa
