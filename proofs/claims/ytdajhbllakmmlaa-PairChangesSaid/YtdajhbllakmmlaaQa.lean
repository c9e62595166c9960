/- Contracts: Rises, Less, Right. -/
import Derived.Test.YtdajhbllakmmlaaPc
import Derived.Test.YtdajhbllakmmlaaRow
import Derived.Test.YtdajhbllakmmlaaFind
import Derived.Deep.LoopGhost
namespace Go.Proofs.Ytdajhbllakmmlaa
open Go.RowKit Go.QS
set_option linter.unusedVariables false

set_option maxRecDepth 100000 in
theorem rises_c (w : World) (v : Value) (l : List Pr) (h : PS w v l) (h9 : l.length ≤ 1000000000) :
    Calls Try.prog 15 #[v] w fun e w' => e = .returned (.bool (riseB l)) ∧ Ext w w' := by
  obtain ⟨A, c, rfl, hl, hn, hc, hs⟩ := h
  obtain ⟨n, hn2⟩ : ∃ n, n = l.length := ⟨_, rfl⟩
  rw [← hn2] at h9 hn ⊢
  have Hn := Lib.hid hn2
  clear hn2 hl
  go_enter Try.func15, Try.ntmps15
  repeat' go_step
  go_loopg [3] n (fun gk vk wr => ∃ k : Nat, vk = .int .i64 k ∧ 1 ≤ k ∧ n - k ≤ gk ∧ k ≤ 1000000001 ∧ Ext w wr ∧ Hid (∀ i p q, i + 1 < k → l[i]? = some p → l[i + 1]? = some q → p.1 < q.1))
  case atStart => exact ⟨1, rfl, Nat.le_refl _, by omega, by omega, Ext.refl _, Lib.hid fun i p q h => by omega⟩
  case round =>
    obtain ⟨k, rfl, hk1, hgk, hk9, hb, HI⟩ := hrel
    by_cases hlt : k < n
    · have d1 : decide (k < n) = true := by simp [hlt]
      obtain ⟨k0, hk0⟩ : ∃ k0, k = k0 + 1 := ⟨k - 1, by omega⟩
      obtain ⟨q, hq⟩ := get_of_lt l (show k < l.length by have := Hn.out; omega)
      obtain ⟨p, hp⟩ := get_of_lt l (show k0 < l.length by have := Hn.out; omega)
      obtain ⟨b, o, rfl, hq1, hq2⟩ := seg_pair (hs.below hb) hq
      obtain ⟨b', o', hA, hp1, hp2⟩ := seg_pair (hs.below hb) hp
      simp only [Option.some.injEq, Addr.mk.injEq, and_true] at hA
      obtain ⟨rfl, rfl⟩ := hA
      have hs1 : IntKind.i64.wrap ((k : Int) - 1) = (k0 : Int) := by rw [show (k : Int) - 1 = (k0 : Int) by omega]; exact IntWalk.i64_in _ (by omega)
      have hi1 : (k : Int) < (n : Int) := by omega
      have hi2 : (k0 : Int) < (n : Int) := by omega
      have HK : Hid (_ ∧ _ ∧ _) := Lib.hid ⟨hk0, hq, hp⟩
      clear hk0 hq hp
      by_cases hpq : p.1 < q.1
      · have hl : Op.bytesLess p.1 q.1 = true := by rw [bless]; simp [hpq]
        have Hp := Lib.hid hpq
        clear hpq
        repeat' go_step
        go_quiet (fail)
        repeat' go_step
        go_roundg (n - (k + 1))
        case measure => omega
        case rel =>
          refine ⟨k + 1, by go_num, by omega, Nat.le_refl _, by omega, below_drewN hb _, Lib.hid fun i p' q' h h1 h2 => ?_⟩
          obtain ⟨hk0, hq, hp⟩ := HK.out
          by_cases hi : i + 1 < k
          · exact HI.out i p' q' hi h1 h2
          · have : i = k0 := by omega
            subst this
            rw [hp] at h1; rw [← hk0, hq] at h2
            cases h1; cases h2
            exact Hp.out
      · have hl : Op.bytesLess p.1 q.1 = false := by rw [bless]; simp [hpq]
        have Hp := Lib.hid hpq
        clear hpq
        repeat' go_step
        go_quiet (fail)
        repeat' go_step
        go_ret
        refine ⟨?_, below_drewN hb _⟩
        have : riseB l = false := by
          rw [Bool.eq_false_iff]
          intro hh
          obtain ⟨hk0, hq, hp⟩ := HK.out
          exact Hp.out ((riseB_idx l).1 hh k0 p q hp (by rw [← hk0]; exact hq))
        rw [this]; rfl
    · have d1 : decide (k < n) = false := by simp; omega
      repeat' go_step
      go_ret
      refine ⟨?_, hb⟩
      have : riseB l = true := (riseB_idx l).2 fun i p q hp hq => HI.out i p q (by have := (List.getElem?_eq_some_iff.1 hq).1; have := Hn.out; omega) hp hq
      rw [this]; rfl

set_option maxRecDepth 100000 in
theorem less_c' (w : World) (a b : List UInt8) (ha : a.length ≤ 9223372036854775807) :
    Calls Try.prog 30 #[str a, str b] w fun e w' => e = .returned (.bool (decide (a < b))) ∧ Ext w w' := by
  go_enter Try.func30, Try.ntmps30
  repeat' go_step
  go_loopg [5] a.length (fun gk vk wr => ∃ k : Nat, vk = .int .i64 k ∧ k ≤ a.length ∧ k ≤ b.length ∧ a.length - k ≤ gk ∧ Ext w wr ∧ Hid (a.take k = b.take k))
  case atStart => exact ⟨0, rfl, Nat.zero_le _, Nat.zero_le _, Nat.le_refl _, Ext.refl _, Lib.hid rfl⟩
  case round =>
    obtain ⟨k, rfl, hka, hkb, hgk, hE, HT⟩ := hrel
    by_cases h1 : k < a.length
    · have d1 : decide (k < a.length) = true := by simp [h1]
      by_cases h2 : k < b.length
      · have d2 : decide (k < b.length) = true := by simp [h2]
        obtain ⟨x, hx⟩ := get_of_lt a h1
        obtain ⟨y, hy⟩ := get_of_lt b h2
        have i1 := idx_str Try.underlying9 hx
        have i2 := idx_str Try.underlying9 hy
        have HX : Hid (_ ∧ _) := Lib.hid ⟨hx, hy⟩
        clear hx hy
        by_cases hxy : x = y
        · subst hxy
          have hne : ((x.toNat : Int) != (x.toNat : Int)) = false := by simp
          repeat' (first | go_skip | go_guarded | go_step)
          go_quiet (fail)
          repeat' go_step
          go_roundg (a.length - (k + 1))
          case measure => omega
          case rel => exact ⟨k + 1, by go_num, by omega, by omega, Nat.le_refl _, below_drewN hE _, Lib.hid (by rw [take_snoc HX.out.1, take_snoc HX.out.2, HT.out])⟩
        · have hxy' : x.toNat ≠ y.toNat := fun e => hxy (UInt8.toNat_inj.1 e)
          have hne : ((x.toNat : Int) != (y.toNat : Int)) = true := by rw [bne_iff_ne]; omega
          have hne' : (x.toNat != y.toNat) = true := by rw [bne_iff_ne]; exact hxy'
          have HL := Lib.hid (less_at HT.out HX.out.1 HX.out.2 hxy)
          clear hxy hxy'
          repeat' (first | go_skip | go_guarded | go_step)
          go_quiet (fail)
          repeat' go_step
          go_quiet (fail)
          repeat' go_step
          go_ret
          refine ⟨?_, below_drewN (below_drewN hE _) _⟩
          have : decide (a < b) = decide (x.toNat < y.toNat) := by simp [HL.out]
          rw [this]; rfl
      · have d2 : decide (k < b.length) = false := by simp; omega
        have HL := Lib.hid (less_pre HT.out (.inr (by omega)) hka hkb)
        repeat' (first | go_skip | go_guarded | go_step)
        go_ret
        refine ⟨?_, hE⟩
        have : decide (a < b) = decide (a.length < b.length) := by simp [HL.out]
        rw [this]; rfl
    · have d1 : decide (k < a.length) = false := by simp; omega
      have HL := Lib.hid (less_pre HT.out (.inl (by omega)) hka hkb)
      repeat' (first | go_skip | go_guarded | go_step)
      go_ret
      refine ⟨?_, hE⟩
      have : decide (a < b) = decide (a.length < b.length) := by simp [HL.out]
      rw [this]; rfl

set_option maxRecDepth 100000 in
theorem rrises_c (w : World) (v : Value) (l : List Pr) (h : PS w v l) (h9 : l.length ≤ 1000000000) (hk9 : ∀ p ∈ l, p.1.length ≤ 9223372036854775807) :
    Calls Try.prog 16 #[v] w fun e w' => e = .returned (.bool (riseB l)) ∧ Ext w w' := by
  obtain ⟨A, c, rfl, hl, hn, hc, hs⟩ := h
  obtain ⟨n, hn2⟩ : ∃ n, n = l.length := ⟨_, rfl⟩
  rw [← hn2] at h9 hn ⊢
  have Hn := Lib.hid hn2
  have H9 := Lib.hid hk9
  clear hn2 hl hk9
  go_enter Try.func16, Try.ntmps16
  repeat' go_step
  go_loopg [3] n (fun gk vk wr => ∃ k : Nat, vk = .int .i64 k ∧ n - k ≤ gk ∧ k ≤ 1000000000 ∧ Ext w wr ∧ Hid (∀ i p q, i < k → l[i]? = some p → l[i + 1]? = some q → p.1 < q.1))
  case atStart => exact ⟨0, rfl, by omega, by omega, Ext.refl _, Lib.hid fun i p q h => by omega⟩
  case round =>
    obtain ⟨k, rfl, hgk, hk9, hb, HI⟩ := hrel
    obtain ⟨k1, hk1⟩ : ∃ k1, k1 = k + 1 := ⟨_, rfl⟩
    have hs0 : (k : Int) + 1 = (k1 : Int) := by omega
    have hkk : k < k1 ∧ k1 ≤ 1000000001 := by omega
    obtain ⟨hkk1, hkk2⟩ := hkk
    by_cases hlt : k1 < n
    · have d1 : decide (k1 < n) = true := by simp [hlt]
      obtain ⟨q, hq⟩ := get_of_lt l (show k1 < l.length by have := Hn.out; omega)
      obtain ⟨p, hp⟩ := get_of_lt l (show k < l.length by have := Hn.out; omega)
      obtain ⟨b, o, rfl, hq1, hq2⟩ := seg_pair (hs.below hb) hq
      obtain ⟨b', o', hA, hp1, hp2⟩ := seg_pair (hs.below hb) hp
      simp only [Option.some.injEq, Addr.mk.injEq, and_true] at hA
      obtain ⟨rfl, rfl⟩ := hA
      have hs1 : IntKind.i64.wrap (k1 : Int) = (k1 : Int) := IntWalk.i64_in _ (by omega)
      have hi1 : (k : Int) < (n : Int) := by omega
      have hi2 : (k1 : Int) < (n : Int) := by omega
      have hpl := H9.out p (List.mem_of_getElem? hp)
      have HK : Hid (_ ∧ _ ∧ _) := Lib.hid ⟨hk1, hq, hp⟩
      clear hk1 hq hp
      repeat' go_step
      go_still_tail 11, (by kernel_rfl)
      change wpList _ _ _ _ _ wr.drew
      repeat' (first | go_skip | go_guarded | go_step)
      refine (less_c' _ p.1 q.1 hpl).mono ?_
      rintro e w1 ⟨rfl, hb1⟩
      have hE1 : Ext w w1 := hb.drew.trans (hb1.mono hb.size)
      by_cases hpq : p.1 < q.1
      · have hd : decide (p.1 < q.1) = true := by simp [hpq]
        have Hp := Lib.hid hpq
        clear hpq
        go_simp
        repeat' go_step
        go_roundg (n - k1)
        case measure => omega
        case rel =>
          refine ⟨k1, rfl, Nat.le_refl _, by omega, hE1, Lib.hid fun i p' q' h h1 h2 => ?_⟩
          obtain ⟨hk1, hq, hp⟩ := HK.out
          by_cases hi : i < k
          · exact HI.out i p' q' hi h1 h2
          · have : i = k := by omega
            subst this
            rw [hp] at h1; rw [← hk1, hq] at h2
            cases h1; cases h2
            exact Hp.out
      · have hd : decide (p.1 < q.1) = false := by simp [hpq]
        have Hp := Lib.hid hpq
        clear hpq
        go_simp
        repeat' go_step
        go_ret
        refine ⟨?_, hE1⟩
        have : riseB l = false := by
          rw [Bool.eq_false_iff]
          intro hh
          obtain ⟨hk1, hq, hp⟩ := HK.out
          exact Hp.out ((riseB_idx l).1 hh k p q hp (by rw [← hk1]; exact hq))
        rw [this]; rfl
    · have d1 : decide (k1 < n) = false := by simp; omega
      have HK := Lib.hid hk1
      clear hk1
      repeat' go_step
      go_ret
      refine ⟨?_, hb⟩
      have : riseB l = true := (riseB_idx l).2 fun i p q hp hq => HI.out i p q (by have := (List.getElem?_eq_some_iff.1 hq).1; have := Hn.out; have := HK.out; omega) hp hq
      rw [this]; rfl
end Go.Proofs.Ytdajhbllakmmlaa
