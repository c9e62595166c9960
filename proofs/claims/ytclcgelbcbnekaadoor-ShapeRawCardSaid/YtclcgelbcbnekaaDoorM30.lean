/- Texts joined. -/
import Derived.Test.YtclcgelbcbnekaaDoorRows
import Derived.Test.YtclcgelbcbnekaaDoorM00
import Derived.Test.YtclcgelbcbnekaaDoorM12
import Derived.Test.YtclcgelbcbnekaaDoorM02
import Derived.Deep.LoopGhost
set_option linter.unusedVariables false
set_option linter.unusedSimpArgs false
/- Contracts of the small functions of the pair chapter. -/
namespace Go.Proofs.YtclcgelbcbnekaaDoor
open Go.RowKit Go.QS
set_option linter.unusedVariables false

abbrev zPa : Value := .agg #[.string ⟨#[]⟩, .string ⟨#[]⟩]
theorem infoP : ∃ i z, Tryd.prog.info? 45 = some i ∧ i.zero = some z ∧ i.size = 2 ∧ i.bytes = 32 ∧ z.cells.size = 2 := info_of (z := zPa) (by kernel_rfl) rfl
theorem infoR : ∃ i z, Tryd.prog.info? 52 = some i ∧ i.zero = some z ∧ i.size = 2 ∧ i.bytes = 32 ∧ z.cells.size = 2 := info_of (z := zPa) (by kernel_rfl) rfl

end Go.Proofs.YtclcgelbcbnekaaDoor
/- Contracts: comparing. -/
namespace Go.Proofs.YtclcgelbcbnekaaDoor
open Go.RowKit Go.QS
set_option linter.unusedVariables false

set_option maxRecDepth 100000 in
theorem isnan_c (w : World) (a : List UInt8) : Calls Tryd.prog 107 #[str a] w fun e w' => e = .returned (.bool false) ∧ w = w' := by
  go_enter Tryd.func107, Tryd.ntmps107
  repeat' go_step
  go_ret
  exact ⟨by simp, rfl⟩

set_option maxRecDepth 100000 in
theorem compare_c (w : World) (a b : List UInt8) : Calls Tryd.prog 106 #[str a, str b] w fun e w' => e = .returned (.int .i64 (cmpB a b)) ∧ w = w' := by
  have hl := bless a b
  have hl' := bless b a
  rcases k_tri a b with h | h | h
  · have e1 : decide (a < b) = true := by simp [h]
    rw [e1] at hl
    have H := Lib.hid h; clear h e1 hl'
    go_enter Tryd.func106, Tryd.ntmps106
    repeat' (first | (go_at_call 107; refine (isnan_c _ _).mono ?_; rintro e w' ⟨rfl, rfl⟩; go_simp) | go_step)
    go_ret
    exact ⟨by simp [cmpB, H.out], rfl⟩
  · subst h
    have e1 : decide (a < a) = false := by simp [k_irrefl]
    rw [e1] at hl
    clear e1 hl'
    go_enter Tryd.func106, Tryd.ntmps106
    repeat' (first | (go_at_call 107; refine (isnan_c _ _).mono ?_; rintro e w' ⟨rfl, rfl⟩; go_simp) | go_step)
    go_ret
    exact ⟨by simp [cmpB, k_irrefl], rfl⟩
  · have e1 : decide (a < b) = false := by simp [k_asymm h]
    rw [e1] at hl
    have e2 : (a == b) = false := by simp [(k_ne h).symm]
    have H := Lib.hid h; have H' := Lib.hid (k_asymm h); clear h e1 hl'
    go_enter Tryd.func106, Tryd.ntmps106
    repeat' (first | (go_at_call 107; refine (isnan_c _ _).mono ?_; rintro e w' ⟨rfl, rfl⟩; go_simp) | go_step)
    go_ret
    exact ⟨by simp [cmpB, H.out, H'.out], rfl⟩

set_option maxRecDepth 100000 in
theorem order_c (w : World) (p : Pr) (b : List UInt8) : Calls Tryd.prog 100 #[.agg #[str p.1, str p.2], str b] w fun e w' => e = .returned (.int .i64 (cmpB p.1 b)) ∧ Ext w w' := by
  go_enter Tryd.func100, Tryd.ntmps100
  repeat' (first | (go_at_call 106; refine (compare_c _ _ _).mono ?_; rintro e w' ⟨rfl, rfl⟩; go_simp) | go_step)
  go_ret
  exact ⟨rfl, (Ext.refl _).alloc (Nat.le_refl _) _⟩

end Go.Proofs.YtclcgelbcbnekaaDoor
/- Contracts: Rises, Less, Right. -/
namespace Go.Proofs.YtclcgelbcbnekaaDoor
open Go.RowKit Go.QS
set_option linter.unusedVariables false

set_option maxRecDepth 100000 in
theorem rises_c (w : World) (v : Value) (l : List Pr) (h : PS w v l) (h9 : l.length ≤ 1000000000) :
    Calls Tryd.prog 64 #[v] w fun e w' => e = .returned (.bool (riseB l)) ∧ Ext w w' := by
  obtain ⟨A, c, rfl, hl, hn, hc, hs⟩ := h
  obtain ⟨n, hn2⟩ : ∃ n, n = l.length := ⟨_, rfl⟩
  rw [← hn2] at h9 hn ⊢
  have Hn := Lib.hid hn2
  clear hn2 hl
  go_enter Tryd.func64, Tryd.ntmps64
  repeat' go_step
  go_loopg [3] n (fun gk vk wr => ∃ k : Nat, vk = .int .i64 k ∧ 1 ≤ k ∧ n - k ≤ gk ∧ k ≤ 1000000001 ∧ Ext w wr ∧ Hid (∀ i p q, i + 1 < k → l[i]? = some p → l[i + 1]? = some q → p.1 < q.1))
  case atStart => exact ⟨1, rfl, Nat.le_refl _, by omega, by omega, Ext.refl _, Lib.hid fun i p q h => by omega⟩
  case round =>
    obtain ⟨k, rfl, hk1, hgk, hk9, hb, HI⟩ := hrel
    by_cases hlt : k < n
    · have d1 : decide (k < n) = true := by simp [hlt]
      obtain ⟨k0, hk0⟩ : ∃ k0, k = k0 + 1 := ⟨k - 1, by omega⟩
      obtain ⟨q, hq⟩ := get_of_lt l (show k < l.length by have := Hn.out; omega)
      obtain ⟨p, hp⟩ := get_of_lt l (show k0 < l.length by have := Hn.out; omega)
      obtain ⟨b, o, rfl, hq1, hq2⟩ := seg_pair (hs.below hb) hq
      obtain ⟨b', o', hA, hp1, hp2⟩ := seg_pair (hs.below hb) hp
      simp only [Option.some.injEq, Addr.mk.injEq, and_true] at hA
      obtain ⟨rfl, rfl⟩ := hA
      have hs1 : IntKind.i64.wrap ((k : Int) - 1) = (k0 : Int) := by rw [show (k : Int) - 1 = (k0 : Int) by omega]; exact IntWalk.i64_in _ (by omega)
      have hi1 : (k : Int) < (n : Int) := by omega
      have hi2 : (k0 : Int) < (n : Int) := by omega
      have HK : Hid (_ ∧ _ ∧ _) := Lib.hid ⟨hk0, hq, hp⟩
      clear hk0 hq hp
      by_cases hpq : p.1 < q.1
      · have hl : Op.bytesLess p.1 q.1 = true := by rw [bless]; simp [hpq]
        have Hp := Lib.hid hpq
        clear hpq
        repeat' go_step
        go_quiet (fail)
        repeat' go_step
        go_roundg (n - (k + 1))
        case measure => omega
        case rel =>
          refine ⟨k + 1, by go_num, by omega, Nat.le_refl _, by omega, below_drewN hb _, Lib.hid fun i p' q' h h1 h2 => ?_⟩
          obtain ⟨hk0, hq, hp⟩ := HK.out
          by_cases hi : i + 1 < k
          · exact HI.out i p' q' hi h1 h2
          · have : i = k0 := by omega
            subst this
            rw [hp] at h1; rw [← hk0, hq] at h2
            cases h1; cases h2
            exact Hp.out
      · have hl : Op.bytesLess p.1 q.1 = false := by rw [bless]; simp [hpq]
        have Hp := Lib.hid hpq
        clear hpq
        repeat' go_step
        go_quiet (fail)
        repeat' go_step
        go_ret
        refine ⟨?_, below_drewN hb _⟩
        have : riseB l = false := by
          rw [Bool.eq_false_iff]
          intro hh
          obtain ⟨hk0, hq, hp⟩ := HK.out
          exact Hp.out ((riseB_idx l).1 hh k0 p q hp (by rw [← hk0]; exact hq))
        rw [this]; rfl
    · have d1 : decide (k < n) = false := by simp; omega
      repeat' go_step
      go_ret
      refine ⟨?_, hb⟩
      have : riseB l = true := (riseB_idx l).2 fun i p q hp hq => HI.out i p q (by have := (List.getElem?_eq_some_iff.1 hq).1; have := Hn.out; omega) hp hq
      rw [this]; rfl

set_option maxRecDepth 100000 in
theorem less_c' (w : World) (a b : List UInt8) (ha : a.length ≤ 9223372036854775807) :
    Calls Tryd.prog 55 #[str a, str b] w fun e w' => e = .returned (.bool (decide (a < b))) ∧ Ext w w' := by
  go_enter Tryd.func55, Tryd.ntmps55
  repeat' go_step
  go_loopg [5] a.length (fun gk vk wr => ∃ k : Nat, vk = .int .i64 k ∧ k ≤ a.length ∧ k ≤ b.length ∧ a.length - k ≤ gk ∧ Ext w wr ∧ Hid (a.take k = b.take k))
  case atStart => exact ⟨0, rfl, Nat.zero_le _, Nat.zero_le _, Nat.le_refl _, Ext.refl _, Lib.hid rfl⟩
  case round =>
    obtain ⟨k, rfl, hka, hkb, hgk, hE, HT⟩ := hrel
    by_cases h1 : k < a.length
    · have d1 : decide (k < a.length) = true := by simp [h1]
      by_cases h2 : k < b.length
      · have d2 : decide (k < b.length) = true := by simp [h2]
        obtain ⟨x, hx⟩ := get_of_lt a h1
        obtain ⟨y, hy⟩ := get_of_lt b h2
        have i1 := idx_str Tryd.underlying9 hx
        have i2 := idx_str Tryd.underlying9 hy
        have HX : Hid (_ ∧ _) := Lib.hid ⟨hx, hy⟩
        clear hx hy
        by_cases hxy : x = y
        · subst hxy
          have hne : ((x.toNat : Int) != (x.toNat : Int)) = false := by simp
          repeat' (first | go_skip | go_guarded | go_step)
          go_quiet (fail)
          repeat' go_step
          go_roundg (a.length - (k + 1))
          case measure => omega
          case rel => exact ⟨k + 1, by go_num, by omega, by omega, Nat.le_refl _, below_drewN hE _, Lib.hid (by rw [take_snoc HX.out.1, take_snoc HX.out.2, HT.out])⟩
        · have hxy' : x.toNat ≠ y.toNat := fun e => hxy (UInt8.toNat_inj.1 e)
          have hne : ((x.toNat : Int) != (y.toNat : Int)) = true := by rw [bne_iff_ne]; omega
          have hne' : (x.toNat != y.toNat) = true := by rw [bne_iff_ne]; exact hxy'
          have HL := Lib.hid (less_at HT.out HX.out.1 HX.out.2 hxy)
          clear hxy hxy'
          repeat' (first | go_skip | go_guarded | go_step)
          go_quiet (fail)
          repeat' go_step
          go_quiet (fail)
          repeat' go_step
          go_ret
          refine ⟨?_, below_drewN (below_drewN hE _) _⟩
          have : decide (a < b) = decide (x.toNat < y.toNat) := by simp [HL.out]
          rw [this]; rfl
      · have d2 : decide (k < b.length) = false := by simp; omega
        have HL := Lib.hid (less_pre HT.out (.inr (by omega)) hka hkb)
        repeat' (first | go_skip | go_guarded | go_step)
        go_ret
        refine ⟨?_, hE⟩
        have : decide (a < b) = decide (a.length < b.length) := by simp [HL.out]
        rw [this]; rfl
    · have d1 : decide (k < a.length) = false := by simp; omega
      have HL := Lib.hid (less_pre HT.out (.inl (by omega)) hka hkb)
      repeat' (first | go_skip | go_guarded | go_step)
      go_ret
      refine ⟨?_, hE⟩
      have : decide (a < b) = decide (a.length < b.length) := by simp [HL.out]
      rw [this]; rfl

end Go.Proofs.YtclcgelbcbnekaaDoor
