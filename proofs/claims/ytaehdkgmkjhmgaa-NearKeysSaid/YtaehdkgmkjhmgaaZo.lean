/- Contracts: the document's Begins and Longest. -/
import Derived.Test.YtaehdkgmkjhmgaaZe
import Derived.BigQuiet
import Derived.Deep.QuietTactic
namespace Go.Proofs.Ytaehdkgmkjhmgaa
open Go.RowKit Go.QS
set_option linter.unusedVariables false

theorem common_begins : ∀ (s p : List UInt8), (common s p = p.length) ↔ s.take p.length = p
  | s, [] => by cases s <;> simp [common]
  | [], c :: p => by simp [common]
  | d :: s, c :: p => by
    have ih := common_begins s p
    unfold common
    by_cases h : d = c
    · subst h; simp [ih]
    · simp [h]

def DN (w x : World) : Prop := ∃ m, x = w.drewN m
theorem DN.refl (w : World) : DN w w := ⟨0, rfl⟩
theorem DN.step {w x : World} (h : DN w x) (n : Nat) : DN w (x.drewN n) := by
  obtain ⟨m, rfl⟩ := h
  exact ⟨m + n, by simp⟩

set_option maxRecDepth 100000 in
set_option maxHeartbeats 1000000 in
theorem rcommon_c (w : World) (a b : List UInt8) (ha : a.length ≤ 9223372036854775807) (hb : b.length ≤ 9223372036854775807) :
    Calls Try.prog 57 #[str a, str b] w fun e w' => e = .returned (.int .i64 (common a b)) ∧ DN w w' := by
  go_enter Try.func57, Try.ntmps57
  repeat' go_step
  go_loopg [5] a.length (fun gk vk wr => ∃ k : Nat, vk = .int .i64 k ∧ k ≤ a.length ∧ k ≤ b.length ∧ a.length - k ≤ gk ∧ DN w wr ∧ Hid (a.take k = b.take k))
  case atStart => exact ⟨0, rfl, Nat.zero_le _, Nat.zero_le _, Nat.le_refl _, DN.refl _, Lib.hid rfl⟩
  case round =>
    obtain ⟨k, rfl, hka, hkb, hgk, hE, HT⟩ := hrel
    by_cases h1 : k < a.length
    · have d1 : decide (k < a.length) = true := by simp [h1]
      by_cases h2 : k < b.length
      · have d2 : decide (k < b.length) = true := by simp [h2]
        obtain ⟨x, hx⟩ := get_of_lt a h1
        obtain ⟨y, hy⟩ := get_of_lt b h2
        have i1 := idx_str Try.underlying9 hx
        have i2 := idx_str Try.underlying9 hy
        have HX : Hid (_ ∧ _) := Lib.hid ⟨hx, hy⟩
        clear hx hy
        by_cases hxy : x = y
        · subst hxy
          have hne : ((x.toNat : Int) == (x.toNat : Int)) = true := by simp
          repeat' (first | go_skip | go_guarded | go_step)
          go_quiet (fail)
          repeat' go_step
          go_roundg (a.length - (k + 1))
          case measure => omega
          case rel => exact ⟨k + 1, by go_num, by omega, by omega, Nat.le_refl _, hE.step _, Lib.hid (by rw [take_snoc HX.out.1, take_snoc HX.out.2, HT.out])⟩
        · have hxy' : x.toNat ≠ y.toNat := fun e => hxy (UInt8.toNat_inj.1 e)
          have hne : ((x.toNat : Int) == (y.toNat : Int)) = false := by rw [beq_eq_false_iff_ne]; omega
          have hne' : (x.toNat == y.toNat) = false := by rw [beq_eq_false_iff_ne]; exact hxy'
          have HL : Hid (common a b = k) := Lib.hid (common_at hka hkb HT.out (.inr (.inr (by rw [HX.out.1, HX.out.2]; exact fun e => hxy (Option.some.inj e)))))
          clear hxy hxy'
          repeat' (first | go_skip | go_guarded | go_step)
          go_quiet (fail)
          repeat' go_step
          go_ret
          refine ⟨?_, hE.step _⟩
          rw [HL.out]; rfl
      · have d2 : decide (k < b.length) = false := by simp; omega
        have HL : Hid (common a b = k) := Lib.hid (common_at hka hkb HT.out (.inr (.inl (by omega))))
        repeat' (first | go_skip | go_guarded | go_step)
        go_quiet (fail)
        repeat' go_step
        go_ret
        refine ⟨?_, hE.step _⟩
        rw [HL.out]; rfl
    · have d1 : decide (k < a.length) = false := by simp; omega
      have HL : Hid (common a b = k) := Lib.hid (common_at hka hkb HT.out (.inl (by omega)))
      repeat' (first | go_skip | go_guarded | go_step)
      go_quiet (fail)
      repeat' go_step
      go_ret
      refine ⟨?_, hE.step _⟩
      rw [HL.out]; rfl

set_option maxRecDepth 100000 in
theorem rbegins_c (w : World) (a b : List UInt8) (ha : a.length ≤ 9223372036854775807) (hb : b.length ≤ 9223372036854775807) :
    Calls Try.prog 20 #[str a, str b] w fun e w' => e = .returned (.bool (begins a b)) ∧ DN w w' := by
  have HC := Lib.hid (rcommon_c w a b ha hb)
  have he : ((common a b : Int) == (b.length : Int)) = begins a b := by
    have := common_begins a b
    rw [Bool.eq_iff_iff]
    unfold begins
    rw [beq_iff_eq, beq_iff_eq, ← this]
    omega
  clear ha hb
  go_enter Try.func20, Try.ntmps20
  repeat' (first | (go_at_call 57; refine HC.out.mono ?_; rintro e w1 ⟨rfl, f1⟩; replace f1 := Lib.hid f1; go_simp) | go_skip | go_guarded | go_step)
  go_ret
  exact ⟨rfl, f1.out⟩

set_option maxRecDepth 100000 in
set_option maxHeartbeats 1000000 in
theorem longest12_c (w : World) (v : Value) (x : List Pr) (key : List UInt8) (h : PS w v x) (hr : Rise x) (hx : x.length ≤ 1000) (hk : ∀ p ∈ x, p.1.length ≤ 1000) (hkey : key.length ≤ 1000) : Calls Try.prog 52 #[v, str key] w fun e w' => e = .returned (optR (longL key x)) ∧ Ext w w' := by
  have HP := Lib.hid h
  obtain ⟨A, c, rfl, hl, hn, hc, hs⟩ := h
  obtain ⟨n, hn2⟩ : ∃ n, n = x.length := ⟨_, rfl⟩
  rw [← hn2] at hn hx HP ⊢
  have Hn := Lib.hid hn2
  have HS := Lib.hid hs
  have HKX : Hid (Rise x ∧ ∀ p ∈ x, p.1.length ≤ 1000) := Lib.hid ⟨hr, hk⟩
  clear hn2 hl hs hk hr
  go_enter Try.func52, Try.ntmps52
  repeat' (go_not_at_region 1; (first | go_skip | go_guarded | go_step))
  obtain ⟨wa, hwa⟩ : ∃ wa, wa = w.alloc zq := ⟨_, rfl⟩
  obtain ⟨rb, hrb⟩ : ∃ rb, rb = w.heap.size := ⟨_, rfl⟩
  have hEa : Ext w wa := by rw [hwa]; exact (Ext.refl w).alloc (Nat.le_refl _) _
  have hba := heap_new w zq
  have hwa' : w.alloc (.cells #[.string ⟨#[]⟩, .string ⟨#[]⟩] 40) = wa := hwa.symm
  rw [← hwa, ← hrb] at hba
  rw [hwa', ← hrb]
  have hrl : w.heap.size ≤ rb := by omega
  have HA : Hid (Ext w wa ∧ wa.heap[rb]? = some (.cells #[.string ⟨#[]⟩, .string ⟨#[]⟩] 40 (0, 0))) := Lib.hid ⟨hEa, hba⟩
  clear hwa hrb hEa hba hwa'
  repeat' (go_not_at_region 3; (first | go_skip | go_guarded | go_step))
  go_loopg [6, 11] n (fun gk v6 v11 wr => ∃ (i : Nat) (best : Int), v6 = .int .i64 best ∧ v11 = .int .i64 i ∧ i ≤ n ∧ n - i ≤ gk ∧ (best = -1 ∨ ∃ m : Nat, best = m ∧ m < i) ∧ Hid (Ext wa wr ∧ atI x best = longL key (x.take i)))
  case atStart => exact ⟨0, -1, rfl, rfl, Nat.zero_le _, by omega, .inl rfl, Lib.hid ⟨Ext.refl _, rfl⟩⟩
  case round =>
    obtain ⟨i, best, rfl, rfl, hin, hgk, hbest, HI⟩ := hrel
    rcases Nat.lt_or_ge i n with hlt | hge
    · have d1 : decide (i < n) = true := by simp [hlt]
      obtain ⟨q, hq⟩ := get_of_lt x (show i < x.length by have := Hn.out; omega)
      have hsw := HS.out.below (Ext.trans HA.out.1 HI.out.1)
      obtain ⟨b, o, rfl, hq1, hq2⟩ := seg_pair hsw hq
      have hi1 : (i : Int) < (n : Int) := by omega
      have hql := HKX.out.2 q (List.mem_of_getElem? hq)
      have hst := longL_snoc key (x.take i) q
      rw [← take_snoc hq] at hst
      have HST : Hid (x[i]? = some q ∧ longL key (x.take (i + 1)) = if begB key q.1 = true then some q else longL key (x.take i)) := Lib.hid ⟨hq, hst⟩
      have HSW := Lib.hid hsw
      clear hq hst hsw
      repeat' (go_not_at_region 5; (first | go_skip | go_guarded | go_step))
      obtain ⟨w2, hw2⟩ : ∃ w2, w2 = wr.alloc (.cells #[str q.1, str q.2] 40) := ⟨_, rfl⟩
      obtain ⟨qb, hqb⟩ : ∃ qb, qb = wr.heap.size := ⟨_, rfl⟩
      have hE2 : Ext wr w2 := by rw [hw2]; exact (Ext.refl _).alloc (Nat.le_refl _) _
      have hb2 := heap_new wr (.cells #[str q.1, str q.2] 40)
      rw [← hw2, ← hqb] at hb2
      have hw2' := hw2.symm
      rw [hw2', ← hqb]
      have H2 : Hid (Ext wr w2 ∧ ∀ y, Ext w2 y → y.cell? ⟨qb, 0, none⟩ = some (str q.1)) := Lib.hid ⟨hE2, fun y hy => (bx_cells (bx_ext hb2 hy)).1⟩
      have k0 := H2.out.2 w2 (Ext.refl _)
      have hEE : Ext w2 w2 := Ext.refl _
      clear hw2 hqb hE2 hb2 hw2' hq1 hq2
      have HBG : Hid (∀ y, Calls Try.prog 20 #[str key, str q.1] y fun e y' => e = .returned (.bool (begB key q.1)) ∧ ∃ m, y' = y.drewN m) := Lib.hid fun y => rbegins_c y key q.1 (by omega) (by omega)
      cases hbq : begB key q.1 with
      | false =>
        rw [hbq] at HBG HST
        clear hbq
        go_quiet ((go_at_call 20; refine Calls.quiet_of (HBG.out _)))
        have hEq : ∀ n, Ext w2 (w2.drewN n) := fun n => below_drewN hEE n
        all_goals
          repeat' (first | go_skip | go_guarded | go_step)
          go_roundg (n - (i + 1))
          case measure => omega
          case rel =>
            refine ⟨i + 1, best, rfl, by go_num, by omega, Nat.le_refl _, ?_, Lib.hid ⟨Ext.trans HI.out.1 (Ext.trans H2.out.1 (hEq _)), ?_⟩⟩
            · rcases hbest with h | ⟨m, h1, h2⟩
              · exact .inl h
              · exact .inr ⟨m, h1, by omega⟩
            · rw [HST.out.2, HI.out.2]; rfl
      | true =>
        rw [hbq] at HBG HST
        have HBQ := Lib.hid hbq
        clear hbq
        rcases hbest with rfl | ⟨m, rfl, hmi⟩
        · go_quiet ((go_at_call 20; refine Calls.quiet_of (HBG.out _)))
          have hEq : ∀ n, Ext w2 (w2.drewN n) := fun n => below_drewN hEE n
          all_goals
            repeat' (first | go_skip | go_guarded | go_step)
            go_roundg (n - (i + 1))
            case measure => omega
            case rel =>
              refine ⟨i + 1, (i : Int), rfl, by go_num, by omega, Nat.le_refl _, .inr ⟨i, rfl, by omega⟩, Lib.hid ⟨Ext.trans HI.out.1 (Ext.trans H2.out.1 (hEq _)), ?_⟩⟩
              rw [HST.out.2, atI_nat, HST.out.1]; rfl
        · obtain ⟨pm, hpm⟩ := get_of_lt x (show m < x.length by have := Hn.out; omega)
          have hlm : longL key (x.take i) = some pm := by rw [← HI.out.2, atI_nat, hpm]
          have hpb := longL_mem hlm
          have hlt2 : pm.1.length < q.1.length := by
            obtain ⟨h1, h2⟩ := List.getElem?_eq_some_iff.1 hpm
            obtain ⟨h3, h4⟩ := List.getElem?_eq_some_iff.1 HST.out.1
            have := List.pairwise_iff_getElem.1 HKX.out.1 m i h1 h3 hmi
            rw [h2, h4] at this
            exact begB_len hpb.2 HBQ.out this
          have HM : Hid (∀ y, Ext w2 y → y.cell? ⟨b, o + m * 2, none⟩ = some (str pm.1)) := Lib.hid fun y hy => by
            obtain ⟨b', o', e, hm1, hm2⟩ := seg_pair (HSW.out.below (Ext.trans H2.out.1 hy)) hpm
            cases e
            exact hm1
          have km := HM.out w2 (Ext.refl _)
          have hmn : (m : Int) < (n : Int) := by omega
          have d2 : decide ((m : Int) < 0) = false := decide_eq_false (by omega)
          have d3 : decide (pm.1.length < q.1.length) = true := decide_eq_true hlt2
          have d4 : decide ((pm.1.length : Int) < (q.1.length : Int)) = true := decide_eq_true (by omega)
          clear hpm hlm hpb
          go_quiet ((go_at_call 20; refine Calls.quiet_of (HBG.out _)))
          have hEq : ∀ n, Ext w2 (w2.drewN n) := fun n => below_drewN hEE n
          all_goals
            repeat' (first | go_skip | go_guarded | go_step)
            go_roundg (n - (i + 1))
            case measure => omega
            case rel =>
              refine ⟨i + 1, (i : Int), rfl, by go_num, by omega, Nat.le_refl _, .inr ⟨i, rfl, by omega⟩, Lib.hid ⟨Ext.trans HI.out.1 (Ext.trans H2.out.1 (hEq _)), ?_⟩⟩
              rw [HST.out.2, atI_nat, HST.out.1]; rfl
    · obtain rfl : i = n := by omega
      have d1 : decide (i < i) = false := by simp
      have hfin := HI.out.2
      rw [List.take_of_length_le (by have := Hn.out; omega)] at hfin
      have HF := Lib.hid hfin
      have HW := Lib.hid HI.out.1
      clear hfin HI
      repeat' (first | go_at_call 43 | go_skip | go_guarded | go_step)
      refine (at_c wr _ x best (HP.out.below (Ext.trans HA.out.1 HW.out))).mono ?_
      rintro e w4 ⟨rfl, f4⟩
      obtain ⟨ra, rv, rc, hlit⟩ := optR_lit (atI x best)
      rw [hlit]
      have HL := Lib.hid hlit
      have hb4 := bx_ext HA.out.2 (Ext.trans HW.out f4)
      obtain ⟨c0, c1⟩ := bx_cells hb4
      have cf := bx_free hb4
      have H4 : Hid (_ ∧ Ext w w4) := Lib.hid ⟨hb4, Ext.trans HA.out.1 (Ext.trans HW.out f4)⟩
      have hrl4 := heap_lt hb4
      clear f4 hb4 hlit
      go_simp
      repeat' (first | go_skip | go_guarded | go_step)
      (try simp only [Exit.inBlock, Exit.then])
      refine bodyPost_ret_by (results_ct rfl _ _ _ _ _ _ _ rfl (heap_set (heap_set H4.out.1 0 _) 1 _) Try.underlying40 rfl (by kernel_rfl)) rfl ?_
      refine ⟨?_, (H4.out.2.setCell hrl _).setCell hrl _⟩
      rw [← HF.out, HL.out]
      rfl
end Go.Proofs.Ytaehdkgmkjhmgaa
