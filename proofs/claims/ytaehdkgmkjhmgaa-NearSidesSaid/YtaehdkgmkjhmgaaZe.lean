/- Contracts: the document's places, nearest and rank; the near laws' at and same. -/
import Derived.Test.YtaehdkgmkjhmgaaYn
import Derived.Test.YtaehdkgmkjhmgaaZc
namespace Go.Proofs.Ytaehdkgmkjhmgaa
open Go.RowKit Go.QS
set_option linter.unusedVariables false

set_option maxRecDepth 100000 in
theorem eqN (w : World) (p : Pr) : (binOp .eql 40 (.agg #[str p.1, str p.2]) (.agg #[str p.1, str p.2])).run Try.prog w = .ok (.bool true) w := by
  obtain ⟨a, b⟩ := p
  simp only [go_sem]
  simp [go_sem]

abbrev zq : Obj := .cells #[.string ⟨#[]⟩, .string ⟨#[]⟩] 40

set_option maxRecDepth 100000 in
theorem at_c (w : World) (v : Value) (x : List Pr) (i : Int) (h : PS w v x) : Calls Try.prog 43 #[v, .int .i64 i] w fun e w' => e = .returned (optR (atI x i)) ∧ Ext w w' := by
  obtain ⟨A, c, rfl, hl, hn, hc, hs⟩ := h
  obtain ⟨n, hn2⟩ : ∃ n, n = x.length := ⟨_, rfl⟩
  rw [← hn2] at hn ⊢
  have Hn := Lib.hid hn2
  have HS := Lib.hid hs
  clear hn2 hl hs
  go_enter Try.func43, Try.ntmps43
  repeat' (go_not_at_region 1; (first | go_skip | go_guarded | go_step))
  obtain ⟨wa, hwa⟩ : ∃ wa, wa = w.alloc zq := ⟨_, rfl⟩
  obtain ⟨rb, hrb⟩ : ∃ rb, rb = w.heap.size := ⟨_, rfl⟩
  have hEa : Ext w wa := by rw [hwa]; exact (Ext.refl w).alloc (Nat.le_refl _) _
  have hba := heap_new w zq
  have hwa' : w.alloc (.cells #[.string ⟨#[]⟩, .string ⟨#[]⟩] 40) = wa := hwa.symm
  rw [← hwa, ← hrb] at hba
  rw [hwa', ← hrb]
  have hrl : w.heap.size ≤ rb := by omega
  obtain ⟨c0, c1⟩ := bx_cells hba
  have cf := bx_free hba
  have hrlt := heap_lt hba
  have HA : Hid (Ext w wa ∧ wa.heap[rb]? = some (.cells #[.string ⟨#[]⟩, .string ⟨#[]⟩] 40 (0, 0))) := Lib.hid ⟨hEa, hba⟩
  clear hwa hrb hEa hba hwa'
  rcases Int.lt_or_le i 0 with hneg | hpos
  · have d1 : decide (i < 0) = true := decide_eq_true hneg
    have HZ := Lib.hid (atI_neg x hneg)
    repeat' (first | go_skip | go_guarded | go_step)
    (try simp only [Exit.inBlock, Exit.then])
    refine bodyPost_ret_by (results_ct rfl _ _ _ _ _ _ _ rfl (heap_set (heap_set HA.out.2 0 _) 1 _) Try.underlying40 rfl (by kernel_rfl)) rfl ?_
    refine ⟨?_, (HA.out.1.setCell hrl _).setCell hrl _⟩
    rw [HZ.out]; rfl
  · obtain ⟨j, rfl⟩ : ∃ j : Nat, i = (j : Int) := ⟨i.toNat, by omega⟩
    have d1 : decide ((j : Int) < 0) = false := decide_eq_false (by omega)
    clear hpos
    rcases Nat.lt_or_ge j n with hlt | hge
    · have d2 : decide ((n : Int) ≤ (j : Int)) = false := decide_eq_false (by omega)
      have d3 : decide (n ≤ j) = false := decide_eq_false (by omega)
      obtain ⟨q, hq⟩ := get_of_lt x (show j < x.length by have := Hn.out; omega)
      obtain ⟨b, o, rfl, hq1, hq2⟩ := seg_pair (HS.out.below HA.out.1) hq
      have hi1 : (j : Int) < (n : Int) := by omega
      have HQ := Lib.hid hq
      have hbl : b < wa.heap.size := World.block_lt_of_cell? wa _ hq1
      clear hq
      repeat' (first | go_skip | go_guarded | go_step)
      (try simp only [Exit.inBlock, Exit.then])
      refine bodyPost_ret_by (results_ct rfl _ _ _ _ _ _ _ rfl (heap_set (heap_set HA.out.2 0 _) 1 _) Try.underlying40 rfl (by kernel_rfl)) rfl ?_
      refine ⟨?_, (HA.out.1.setCell hrl _).setCell hrl _⟩
      rw [atI_nat, HQ.out]; rfl
    · have d2 : decide ((n : Int) ≤ (j : Int)) = true := decide_eq_true (by omega)
      have d3 : decide (n ≤ j) = true := decide_eq_true (by omega)
      have HZ : Hid (x[j]? = none) := Lib.hid (List.getElem?_eq_none_iff.2 (by have := Hn.out; omega))
      repeat' (first | go_skip | go_guarded | go_step)
      (try simp only [Exit.inBlock, Exit.then])
      refine bodyPost_ret_by (results_ct rfl _ _ _ _ _ _ _ rfl (heap_set (heap_set HA.out.2 0 _) 1 _) Try.underlying40 rfl (by kernel_rfl)) rfl ?_
      refine ⟨?_, (HA.out.1.setCell hrl _).setCell hrl _⟩
      rw [atI_nat, HZ.out]; rfl

theorem rankL_snoc (key : List UInt8) (x : List Pr) (p : Pr) : rankL key (x ++ [p]) = rankL key x + if p.1 < key then 1 else 0 := by
  rw [rankL_app]
  congr 1
  unfold rankL
  by_cases h : p.1 < key <;> simp [h]

set_option maxRecDepth 100000 in
theorem rank12_c (w : World) (v : Value) (x : List Pr) (key : List UInt8) (h : PS w v x) (hx : x.length ≤ 1000) (hk : ∀ p ∈ x, p.1.length ≤ 1000) : Calls Try.prog 53 #[v, str key] w fun e w' => e = .returned (.int .i64 (rankL key x)) ∧ Ext w w' := by
  obtain ⟨A, c, rfl, hl, hn, hc, hs⟩ := h
  obtain ⟨n, hn2⟩ : ∃ n, n = x.length := ⟨_, rfl⟩
  rw [← hn2] at hn hx ⊢
  have Hn := Lib.hid hn2
  have HS := Lib.hid hs
  have HKX := Lib.hid hk
  clear hn2 hl hs hk
  go_enter Try.func53, Try.ntmps53
  repeat' (go_not_at_region 3; (first | go_skip | go_guarded | go_step))
  go_loopg [5, 10] n (fun gk v5 v10 wr => ∃ i r : Nat, v5 = .int .i64 r ∧ v10 = .int .i64 i ∧ i ≤ n ∧ n - i ≤ gk ∧ r ≤ i ∧ r = rankL key (x.take i) ∧ Hid (Ext w wr))
  case atStart => exact ⟨0, 0, rfl, rfl, Nat.zero_le _, by omega, Nat.le_refl _, rfl, Lib.hid (Ext.refl _)⟩
  case round =>
    obtain ⟨i, r, rfl, rfl, hin, hgk, hri, hr, HI⟩ := hrel
    rcases Nat.lt_or_ge i n with hlt | hge
    · have d1 : decide (i < n) = true := by simp [hlt]
      obtain ⟨q, hq⟩ := get_of_lt x (show i < x.length by have := Hn.out; omega)
      obtain ⟨b, o, rfl, hq1, hq2⟩ := seg_pair (HS.out.below HI.out) hq
      have hi1 : (i : Int) < (n : Int) := by omega
      have hql := HKX.out q (List.mem_of_getElem? hq)
      have hst := rankL_snoc key (x.take i) q
      rw [← take_snoc hq, ← hr] at hst
      have HST := Lib.hid hst
      clear hq hst hr
      repeat' (first | go_at_call 49 | go_skip | go_guarded | go_step)
      refine (less_c' _ q.1 key (by omega)).mono ?_
      rintro e x2 ⟨rfl, f2⟩
      have H2 := Lib.hid (Ext.trans (HI.out.alloc HI.out.size _) f2)
      clear f2
      by_cases hlk : q.1 < key
      · have d2 : decide (q.1 < key) = true := decide_eq_true hlk
        rw [d2]
        have HLK := Lib.hid hlk
        clear d2 hlk
        go_simp
        repeat' (first | go_skip | go_guarded | go_step)
        go_roundg (n - (i + 1))
        case measure => omega
        case rel => exact ⟨i + 1, r + 1, by go_num, by go_num, by omega, Nat.le_refl _, by omega, by rw [HST.out, if_pos HLK.out], H2⟩
      · have d2 : decide (q.1 < key) = false := decide_eq_false hlk
        rw [d2]
        have HLK := Lib.hid hlk
        clear d2 hlk
        go_simp
        repeat' (first | go_skip | go_guarded | go_step)
        go_roundg (n - (i + 1))
        case measure => omega
        case rel => exact ⟨i + 1, r, rfl, by go_num, by omega, Nat.le_refl _, by omega, by rw [HST.out, if_neg HLK.out]; rfl, H2⟩
    · obtain rfl : i = n := by omega
      have d1 : decide (i < i) = false := by simp
      rw [List.take_of_length_le (by have := Hn.out; omega)] at hr
      have HR := Lib.hid hr
      clear hr
      repeat' (first | go_skip | go_guarded | go_step)
      go_ret
      refine ⟨?_, HI.out⟩
      rw [← HR.out]; rfl

/-! ### The near laws' own -/
set_option maxRecDepth 100000 in
theorem same_c (w : World) (a b : List UInt8) (c : Bool) : Calls Try.prog 44 #[.agg #[str a, str b], .bool c, .agg #[str a, str b], .bool c] w fun e w' => e = .returned (.bool true) ∧ Ext w w' := by
  have heq : ∀ w, (binOp .eql 40 (.agg #[str a, str b]) (.agg #[str a, str b])).run Try.prog w = .ok (.bool true) w := fun w => eqN w (a, b)
  go_enter Try.func44, Try.ntmps44
  repeat' (first | go_skip | go_guarded | go_step)
  go_ret
  exact ⟨rfl, ((Ext.refl w).alloc (Nat.le_refl _) _).alloc (by simp) _⟩

end Go.Proofs.Ytaehdkgmkjhmgaa
