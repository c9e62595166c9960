/- Contracts: where a key is, or would be. -/
import Derived.Test.YtmpeniboccahdaaMn
import Derived.Test.YtmpeniboccahdaaMb
import Derived.Test.YtmpeniboccahdaaMa
import Derived.Deep.LoopGhost
namespace Go.Proofs.Ytmpeniboccahdaa.Pch
open Go.RowKit Go.QS
set_option linter.unusedVariables false

abbrev ordV : Value := .func (.func 66) #[] #[]

set_option maxRecDepth 100000 in
set_option maxHeartbeats 400000 in
theorem bs_c (w : World) (v : Value) (l : List Pr) (key : List UInt8) (h : PS w v l) (hr : Rise l) (h9 : l.length ≤ 1000000000) :
    Calls Try.prog 67 #[v, str key, ordV] w fun e w' => e = .returned (.tuple #[.int .i64 (fndI l key), .bool (hasK l key)]) ∧ Ext w w' := by
  obtain ⟨A, c, rfl, hl, hn, hc, hs⟩ := h
  obtain ⟨n, hn2⟩ : ∃ n, n = l.length := ⟨_, rfl⟩
  rw [← hn2] at h9 hn ⊢
  have Hn : Hid (_ ∧ _) := Lib.hid ⟨hn2, hr⟩
  clear hn2 hl hr
  go_enter Try.func67, Try.ntmps67
  repeat' go_step
  go_loopg [9, 10] n (fun gk vi vj wr => ∃ i j : Nat, vi = .int .i64 i ∧ vj = .int .i64 j ∧ i ≤ j ∧ j ≤ n ∧ j - i ≤ gk ∧ Ext w wr ∧ Hid (∀ t q, l[t]? = some q → (t < i → q.1 < key) ∧ (j ≤ t → ¬ q.1 < key)))
  case atStart => exact ⟨0, n, rfl, rfl, Nat.zero_le _, Nat.le_refl _, by omega, Ext.refl _, Lib.hid fun t q hq => ⟨fun h => by omega, fun h => by have := (List.getElem?_eq_some_iff.1 hq).1; have := Hn.out.1; omega⟩⟩
  case round =>
    obtain ⟨i, j, rfl, rfl, hij, hjn, hgk, hE, HI⟩ := hrel
    rcases Nat.lt_or_ge i j with hlt | hge
    · have d1 : decide (i < j) = true := by simp [hlt]
      obtain ⟨m, hm⟩ : ∃ m, m = (i + j) / 2 := ⟨_, rfl⟩
      have hm1 : ((i : Int) + (j : Int)) / 2 = (m : Int) := by omega
      have him : i ≤ m := by omega
      have hmj : m < j := by omega
      obtain ⟨q, hq⟩ := get_of_lt l (show m < l.length by have := Hn.out.1; omega)
      obtain ⟨b, o, rfl, hq1, hq2⟩ := seg_pair (hs.below hE) hq
      have hi1 : (m : Int) < (n : Int) := by omega
      have HH := Lib.hid hq
      clear hm hq
      repeat' go_step
      refine (order_c _ q key).mono ?_
      rintro e w1 ⟨rfl, hb1⟩
      have hE1 : Ext w w1 := Ext.trans hE hb1
      by_cases hlt : q.1 < key
      · have hc : decide (cmpB q.1 key < 0) = true := by simp [cmpB_neg, hlt]
        have HL := Lib.hid hlt
        go_simp
        repeat' go_step
        go_roundg (j - (m + 1))
        case measure => omega
        case rel =>
          refine ⟨m + 1, j, by go_num, rfl, by omega, by omega, Nat.le_refl _, hE1, Lib.hid fun t p hp => ⟨fun ht => ?_, fun ht => (HI.out t p hp).2 ht⟩⟩
          rcases Nat.lt_or_eq_of_le (Nat.le_of_lt_succ ht) with h | rfl
          · obtain ⟨e1, rfl⟩ := List.getElem?_eq_some_iff.1 hp
            obtain ⟨e2, rfl⟩ := List.getElem?_eq_some_iff.1 HH.out
            exact k_trans (List.pairwise_iff_getElem.1 Hn.out.2 _ _ e1 e2 h) HL.out
          · rw [HH.out] at hp; cases hp; exact HL.out
      · have hc : decide (cmpB q.1 key < 0) = false := by simp [cmpB_neg, hlt]
        have HL := Lib.hid hlt
        go_simp
        repeat' go_step
        go_roundg (m - i)
        case measure => omega
        case rel =>
          refine ⟨i, m, rfl, rfl, by omega, by omega, Nat.le_refl _, hE1, Lib.hid fun t p hp => ⟨fun ht => (HI.out t p hp).1 ht, fun ht => ?_⟩⟩
          rcases Nat.lt_or_eq_of_le ht with h | rfl
          · obtain ⟨e1, rfl⟩ := List.getElem?_eq_some_iff.1 hp
            obtain ⟨e2, rfl⟩ := List.getElem?_eq_some_iff.1 HH.out
            exact fun hx => HL.out (k_trans (List.pairwise_iff_getElem.1 Hn.out.2 _ _ e2 e1 h) hx)
          · rw [HH.out] at hp; cases hp; exact HL.out
    · obtain rfl : i = j := by omega
      have d1 : decide (i < i) = false := by simp
      have hfi : i = fndI l key := fnd_first (by have := Hn.out.1; omega) (fun t q ht hq => (HI.out t q hq).1 ht) (fun q hq => (HI.out i q hq).2 (Nat.le_refl _))
      have hha := hasK_at (k := key) Hn.out.2
      rw [← hfi] at hha
      have HF := Lib.hid hfi
      clear hfi
      rcases Nat.lt_or_ge i n with hlt | hge
      · have d2 : decide (i < n) = true := by simp [hlt]
        obtain ⟨q, hq⟩ := get_of_lt l (show i < l.length by have := Hn.out.1; omega)
        obtain ⟨b, o, rfl, hq1, hq2⟩ := seg_pair (hs.below hE) hq
        have hi1 : (i : Int) < (n : Int) := by omega
        rw [hq] at hha
        have HH : Hid (_ ∧ _) := Lib.hid ⟨hq, hha⟩
        clear hq hha
        repeat' (first | go_skip | go_guarded | go_step)
        refine (order_c _ q key).mono ?_
        rintro e w1 ⟨rfl, hb1⟩
        have hE1 : Ext w w1 := Ext.trans hE hb1
        have hz : (cmpB q.1 key == 0) = (q.1 == key) := by
          rw [Bool.eq_iff_iff]
          simp [cmpB_zero]
        go_simp
        repeat' (first | go_skip | go_guarded | go_step)
        go_ret2
        refine ⟨?_, hE1⟩
        rw [← HF.out, HH.out.2]
        first | rfl | simp
      · have d2 : decide (i < n) = false := by simp; omega
        have hno : l[i]? = none := List.getElem?_eq_none (by have := Hn.out.1; omega)
        rw [hno] at hha
        have HH := Lib.hid hha
        clear hha hno
        repeat' (first | go_skip | go_guarded | go_step)
        go_ret2
        refine ⟨?_, hE⟩
        rw [← HF.out, HH.out]
        rfl

set_option maxRecDepth 100000 in
theorem find_c (w : World) (v : Value) (l : List Pr) (key : List UInt8) (h : PS w v l) (hr : Rise l) (h9 : l.length ≤ 1000000000) :
    Calls Try.prog 41 #[v, str key] w fun e w' => e = .returned (.tuple #[.int .i64 (fndI l key), .bool (hasK l key)]) ∧ Ext w w' := by
  have HC := Lib.hid (bs_c w v l key h hr h9)
  clear h hr
  go_enter Try.func41, Try.ntmps41
  repeat' go_step
  refine HC.out.mono ?_
  rintro e w1 ⟨rfl, hb⟩
  go_simp
  repeat' go_step
  go_ret2
  exact ⟨rfl, hb⟩

end Go.Proofs.Ytmpeniboccahdaa.Pch