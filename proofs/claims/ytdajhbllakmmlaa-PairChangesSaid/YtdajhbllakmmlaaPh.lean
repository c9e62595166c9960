/- Contracts: two neighbouring sorted runs become one. -/
import Derived.Test.YtdajhbllakmmlaaPf
namespace Go.Proofs.Ytdajhbllakmmlaa
open Go.RowKit Go.QS
set_option linter.unusedVariables false

abbrev cmpV' : Value := .func (.func 28) #[] #[]

set_option maxRecDepth 100000 in
set_option maxHeartbeats 400000 in
theorem sym_last (base : Nat) (W : World) (g cap n a m b : Nat) (P A S : List Pr) (y : Pr) (hR : Rw base 40 W g cap (P ++ (A ++ (y :: S)))) (hn : n = (P ++ (A ++ (y :: S))).length) (ha : a = P.length) (hm : m = P.length + A.length) (hb : b = P.length + A.length + 1) (hA1 : A.length ≠ 1) (hA : Srt A) (h9 : n ≤ 1000000000) :
    Calls Try.prog 37 #[.slice (some ⟨g, 0, none⟩) n cap, .int .i64 a, .int .i64 m, .int .i64 b, cmpV'] W fun e w' => e = .returned (.tuple #[]) ∧ Rw base 40 w' g cap (P ++ (ssort (A ++ [y]) ++ S)) ∧ W.grownBy w' (some g) := by
  have hbn : b ≤ n := by subst hn hb; simp; omega
  have hmb : m < b := by omega
  have ham : a ≤ m := by omega
  have t0 : (((m : Int) - (a : Int)) == 1) = false := by rw [beq_eq_false_iff_ne]; omega
  have t1 : (((b : Int) - (m : Int)) == 1) = true := by rw [beq_iff_eq]; omega
  have HA : Hid (_ ∧ _ ∧ _ ∧ _ ∧ _ ∧ _) := Lib.hid ⟨hR, hn, ha, hm, hb, hA⟩
  clear hR hn ha hb hm hA hA1
  go_enter Try.func37, Try.ntmps37
  repeat' go_step
  go_loopg [14, 15] (m - a) (fun gk vi vj wr => ∃ i j : Nat, vi = .int .i64 i ∧ vj = .int .i64 j ∧ a ≤ i ∧ i ≤ j ∧ j ≤ m ∧ j - i ≤ gk ∧ Ext W wr ∧ Hid (∀ t u, A[t]? = some u → (a + t < i → ¬ y.1 < u.1) ∧ (j ≤ a + t → y.1 < u.1)))
  case atStart =>
    obtain ⟨hR, hn, ha, hm, hb, hA⟩ := HA.out
    exact ⟨a, m, rfl, rfl, Nat.le_refl _, by omega, Nat.le_refl _, Nat.le_refl _, Ext.refl _, Lib.hid fun t u ht => ⟨fun h => by omega, fun h => by have := (List.getElem?_eq_some_iff.1 ht).1; omega⟩⟩
  case round =>
    obtain ⟨i, j, rfl, rfl, hmi, hij, hjb, hgk, hE, HI⟩ := hrel
    rcases Nat.lt_or_ge i j with hlt | hge
    · have d1 : decide (i < j) = true := by simp; omega
      obtain ⟨h, hh⟩ : ∃ h, h = (i + j) / 2 := ⟨_, rfl⟩
      have hh1 : ((i : Int) + (j : Int)) / 2 = (h : Int) := by omega
      have hih : i ≤ h := by omega
      have hhj : h < j := by omega
      obtain ⟨hR, hn, ha, hm, hb, hA⟩ := HA.out
      obtain ⟨u, hu⟩ := get_of_lt A (show h - a < A.length by omega)
      have hRx := hR.ext hE
      obtain ⟨hx1, hx2⟩ := hRx.get (i := m) (p := y) (by rw [List.getElem?_append_right (by omega), List.getElem?_append_right (by omega), show m - P.length - A.length = 0 by omega]; rfl)
      obtain ⟨hy1, hy2⟩ := hRx.get (i := h) (p := u) (by
        rw [List.getElem?_append_right (by omega), List.getElem?_append_left (by omega), ← ha]; exact hu)
      have hi1 : (m : Int) < (n : Int) := by omega
      have hi2 : (h : Int) < (n : Int) := by omega
      have HH : Hid (_ ∧ _) := Lib.hid ⟨hh, hu⟩
      clear hR hn ha hm hb hA hRx hh hu
      repeat' go_step
      go_still_tail 9, (by kernel_rfl)
      change wpList _ _ _ _ _ wr.drew
      repeat' (first | go_skip | go_guarded | go_step)
      refine (less_c _ y u).mono ?_
      rintro e w1 ⟨rfl, hb1⟩
      have hE1 : Ext W w1 := hE.drew.trans (hb1.mono hE.size)
      by_cases hlt : y.1 < u.1
      · have hc : decide (cmpB y.1 u.1 < 0) = true := by simp [cmpB_neg, hlt]
        go_simp
        repeat' go_step
        go_roundg (h - i)
        case measure => omega
        case rel =>
          refine ⟨i, h, rfl, rfl, by omega, by omega, by omega, Nat.le_refl _, hE1, Lib.hid fun t z hz => ⟨fun ht => (HI.out t z hz).1 ht, fun ht => ?_⟩⟩
          obtain ⟨hR, hn, ha, hm, hb, hA⟩ := HA.out
          exact Srt.above_lt hA HH.out.2 hz (by omega) hlt
      · have hc : decide (cmpB y.1 u.1 < 0) = false := by simp [cmpB_neg, hlt]
        go_simp
        repeat' go_step
        go_roundg (j - (h + 1))
        case measure => omega
        case rel =>
          refine ⟨h + 1, j, by go_num, rfl, by omega, by omega, by omega, Nat.le_refl _, hE1, Lib.hid fun t z hz => ⟨fun ht => ?_, fun ht => (HI.out t z hz).2 ht⟩⟩
          obtain ⟨hR, hn, ha, hm, hb, hA⟩ := HA.out
          exact Srt.below_nlt hA hz HH.out.2 (by omega) hlt
    · obtain rfl : i = j := by omega
      have d1 : decide (i < i) = false := by simp
      repeat' go_step
      obtain ⟨wo, rfl⟩ : ∃ wo : World, wo = wr := ⟨_, rfl⟩
      go_loopg [17] (m - i) (fun gk vk wr => ∃ k t : Nat, vk = .int .i64 k ∧ k = i + gk ∧ k ≤ m ∧ Hid (k = a + t ∧ Rw base 40 wr g cap (P ++ (A.take t ++ (y :: (A.drop t ++ S)))) ∧ W.grownBy wr (some g)))
      case atStart =>
        obtain ⟨hR, hn, ha, hm, hb, hA⟩ := HA.out
        exact ⟨m, A.length, rfl, by omega, Nat.le_refl _, Lib.hid ⟨by omega, by simpa using hR.ext hE, grown_ext hE⟩⟩
      case round =>
        obtain ⟨k, t, rfl, hk, hak, HR⟩ := hrel
        obtain ⟨wo', rfl⟩ : ∃ wo' : World, wo' = wr := ⟨_, rfl⟩
        obtain ⟨ht, hRt, hG⟩ := HR.out
        by_cases hlt : i < k
        · obtain ⟨hR, hn, ha, hm, hb, hA⟩ := HA.out
          obtain ⟨t1, ht1⟩ : ∃ t1, t = t1 + 1 := ⟨t - 1, by omega⟩
          obtain ⟨u, hu⟩ := get_of_lt A (show t1 < A.length by omega)
          obtain ⟨k1, hk1⟩ : ∃ k1, k = k1 + 1 := ⟨k - 1, by omega⟩
          have htl : (A.take t1).length = t1 := List.length_take_of_le (by omega)
          have hX : (P ++ A.take t1).length = k1 := by rw [List.length_append, htl]; omega
          have e1 : P ++ (A.take t ++ (y :: (A.drop t ++ S))) = (P ++ A.take t1) ++ u :: y :: (A.drop t ++ S) := by rw [ht1, take_snoc hu]; simp
          rw [e1] at hRt
          obtain ⟨hx1, hx2⟩ := hRt.get (get_mid _ _ _ hX)
          obtain ⟨hy1, hy2⟩ := hRt.get (get_mid1 _ _ _ _ (k := k) (by omega))
          have hfz := hRt.free
          have hs1 : IntKind.i64.wrap ((k : Int) - 1) = (k1 : Int) := by rw [show (k : Int) - 1 = (k1 : Int) by omega]; exact IntWalk.i64_in _ (by omega)
          have hi1 : (k : Int) < (n : Int) := by omega
          have hi2 : (k1 : Int) < (n : Int) := by omega
          have q1 : k ≠ k1 := by omega
          have q2 : k1 ≠ k := by omega
          have q3 : k * 2 + 1 ≠ k1 * 2 := by omega
          have q4 : k1 * 2 + 1 ≠ k * 2 := by omega
          have q5 : k * 2 ≠ k1 * 2 + 1 := by omega
          have q6 : k1 * 2 ≠ k * 2 + 1 := by omega
          have d2 : decide (i < k) = true := by simp [hlt]
          have HH : Hid (_ ∧ _ ∧ _ ∧ _ ∧ _ ∧ _ ∧ _) := Lib.hid ⟨hRt, hG, ht, hk1, hX, hu, ht1⟩
          have Hk := Lib.hid hk
          clear hR hn ha hm hb hA hu hk1 htl hX e1 hRt hG ht hk ht1
          repeat' go_step
          go_region
          repeat' go_step
          obtain ⟨hRt, hG, ht, hk1, hX, hu, ht1⟩ := HH.out
          go_roundg (gk - 1)
          case measure => have := Hk.out; omega
          case rel =>
            have hk := Hk.out
            refine ⟨k1, t1, rfl, by omega, by omega, Lib.hid ⟨by omega, ?_, (hG.trans (grown_swap _ g _ _ _ _ _ _ _ _)).trans (grown_ext (below_drewN (Ext.refl _) 1))⟩⟩
            have := (hRt.swap k u k1 y).drew
            rw [set_two _ _ _ _ hX hk1] at this
            rw [drop_cons hu, ← ht1]
            simpa using this
        · have d2 : decide (i < k) = false := by simp; omega
          have HH : Hid (_ ∧ _ ∧ _ ∧ _) := Lib.hid ⟨hRt, hG, ht, hk⟩
          clear hRt hG ht hk
          repeat' go_step
          refine bodyPost_ret (results_none rfl _ _ _) rfl ⟨rfl, ?_⟩
          obtain ⟨hRt, hG, ht, hk⟩ := HH.out
          obtain ⟨hR, hn, ha, hm, hb, hA⟩ := HA.out
          have := ssort_back (A1 := A.take t) (A2 := A.drop t) (y := y) (by rw [List.take_append_drop]; exact hA)
            (fun u hu => by obtain ⟨v, hv, hv2⟩ := mem_take_get hu; exact (HI.out v u hv2).1 (by omega))
            (fun u hu => by obtain ⟨v, hv, hv2⟩ := mem_drop_get hu; exact (HI.out v u hv2).2 (by omega))
          rw [List.take_append_drop] at this
          rw [← this]
          exact ⟨by simpa using hRt, hG⟩
end Go.Proofs.Ytdajhbllakmmlaa
