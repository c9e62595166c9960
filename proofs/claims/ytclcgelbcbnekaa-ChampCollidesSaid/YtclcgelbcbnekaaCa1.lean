/- Texts joined. -/
import Derived.Test.YtclcgelbcbnekaaBa
import Derived.Test.YtclcgelbcbnekaaMb
import Derived.Deep.LoopGhost
set_option linter.unusedVariables false
set_option linter.unusedSimpArgs false
/- Contracts: blocks that change places. -/
namespace Go.Proofs.Ytclcgelbcbnekaa.Pch
open Go.RowKit Go.QS
set_option linter.unusedVariables false

set_option maxRecDepth 100000 in
set_option maxHeartbeats 400000 in
theorem swap_c (base : Nat) (W : World) (cv : Value) (g cap n a b m : Nat) (P U M V S : List Pr) (hR : Rw base 36 W g cap (P ++ (U ++ (M ++ (V ++ S))))) (hn : n = (P ++ (U ++ (M ++ (V ++ S)))).length) (ha : a = P.length) (hb : b = P.length + (U.length + M.length)) (hm : m = U.length) (hmv : m = V.length) (h9 : n ≤ 1000000000) :
    Calls Try.prog 184 #[.slice (some ⟨g, 0, none⟩) n cap, .int .i64 a, .int .i64 b, .int .i64 m, cv] W fun e w' => e = .returned (.tuple #[]) ∧ Rw base 36 w' g cap (P ++ (V ++ (M ++ (U ++ S)))) ∧ W.grownBy w' (some g) := by
  have hbm : b + m ≤ n := by subst hn hb; rw [hmv]; simp; omega
  have hab : a + m ≤ b := by omega
  have HA : Hid (_ ∧ _ ∧ _ ∧ _ ∧ _ ∧ _) := Lib.hid ⟨hR, hn, ha, hb, hm, hmv⟩
  clear hR hn ha hb hm hmv
  go_enter Try.func184, Try.ntmps184
  repeat' go_step
  go_loopg [10] m (fun gk i wr => ∃ k : Nat, k + gk = m ∧ i = .int .i64 k ∧ Hid (Rw base 36 wr g cap (sw P U M V S k) ∧ W.grownBy wr (some g)))
  case atStart =>
    obtain ⟨hR, hn, ha, hb, hm, hmv⟩ := HA.out
    exact ⟨0, by omega, rfl, Lib.hid ⟨by rw [sw_zero]; exact hR, World.grownBy.refl _ _⟩⟩
  case round =>
    obtain ⟨k, hk, rfl, HR⟩ := hrel
    have Hk := Lib.hid hk
    by_cases hlt : k < m
    · obtain ⟨hR, hn, ha, hb, hm, hmv⟩ := HA.out
      obtain ⟨u, hu⟩ := get_of_lt U (show k < U.length by omega)
      obtain ⟨v, hv⟩ := get_of_lt V (show k < V.length by omega)
      have hg := sw_get (P := P) (M := M) (S := S) hu hv
      obtain ⟨p, hp⟩ : ∃ p, p = a + k := ⟨_, rfl⟩
      obtain ⟨q, hq⟩ : ∃ q, q = b + k := ⟨_, rfl⟩
      rw [← hb, ← ha, ← hp, ← hq] at hg
      obtain ⟨hx1, hx2⟩ := HR.out.1.get hg.1
      obtain ⟨hy1, hy2⟩ := HR.out.1.get hg.2
      have hst := sw_step (P := P) (M := M) (S := S) hu hv
      rw [← hb, ← ha, ← hp, ← hq] at hst
      have hfz := HR.out.1.free
      have hs1 : IntKind.i64.wrap ((a : Int) + (k : Int)) = (p : Int) := by rw [hp]; exact IntWalk.i64_in _ (by omega)
      have hs2 : IntKind.i64.wrap ((b : Int) + (k : Int)) = (q : Int) := by rw [hq]; exact IntWalk.i64_in _ (by omega)
      have hi1 : (p : Int) < (n : Int) := by omega
      have hi2 : (q : Int) < (n : Int) := by omega
      have q1 : p ≠ q := by omega
      have q2 : q ≠ p := by omega
      have q3 : p * 2 + 1 ≠ q * 2 := by omega
      have q4 : q * 2 + 1 ≠ p * 2 := by omega
      have q5 : p * 2 ≠ q * 2 + 1 := by omega
      have q6 : q * 2 ≠ p * 2 + 1 := by omega
      have hd : decide (k < m) = true := by simp [hlt]
      have HH : Hid (_ ∧ _ ∧ _) := Lib.hid ⟨hst, hp, hq⟩
      clear hR hn ha hb hm hmv hu hv hg hst hp hq hk
      repeat' go_step
      go_region
      repeat' go_step
      go_roundg (gk - 1)
      case measure => have := Hk.out; omega
      case rel =>
        refine ⟨k + 1, by have := Hk.out; omega, by go_num, Lib.hid ⟨?_, (HR.out.2.trans (grown_swap wr g _ _ _ _ _ _ _ _)).trans (grown_ext (below_drewN (Ext.refl _) 1))⟩⟩
        rw [← HH.out.1]
        exact (HR.out.1.swap _ _ _ _).drew
    · have hd : decide (k < m) = false := by simp; omega
      have e : k = m := by omega
      have HE := Lib.hid e
      clear hk e
      repeat' go_step
      refine bodyPost_end (results_none rfl _ _ _) rfl ⟨rfl, ?_⟩
      obtain ⟨hR, hn, ha, hb, hm, hmv⟩ := HA.out
      have := HR.out
      rw [HE.out, hm, sw_end _ _ _ _ _ (by omega)] at this
      exact this
end Go.Proofs.Ytclcgelbcbnekaa.Pch/- Contracts: a row turned round a place. -/
namespace Go.Proofs.Ytclcgelbcbnekaa.Pch
open Go.RowKit Go.QS
set_option linter.unusedVariables false

set_option maxRecDepth 100000 in
set_option maxHeartbeats 400000 in
theorem rotate_c (base : Nat) (W : World) (cv : Value) (g cap n a m b : Nat) (P U V S : List Pr) (hR : Rw base 36 W g cap (P ++ (U ++ (V ++ S)))) (hn : n = (P ++ (U ++ (V ++ S))).length) (ha : a = P.length) (hm : m = P.length + U.length) (hb : b = P.length + (U.length + V.length)) (hU : 0 < U.length) (hV : 0 < V.length) (h9 : n ≤ 1000000000) :
    Calls Try.prog 180 #[.slice (some ⟨g, 0, none⟩) n cap, .int .i64 a, .int .i64 m, .int .i64 b, cv] W fun e w' => e = .returned (.tuple #[]) ∧ Rw base 36 w' g cap (P ++ (V ++ (U ++ S))) ∧ W.grownBy w' (some g) := by
  have hbn : b ≤ n := by subst hn hb; simp
  have hmb : m ≤ b := by omega
  have ham : a ≤ m := by omega
  obtain ⟨i0, hi0⟩ : ∃ i, i = U.length := ⟨_, rfl⟩
  obtain ⟨j0, hj0⟩ : ∃ j, j = V.length := ⟨_, rfl⟩
  have hs1 : (m : Int) - (a : Int) = (i0 : Int) := by omega
  have hs2 : (b : Int) - (m : Int) = (j0 : Int) := by omega
  have HA : Hid (_ ∧ _ ∧ _ ∧ _ ∧ _ ∧ _ ∧ _ ∧ _ ∧ _) := Lib.hid ⟨hR, hn, ha, hb, hm, hU, hV, hi0, hj0⟩
  clear hR hn ha hb hm hU hV hi0 hj0
  go_enter Try.func180, Try.ntmps180
  repeat' go_step
  go_loopg [10, 11] (i0 + j0) (fun gk vi vj wr => ∃ (P' U' V' S' : List Pr) (i j : Nat), vi = .int .i64 i ∧ vj = .int .i64 j ∧ i + j ≤ gk ∧ i ≤ m ∧ m + j ≤ n ∧ Hid (Rw base 36 wr g cap (P' ++ (U' ++ (V' ++ S'))) ∧ W.grownBy wr (some g) ∧
    i = U'.length ∧ j = V'.length ∧ m = P'.length + U'.length ∧ 0 < U'.length ∧ 0 < V'.length ∧ P' ++ (V' ++ (U' ++ S')) = P ++ (V ++ (U ++ S)) ∧ n = (P' ++ (U' ++ (V' ++ S'))).length))
  case atStart =>
    obtain ⟨hR, hn, ha, hb, hm, hU, hV, hi0, hj0⟩ := HA.out
    exact ⟨P, U, V, S, i0, j0, rfl, rfl, Nat.le_refl _, by omega, by omega, Lib.hid ⟨hR, World.grownBy.refl _ _, hi0, hj0, hm, hU, hV, rfl, hn⟩⟩
  case round =>
    obtain ⟨P', U', V', S', i, j, rfl, rfl, hgk, him, hjn, HR⟩ := hrel
    obtain ⟨hR, hG, hi, hj, hm, hU, hV, hT, hn⟩ := HR.out
    obtain ⟨p, hp⟩ : ∃ p, p = P'.length := ⟨_, rfl⟩
    rcases Nat.lt_trichotomy i j with hij | hij | hij
    · have t1 : ((i : Int) != (j : Int)) = true := by rw [bne_iff_ne]; omega
      have t2 : decide (j < i) = false := by simp; omega
      obtain ⟨q, hq⟩ : ∃ q, q = P'.length + (U'.length + (V'.take (j - i)).length) := ⟨_, rfl⟩
      have hlt : (V'.take (j - i)).length = j - i := List.length_take_of_le (by omega)
      have s1 : (m : Int) - (i : Int) = (p : Int) := by omega
      have s2 : (m : Int) + (j : Int) - (i : Int) = (q : Int) := by omega
      have s3 : (j : Int) - (i : Int) = ((j - i : Nat) : Int) := by omega
      have hc := swap_c base wr cv g cap n p q i P' U' (V'.take (j - i)) (V'.drop (j - i)) S' (by rw [← List.append_assoc (V'.take _), List.take_append_drop]; exact hR) (by rw [hn]; congr 2; rw [← List.append_assoc (V'.take _), List.take_append_drop]) hp hq hi (by simp; omega) h9
      have HC := Lib.hid hc
      have HS := Lib.hid s3
      have hq9 : i < j := hij
      clear hR hG hi hj hm hU hV hT hn hp hij hq hlt hc s3
      repeat' (first | (go_at_call 184; refine HC.out.mono ?_; rintro e w1 ⟨rfl, H1⟩; replace H1 := Lib.hid H1; go_simp) | go_step)
      obtain ⟨hR, hG, hi, hj, hm, hU, hV, hT, hn⟩ := HR.out
      go_roundg (i + (j - i))
      case measure => omega
      case rel =>
        refine ⟨P', V'.drop (j - i), V'.take (j - i), U' ++ S', i, j - i, rfl, by rw [← HS.out], Nat.le_refl _, by omega, by omega, Lib.hid ⟨?_, hG.trans H1.out.2, by simp <;> omega, by simp <;> omega, by simp <;> omega, by simp <;> omega, by simp <;> omega, ?_, ?_⟩⟩
        · simpa using H1.out.1
        · rw [← hT, ← List.append_assoc (V'.take _), List.take_append_drop]
        · rw [hn]; simp <;> omega
    · have t1 : ((i : Int) != (j : Int)) = false := by rw [bne_eq_false_iff_eq]; omega
      have s1 : (m : Int) - (i : Int) = (p : Int) := by omega
      have hc := swap_c base wr cv g cap n p m i P' U' [] V' S' (by simpa using hR) (by rw [hn]; simp) hp (by simpa using hm) hi (by omega) h9
      have HC := Lib.hid hc
      clear hR hG hi hj hm hU hV hT hn hp hij hc
      repeat' (first | (go_at_call 184; refine HC.out.mono ?_; rintro e w1 ⟨rfl, H1⟩; replace H1 := Lib.hid H1; go_simp) | go_step)
      obtain ⟨hR, hG, hi, hj, hm, hU, hV, hT, hn⟩ := HR.out
      refine bodyPost_end (results_none rfl _ _ _) rfl ⟨rfl, ?_, hG.trans H1.out.2⟩
      rw [← hT]
      simpa using H1.out.1
    · have t1 : ((i : Int) != (j : Int)) = true := by rw [bne_iff_ne]; omega
      have t2 : decide (j < i) = true := by simp; omega
      have hlt : (U'.take j).length = j := List.length_take_of_le (by omega)
      have s1 : (m : Int) - (i : Int) = (p : Int) := by omega
      have s3 : (i : Int) - (j : Int) = ((i - j : Nat) : Int) := by omega
      have hc := swap_c base wr cv g cap n p m j P' (U'.take j) (U'.drop j) V' S' (by rw [← List.append_assoc (U'.take _), List.take_append_drop]; exact hR) (by rw [hn]; congr 2; rw [← List.append_assoc (U'.take _), List.take_append_drop]) hp (by simp; omega) hlt.symm hj h9
      have HC := Lib.hid hc
      have HS := Lib.hid s3
      have hq9 : j < i := hij
      clear hR hG hi hj hm hU hV hT hn hp hij hlt hc s3
      repeat' (first | (go_at_call 184; refine HC.out.mono ?_; rintro e w1 ⟨rfl, H1⟩; replace H1 := Lib.hid H1; go_simp) | go_step)
      obtain ⟨hR, hG, hi, hj, hm, hU, hV, hT, hn⟩ := HR.out
      go_roundg (i - j + j)
      case measure => omega
      case rel =>
        refine ⟨P' ++ V', U'.drop j, U'.take j, S', i - j, j, by rw [← HS.out], rfl, Nat.le_refl _, by omega, by omega, Lib.hid ⟨?_, hG.trans H1.out.2, by simp <;> omega, by simp <;> omega, by simp <;> omega, by simp <;> omega, by simp <;> omega, ?_, ?_⟩⟩
        · simpa using H1.out.1
        · rw [← hT, List.append_assoc, ← List.append_assoc (U'.take _), List.take_append_drop]
        · rw [hn]; simp <;> omega
end Go.Proofs.Ytclcgelbcbnekaa.Pch/- Contracts: two neighbouring sorted runs become one. -/
namespace Go.Proofs.Ytclcgelbcbnekaa.Pch
open Go.RowKit Go.QS
set_option linter.unusedVariables false

abbrev cmpV : Value := .func (.func 105) #[] #[]

set_option maxRecDepth 100000 in
set_option maxHeartbeats 400000 in
theorem sym_one (base : Nat) (W : World) (g cap n a m b : Nat) (P B S : List Pr) (x : Pr) (hR : Rw base 36 W g cap (P ++ (x :: (B ++ S)))) (hn : n = (P ++ (x :: (B ++ S))).length) (ha : a = P.length) (hm : m = P.length + 1) (hb : b = P.length + 1 + B.length) (hB : Srt B) (h9 : n ≤ 1000000000) :
    Calls Try.prog 170 #[.slice (some ⟨g, 0, none⟩) n cap, .int .i64 a, .int .i64 m, .int .i64 b, cmpV] W fun e w' => e = .returned (.tuple #[]) ∧ Rw base 36 w' g cap (P ++ (ssort (x :: B) ++ S)) ∧ W.grownBy w' (some g) := by
  have hbn : b ≤ n := by subst hn hb; simp; omega
  have hmb : m ≤ b := by omega
  have ham : a < m := by omega
  have t0 : (((m : Int) - (a : Int)) == 1) = true := by rw [beq_iff_eq]; omega
  have HA : Hid (_ ∧ _ ∧ _ ∧ _ ∧ _ ∧ _) := Lib.hid ⟨hR, hn, ha, hm, hb, hB⟩
  clear hR hn ha hb hm hB
  go_enter Try.func170, Try.ntmps170
  repeat' go_step
  go_loopg [10, 11] (b - m) (fun gk vi vj wr => ∃ i j : Nat, vi = .int .i64 i ∧ vj = .int .i64 j ∧ m ≤ i ∧ i ≤ j ∧ j ≤ b ∧ j - i ≤ gk ∧ Ext W wr ∧ Hid (∀ t y, B[t]? = some y → (m + t < i → y.1 < x.1) ∧ (j ≤ m + t → ¬ y.1 < x.1)))
  case atStart =>
    obtain ⟨hR, hn, ha, hm, hb, hB⟩ := HA.out
    exact ⟨m, b, rfl, rfl, Nat.le_refl _, by omega, Nat.le_refl _, Nat.le_refl _, Ext.refl _, Lib.hid fun t y ht => ⟨fun h => by omega, fun h => by have := (List.getElem?_eq_some_iff.1 ht).1; omega⟩⟩
  case round =>
    obtain ⟨i, j, rfl, rfl, hmi, hij, hjb, hgk, hE, HI⟩ := hrel
    rcases Nat.lt_or_ge i j with hlt | hge
    · have d1 : decide (i < j) = true := by simp; omega
      obtain ⟨h, hh⟩ : ∃ h, h = (i + j) / 2 := ⟨_, rfl⟩
      have hh1 : ((i : Int) + (j : Int)) / 2 = (h : Int) := by omega
      have hih : i ≤ h := by omega
      have hhj : h < j := by omega
      obtain ⟨hR, hn, ha, hm, hb, hB⟩ := HA.out
      obtain ⟨y, hy⟩ := get_of_lt B (show h - m < B.length by omega)
      have hRx := hR.ext hE
      obtain ⟨hx1, hx2⟩ := hRx.get (i := a) (p := x) (by rw [List.getElem?_append_right (by omega), ha, Nat.sub_self]; rfl)
      obtain ⟨hy1, hy2⟩ := hRx.get (i := h) (p := y) (by
        rw [List.getElem?_append_right (by omega), show h - P.length = (h - m) + 1 by omega, List.getElem?_cons_succ, List.getElem?_append_left (by omega)]; exact hy)
      have hi1 : (a : Int) < (n : Int) := by omega
      have hi2 : (h : Int) < (n : Int) := by omega
      have HH : Hid (_ ∧ _) := Lib.hid ⟨hh, hy⟩
      clear hR hn ha hm hb hB hRx hh hy
      repeat' go_step
      go_still_tail 9, (by kernel_rfl)
      change wpList _ _ _ _ _ wr.drew
      repeat' (first | go_skip | go_guarded | go_step)
      refine (less_c _ y x).mono ?_
      rintro e w1 ⟨rfl, hb1⟩
      have hE1 : Ext W w1 := hE.drew.trans (hb1.mono hE.size)
      by_cases hlt : y.1 < x.1
      · have hc : decide (cmpB y.1 x.1 < 0) = true := by simp [cmpB_neg, hlt]
        go_simp
        repeat' go_step
        go_roundg (j - (h + 1))
        case measure => omega
        case rel =>
          refine ⟨h + 1, j, by go_num, rfl, by omega, by omega, by omega, Nat.le_refl _, hE1, Lib.hid fun t z hz => ⟨fun ht => ?_, fun ht => (HI.out t z hz).2 ht⟩⟩
          obtain ⟨hR, hn, ha, hm, hb, hB⟩ := HA.out
          exact Srt.below_lt hB hz HH.out.2 (by omega) hlt
      · have hc : decide (cmpB y.1 x.1 < 0) = false := by simp [cmpB_neg, hlt]
        go_simp
        repeat' go_step
        go_roundg (h - i)
        case measure => omega
        case rel =>
          refine ⟨i, h, rfl, rfl, by omega, by omega, by omega, Nat.le_refl _, hE1, Lib.hid fun t z hz => ⟨fun ht => (HI.out t z hz).1 ht, fun ht => ?_⟩⟩
          obtain ⟨hR, hn, ha, hm, hb, hB⟩ := HA.out
          exact Srt.above_nlt hB HH.out.2 hz (by omega) hlt
    · obtain rfl : i = j := by omega
      have d1 : decide (i < i) = false := by simp
      obtain ⟨i1, hi1⟩ : ∃ i1, i1 = i - 1 := ⟨_, rfl⟩
      have hs : (i : Int) - 1 = (i1 : Int) := by omega
      have hi1' : a ≤ i1 ∧ i1 < n := by omega
      obtain ⟨hai, hin⟩ := hi1'
      have HI1 := Lib.hid hi1
      clear hi1
      repeat' go_step
      obtain ⟨wo, rfl⟩ : ∃ wo : World, wo = wr := ⟨_, rfl⟩
      go_loopg [13] (i1 - a) (fun gk vk wr => ∃ k t : Nat, vk = .int .i64 k ∧ k + gk = i1 ∧ a ≤ k ∧ Hid (k = a + t ∧ Rw base 36 wr g cap (P ++ (B.take t ++ (x :: (B.drop t ++ S)))) ∧ W.grownBy wr (some g)))
      case atStart =>
        obtain ⟨hR, hn, ha, hm, hb, hB⟩ := HA.out
        exact ⟨a, 0, rfl, by omega, Nat.le_refl _, Lib.hid ⟨rfl, by simpa using hR.ext hE, grown_ext hE⟩⟩
      case round =>
        obtain ⟨k, t, rfl, hk, hak, HR⟩ := hrel
        obtain ⟨wo', rfl⟩ : ∃ wo' : World, wo' = wr := ⟨_, rfl⟩
        obtain ⟨ht, hRt, hG⟩ := HR.out
        by_cases hlt : k < i1
        · obtain ⟨hR, hn, ha, hm, hb, hB⟩ := HA.out
          obtain ⟨v, hv⟩ := get_of_lt B (show t < B.length by have := HI1.out; omega)
          obtain ⟨k1, hk1⟩ : ∃ k1, k1 = k + 1 := ⟨_, rfl⟩
          have hd1 : B.drop t = v :: B.drop (t + 1) := by rw [List.drop_eq_getElem?_toList_append, hv]; rfl
          have htl : (B.take t).length = t := List.length_take_of_le (by have := HI1.out; omega)
          have hX : (P ++ B.take t).length = k := by rw [List.length_append, htl]; omega
          have e1 : P ++ (B.take t ++ (x :: (B.drop t ++ S))) = (P ++ B.take t) ++ x :: v :: (B.drop (t + 1) ++ S) := by rw [hd1]; simp
          rw [e1] at hRt
          obtain ⟨hx1, hx2⟩ := hRt.get (get_mid _ _ _ hX)
          obtain ⟨hy1, hy2⟩ := hRt.get (get_mid1 _ _ _ _ (k := k1) (by omega))
          have hfz := hRt.free
          have hs1 : IntKind.i64.wrap ((k : Int) + 1) = (k1 : Int) := by rw [show (k : Int) + 1 = (k1 : Int) by omega]; exact IntWalk.i64_in _ (by omega)
          have hi1 : (k : Int) < (n : Int) := by omega
          have hi2 : (k1 : Int) < (n : Int) := by omega
          have q1 : k ≠ k1 := by omega
          have q2 : k1 ≠ k := by omega
          have q3 : k * 2 + 1 ≠ k1 * 2 := by omega
          have q4 : k1 * 2 + 1 ≠ k * 2 := by omega
          have q5 : k * 2 ≠ k1 * 2 + 1 := by omega
          have q6 : k1 * 2 ≠ k * 2 + 1 := by omega
          have d2 : decide (k < i1) = true := by simp [hlt]
          have HH : Hid (_ ∧ _ ∧ _ ∧ _ ∧ _ ∧ _) := Lib.hid ⟨hRt, hG, ht, hk1, hX, hv⟩
          have Hk := Lib.hid hk
          clear hR hn ha hm hb hB hv hk1 hd1 htl hX e1 hRt hG ht hk
          repeat' go_step
          go_region
          repeat' go_step
          obtain ⟨hRt, hG, ht, hk1, hX, hv⟩ := HH.out
          go_roundg (i1 - k1)
          case measure => have := Hk.out; omega
          case rel =>
            refine ⟨k1, t + 1, by go_num, by omega, by omega, Lib.hid ⟨by omega, ?_, (hG.trans (grown_swap _ g _ _ _ _ _ _ _ _)).trans (grown_ext (below_drewN (Ext.refl _) 1))⟩⟩
            have := (hRt.swap k v k1 x).drew
            rw [set_two' _ _ _ _ hX hk1] at this
            rw [take_snoc hv]
            simpa using this
        · have d2 : decide (k < i1) = false := by simp; omega
          have HH : Hid (_ ∧ _ ∧ _ ∧ _) := Lib.hid ⟨hRt, hG, ht, hk⟩
          clear hRt hG ht hk
          repeat' go_step
          refine bodyPost_ret (results_none rfl _ _ _) rfl ⟨rfl, ?_⟩
          obtain ⟨hRt, hG, ht, hk⟩ := HH.out
          obtain ⟨hR, hn, ha, hm, hb, hB⟩ := HA.out
          have hki : k = i1 := by omega
          have hti : m + t = i := by have := HI1.out; omega
          have := ssort_front (B1 := B.take t) (B2 := B.drop t) (x := x) (by rw [List.take_append_drop]; exact hB)
            (fun y hy => by
              obtain ⟨u, hu, hu2⟩ := List.mem_iff_getElem?.1 hy |>.imp fun u hu => (⟨by have := (List.getElem?_eq_some_iff.1 hu).1; simp at this; omega, hu⟩ : u < t ∧ _)
              rw [List.getElem?_take_of_lt hu] at hu2
              exact (HI.out u y hu2).1 (by omega))
            (fun y hy => by
              obtain ⟨u, hu⟩ := List.mem_iff_getElem?.1 hy
              rw [List.getElem?_drop] at hu
              exact (HI.out _ y hu).2 (by omega))
          rw [List.take_append_drop] at this
          rw [← this]
          exact ⟨by simpa using hRt, hG⟩
end Go.Proofs.Ytclcgelbcbnekaa.Pch/- Contracts: two neighbouring sorted runs become one. -/
namespace Go.Proofs.Ytclcgelbcbnekaa.Pch
open Go.RowKit Go.QS
set_option linter.unusedVariables false

abbrev cmpV' : Value := .func (.func 105) #[] #[]

set_option maxRecDepth 100000 in
set_option maxHeartbeats 400000 in
theorem sym_last (base : Nat) (W : World) (g cap n a m b : Nat) (P A S : List Pr) (y : Pr) (hR : Rw base 36 W g cap (P ++ (A ++ (y :: S)))) (hn : n = (P ++ (A ++ (y :: S))).length) (ha : a = P.length) (hm : m = P.length + A.length) (hb : b = P.length + A.length + 1) (hA1 : A.length ≠ 1) (hA : Srt A) (h9 : n ≤ 1000000000) :
    Calls Try.prog 170 #[.slice (some ⟨g, 0, none⟩) n cap, .int .i64 a, .int .i64 m, .int .i64 b, cmpV'] W fun e w' => e = .returned (.tuple #[]) ∧ Rw base 36 w' g cap (P ++ (ssort (A ++ [y]) ++ S)) ∧ W.grownBy w' (some g) := by
  have hbn : b ≤ n := by subst hn hb; simp; omega
  have hmb : m < b := by omega
  have ham : a ≤ m := by omega
  have t0 : (((m : Int) - (a : Int)) == 1) = false := by rw [beq_eq_false_iff_ne]; omega
  have t1 : (((b : Int) - (m : Int)) == 1) = true := by rw [beq_iff_eq]; omega
  have HA : Hid (_ ∧ _ ∧ _ ∧ _ ∧ _ ∧ _) := Lib.hid ⟨hR, hn, ha, hm, hb, hA⟩
  clear hR hn ha hb hm hA hA1
  go_enter Try.func170, Try.ntmps170
  repeat' go_step
  go_loopg [14, 15] (m - a) (fun gk vi vj wr => ∃ i j : Nat, vi = .int .i64 i ∧ vj = .int .i64 j ∧ a ≤ i ∧ i ≤ j ∧ j ≤ m ∧ j - i ≤ gk ∧ Ext W wr ∧ Hid (∀ t u, A[t]? = some u → (a + t < i → ¬ y.1 < u.1) ∧ (j ≤ a + t → y.1 < u.1)))
  case atStart =>
    obtain ⟨hR, hn, ha, hm, hb, hA⟩ := HA.out
    exact ⟨a, m, rfl, rfl, Nat.le_refl _, by omega, Nat.le_refl _, Nat.le_refl _, Ext.refl _, Lib.hid fun t u ht => ⟨fun h => by omega, fun h => by have := (List.getElem?_eq_some_iff.1 ht).1; omega⟩⟩
  case round =>
    obtain ⟨i, j, rfl, rfl, hmi, hij, hjb, hgk, hE, HI⟩ := hrel
    rcases Nat.lt_or_ge i j with hlt | hge
    · have d1 : decide (i < j) = true := by simp; omega
      obtain ⟨h, hh⟩ : ∃ h, h = (i + j) / 2 := ⟨_, rfl⟩
      have hh1 : ((i : Int) + (j : Int)) / 2 = (h : Int) := by omega
      have hih : i ≤ h := by omega
      have hhj : h < j := by omega
      obtain ⟨hR, hn, ha, hm, hb, hA⟩ := HA.out
      obtain ⟨u, hu⟩ := get_of_lt A (show h - a < A.length by omega)
      have hRx := hR.ext hE
      obtain ⟨hx1, hx2⟩ := hRx.get (i := m) (p := y) (by rw [List.getElem?_append_right (by omega), List.getElem?_append_right (by omega), show m - P.length - A.length = 0 by omega]; rfl)
      obtain ⟨hy1, hy2⟩ := hRx.get (i := h) (p := u) (by
        rw [List.getElem?_append_right (by omega), List.getElem?_append_left (by omega), ← ha]; exact hu)
      have hi1 : (m : Int) < (n : Int) := by omega
      have hi2 : (h : Int) < (n : Int) := by omega
      have HH : Hid (_ ∧ _) := Lib.hid ⟨hh, hu⟩
      clear hR hn ha hm hb hA hRx hh hu
      repeat' go_step
      go_still_tail 9, (by kernel_rfl)
      change wpList _ _ _ _ _ wr.drew
      repeat' (first | go_skip | go_guarded | go_step)
      refine (less_c _ y u).mono ?_
      rintro e w1 ⟨rfl, hb1⟩
      have hE1 : Ext W w1 := hE.drew.trans (hb1.mono hE.size)
      by_cases hlt : y.1 < u.1
      · have hc : decide (cmpB y.1 u.1 < 0) = true := by simp [cmpB_neg, hlt]
        go_simp
        repeat' go_step
        go_roundg (h - i)
        case measure => omega
        case rel =>
          refine ⟨i, h, rfl, rfl, by omega, by omega, by omega, Nat.le_refl _, hE1, Lib.hid fun t z hz => ⟨fun ht => (HI.out t z hz).1 ht, fun ht => ?_⟩⟩
          obtain ⟨hR, hn, ha, hm, hb, hA⟩ := HA.out
          exact Srt.above_lt hA HH.out.2 hz (by omega) hlt
      · have hc : decide (cmpB y.1 u.1 < 0) = false := by simp [cmpB_neg, hlt]
        go_simp
        repeat' go_step
        go_roundg (j - (h + 1))
        case measure => omega
        case rel =>
          refine ⟨h + 1, j, by go_num, rfl, by omega, by omega, by omega, Nat.le_refl _, hE1, Lib.hid fun t z hz => ⟨fun ht => ?_, fun ht => (HI.out t z hz).2 ht⟩⟩
          obtain ⟨hR, hn, ha, hm, hb, hA⟩ := HA.out
          exact Srt.below_nlt hA hz HH.out.2 (by omega) hlt
    · obtain rfl : i = j := by omega
      have d1 : decide (i < i) = false := by simp
      repeat' go_step
      obtain ⟨wo, rfl⟩ : ∃ wo : World, wo = wr := ⟨_, rfl⟩
      go_loopg [17] (m - i) (fun gk vk wr => ∃ k t : Nat, vk = .int .i64 k ∧ k = i + gk ∧ k ≤ m ∧ Hid (k = a + t ∧ Rw base 36 wr g cap (P ++ (A.take t ++ (y :: (A.drop t ++ S)))) ∧ W.grownBy wr (some g)))
      case atStart =>
        obtain ⟨hR, hn, ha, hm, hb, hA⟩ := HA.out
        exact ⟨m, A.length, rfl, by omega, Nat.le_refl _, Lib.hid ⟨by omega, by simpa using hR.ext hE, grown_ext hE⟩⟩
      case round =>
        obtain ⟨k, t, rfl, hk, hak, HR⟩ := hrel
        obtain ⟨wo', rfl⟩ : ∃ wo' : World, wo' = wr := ⟨_, rfl⟩
        obtain ⟨ht, hRt, hG⟩ := HR.out
        by_cases hlt : i < k
        · obtain ⟨hR, hn, ha, hm, hb, hA⟩ := HA.out
          obtain ⟨t1, ht1⟩ : ∃ t1, t = t1 + 1 := ⟨t - 1, by omega⟩
          obtain ⟨u, hu⟩ := get_of_lt A (show t1 < A.length by omega)
          obtain ⟨k1, hk1⟩ : ∃ k1, k = k1 + 1 := ⟨k - 1, by omega⟩
          have htl : (A.take t1).length = t1 := List.length_take_of_le (by omega)
          have hX : (P ++ A.take t1).length = k1 := by rw [List.length_append, htl]; omega
          have e1 : P ++ (A.take t ++ (y :: (A.drop t ++ S))) = (P ++ A.take t1) ++ u :: y :: (A.drop t ++ S) := by rw [ht1, take_snoc hu]; simp
          rw [e1] at hRt
          obtain ⟨hx1, hx2⟩ := hRt.get (get_mid _ _ _ hX)
          obtain ⟨hy1, hy2⟩ := hRt.get (get_mid1 _ _ _ _ (k := k) (by omega))
          have hfz := hRt.free
          have hs1 : IntKind.i64.wrap ((k : Int) - 1) = (k1 : Int) := by rw [show (k : Int) - 1 = (k1 : Int) by omega]; exact IntWalk.i64_in _ (by omega)
          have hi1 : (k : Int) < (n : Int) := by omega
          have hi2 : (k1 : Int) < (n : Int) := by omega
          have q1 : k ≠ k1 := by omega
          have q2 : k1 ≠ k := by omega
          have q3 : k * 2 + 1 ≠ k1 * 2 := by omega
          have q4 : k1 * 2 + 1 ≠ k * 2 := by omega
          have q5 : k * 2 ≠ k1 * 2 + 1 := by omega
          have q6 : k1 * 2 ≠ k * 2 + 1 := by omega
          have d2 : decide (i < k) = true := by simp [hlt]
          have HH : Hid (_ ∧ _ ∧ _ ∧ _ ∧ _ ∧ _ ∧ _) := Lib.hid ⟨hRt, hG, ht, hk1, hX, hu, ht1⟩
          have Hk := Lib.hid hk
          clear hR hn ha hm hb hA hu hk1 htl hX e1 hRt hG ht hk ht1
          repeat' go_step
          go_region
          repeat' go_step
          obtain ⟨hRt, hG, ht, hk1, hX, hu, ht1⟩ := HH.out
          go_roundg (gk - 1)
          case measure => have := Hk.out; omega
          case rel =>
            have hk := Hk.out
            refine ⟨k1, t1, rfl, by omega, by omega, Lib.hid ⟨by omega, ?_, (hG.trans (grown_swap _ g _ _ _ _ _ _ _ _)).trans (grown_ext (below_drewN (Ext.refl _) 1))⟩⟩
            have := (hRt.swap k u k1 y).drew
            rw [set_two _ _ _ _ hX hk1] at this
            rw [drop_cons hu, ← ht1]
            simpa using this
        · have d2 : decide (i < k) = false := by simp; omega
          have HH : Hid (_ ∧ _ ∧ _ ∧ _) := Lib.hid ⟨hRt, hG, ht, hk⟩
          clear hRt hG ht hk
          repeat' go_step
          refine bodyPost_ret (results_none rfl _ _ _) rfl ⟨rfl, ?_⟩
          obtain ⟨hRt, hG, ht, hk⟩ := HH.out
          obtain ⟨hR, hn, ha, hm, hb, hA⟩ := HA.out
          have := ssort_back (A1 := A.take t) (A2 := A.drop t) (y := y) (by rw [List.take_append_drop]; exact hA)
            (fun u hu => by obtain ⟨v, hv, hv2⟩ := mem_take_get hu; exact (HI.out v u hv2).1 (by omega))
            (fun u hu => by obtain ⟨v, hv, hv2⟩ := mem_drop_get hu; exact (HI.out v u hv2).2 (by omega))
          rw [List.take_append_drop] at this
          rw [← this]
          exact ⟨by simpa using hRt, hG⟩
end Go.Proofs.Ytclcgelbcbnekaa.Pch