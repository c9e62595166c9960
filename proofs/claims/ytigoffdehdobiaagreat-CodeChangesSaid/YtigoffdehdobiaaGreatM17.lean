/- Texts joined. -/
import Derived.Test.YtigoffdehdobiaaGreatRows
import Derived.Test.YtigoffdehdobiaaGreatM00
import Derived.Test.YtigoffdehdobiaaGreatM05
import Derived.Test.YtigoffdehdobiaaGreatM10
import Derived.Deep.LoopGhost
set_option linter.unusedVariables false
set_option linter.unusedSimpArgs false
/- Contracts of the small functions of the pair chapter. -/
namespace Go.Proofs.YtigoffdehdobiaaGreat
open Go.RowKit Go.QS
set_option linter.unusedVariables false

abbrev zP : Value := .agg #[.string ⟨#[]⟩, .string ⟨#[]⟩]
theorem infoP : ∃ i z, Tryz.prog.info? 70 = some i ∧ i.zero = some z ∧ i.size = 2 ∧ i.bytes = 32 ∧ z.cells.size = 2 := info_of (z := zP) (by kernel_rfl) rfl
end Go.Proofs.YtigoffdehdobiaaGreat
/- Contracts: comparing. -/
namespace Go.Proofs.YtigoffdehdobiaaGreat
open Go.RowKit Go.QS
set_option linter.unusedVariables false

set_option maxRecDepth 100000 in
theorem isnan_c (w : World) (a : List UInt8) : Calls Tryz.prog 118 #[str a] w fun e w' => e = .returned (.bool false) ∧ w = w' := by
  go_enter Tryz.func118, Tryz.ntmps118
  repeat' go_step
  go_ret
  exact ⟨by simp, rfl⟩

set_option maxRecDepth 100000 in
theorem compare_c (w : World) (a b : List UInt8) : Calls Tryz.prog 95 #[str a, str b] w fun e w' => e = .returned (.int .i64 (cmpB a b)) ∧ w = w' := by
  have hl := bless a b
  have hl' := bless b a
  rcases k_tri a b with h | h | h
  · have e1 : decide (a < b) = true := by simp [h]
    rw [e1] at hl
    have H := Lib.hid h; clear h e1 hl'
    go_enter Tryz.func95, Tryz.ntmps95
    repeat' (first | (go_at_call 118; refine (isnan_c _ _).mono ?_; rintro e w' ⟨rfl, rfl⟩; go_simp) | go_step)
    go_ret
    exact ⟨by simp [cmpB, H.out], rfl⟩
  · subst h
    have e1 : decide (a < a) = false := by simp [k_irrefl]
    rw [e1] at hl
    clear e1 hl'
    go_enter Tryz.func95, Tryz.ntmps95
    repeat' (first | (go_at_call 118; refine (isnan_c _ _).mono ?_; rintro e w' ⟨rfl, rfl⟩; go_simp) | go_step)
    go_ret
    exact ⟨by simp [cmpB, k_irrefl], rfl⟩
  · have e1 : decide (a < b) = false := by simp [k_asymm h]
    rw [e1] at hl
    have e2 : (a == b) = false := by simp [(k_ne h).symm]
    have H := Lib.hid h; have H' := Lib.hid (k_asymm h); clear h e1 hl'
    go_enter Tryz.func95, Tryz.ntmps95
    repeat' (first | (go_at_call 118; refine (isnan_c _ _).mono ?_; rintro e w' ⟨rfl, rfl⟩; go_simp) | go_step)
    go_ret
    exact ⟨by simp [cmpB, H.out, H'.out], rfl⟩

set_option maxRecDepth 100000 in
theorem order_c (w : World) (p : Pr) (b : List UInt8) : Calls Tryz.prog 73 #[.agg #[str p.1, str p.2], str b] w fun e w' => e = .returned (.int .i64 (cmpB p.1 b)) ∧ Ext w w' := by
  go_enter Tryz.func73, Tryz.ntmps73
  repeat' (first | (go_at_call 95; refine (compare_c _ _ _).mono ?_; rintro e w' ⟨rfl, rfl⟩; go_simp) | go_step)
  go_ret
  exact ⟨rfl, (Ext.refl _).alloc (Nat.le_refl _) _⟩

set_option maxRecDepth 100000 in
theorem less_c (w : World) (p q : Pr) : Calls Tryz.prog 72 #[.agg #[str p.1, str p.2], .agg #[str q.1, str q.2]] w fun e w' => e = .returned (.int .i64 (cmpB p.1 q.1)) ∧ Ext w w' := by
  go_enter Tryz.func72, Tryz.ntmps72
  repeat' (first | (go_at_call 73; refine (order_c _ p q.1).mono ?_; rintro e w' ⟨rfl, hb⟩; go_simp) | go_step)
  go_ret
  exact ⟨rfl, (((Ext.refl _).alloc (Nat.le_refl _) _).alloc (by simp) _).trans (hb.mono (by simp; omega))⟩
end Go.Proofs.YtigoffdehdobiaaGreat
/- Contracts: blocks that change places. -/
namespace Go.Proofs.YtigoffdehdobiaaGreat
open Go.RowKit Go.QS
set_option linter.unusedVariables false

set_option maxRecDepth 100000 in
set_option maxHeartbeats 400000 in
theorem swap_c (base : Nat) (W : World) (cv : Value) (g cap n a b m : Nat) (P U M V S : List Pr) (hR : Rw base 70 W g cap (P ++ (U ++ (M ++ (V ++ S))))) (hn : n = (P ++ (U ++ (M ++ (V ++ S)))).length) (ha : a = P.length) (hb : b = P.length + (U.length + M.length)) (hm : m = U.length) (hmv : m = V.length) (h9 : n ≤ 1000000000) :
    Calls Tryz.prog 155 #[.slice (some ⟨g, 0, none⟩) n cap, .int .i64 a, .int .i64 b, .int .i64 m, cv] W fun e w' => e = .returned (.tuple #[]) ∧ Rw base 70 w' g cap (P ++ (V ++ (M ++ (U ++ S)))) ∧ W.grownBy w' (some g) := by
  have hbm : b + m ≤ n := by subst hn hb; rw [hmv]; simp; omega
  have hab : a + m ≤ b := by omega
  have HA : Hid (_ ∧ _ ∧ _ ∧ _ ∧ _ ∧ _) := Lib.hid ⟨hR, hn, ha, hb, hm, hmv⟩
  clear hR hn ha hb hm hmv
  go_enter Tryz.func155, Tryz.ntmps155
  repeat' go_step
  go_loopg [10] m (fun gk i wr => ∃ k : Nat, k + gk = m ∧ i = .int .i64 k ∧ Hid (Rw base 70 wr g cap (sw P U M V S k) ∧ W.grownBy wr (some g)))
  case atStart =>
    obtain ⟨hR, hn, ha, hb, hm, hmv⟩ := HA.out
    exact ⟨0, by omega, rfl, Lib.hid ⟨by rw [sw_zero]; exact hR, World.grownBy.refl _ _⟩⟩
  case round =>
    obtain ⟨k, hk, rfl, HR⟩ := hrel
    have Hk := Lib.hid hk
    by_cases hlt : k < m
    · obtain ⟨hR, hn, ha, hb, hm, hmv⟩ := HA.out
      obtain ⟨u, hu⟩ := get_of_lt U (show k < U.length by omega)
      obtain ⟨v, hv⟩ := get_of_lt V (show k < V.length by omega)
      have hg := sw_get (P := P) (M := M) (S := S) hu hv
      obtain ⟨p, hp⟩ : ∃ p, p = a + k := ⟨_, rfl⟩
      obtain ⟨q, hq⟩ : ∃ q, q = b + k := ⟨_, rfl⟩
      rw [← hb, ← ha, ← hp, ← hq] at hg
      obtain ⟨hx1, hx2⟩ := HR.out.1.get hg.1
      obtain ⟨hy1, hy2⟩ := HR.out.1.get hg.2
      have hst := sw_step (P := P) (M := M) (S := S) hu hv
      rw [← hb, ← ha, ← hp, ← hq] at hst
      have hfz := HR.out.1.free
      have hs1 : IntKind.i64.wrap ((a : Int) + (k : Int)) = (p : Int) := by rw [hp]; exact IntWalk.i64_in _ (by omega)
      have hs2 : IntKind.i64.wrap ((b : Int) + (k : Int)) = (q : Int) := by rw [hq]; exact IntWalk.i64_in _ (by omega)
      have hi1 : (p : Int) < (n : Int) := by omega
      have hi2 : (q : Int) < (n : Int) := by omega
      have q1 : p ≠ q := by omega
      have q2 : q ≠ p := by omega
      have q3 : p * 2 + 1 ≠ q * 2 := by omega
      have q4 : q * 2 + 1 ≠ p * 2 := by omega
      have q5 : p * 2 ≠ q * 2 + 1 := by omega
      have q6 : q * 2 ≠ p * 2 + 1 := by omega
      have hd : decide (k < m) = true := by simp [hlt]
      have HH : Hid (_ ∧ _ ∧ _) := Lib.hid ⟨hst, hp, hq⟩
      clear hR hn ha hb hm hmv hu hv hg hst hp hq hk
      repeat' go_step
      go_region
      repeat' go_step
      go_roundg (gk - 1)
      case measure => have := Hk.out; omega
      case rel =>
        refine ⟨k + 1, by have := Hk.out; omega, by go_num, Lib.hid ⟨?_, (HR.out.2.trans (grown_swap wr g _ _ _ _ _ _ _ _)).trans (grown_ext (below_drewN (Ext.refl _) 1))⟩⟩
        rw [← HH.out.1]
        exact (HR.out.1.swap _ _ _ _).drew
    · have hd : decide (k < m) = false := by simp; omega
      have e : k = m := by omega
      have HE := Lib.hid e
      clear hk e
      repeat' go_step
      refine bodyPost_end (results_none rfl _ _ _) rfl ⟨rfl, ?_⟩
      obtain ⟨hR, hn, ha, hb, hm, hmv⟩ := HA.out
      have := HR.out
      rw [HE.out, hm, sw_end _ _ _ _ _ (by omega)] at this
      exact this
end Go.Proofs.YtigoffdehdobiaaGreat
/- Contracts: a row turned round a place. -/
namespace Go.Proofs.YtigoffdehdobiaaGreat
open Go.RowKit Go.QS
set_option linter.unusedVariables false

set_option maxRecDepth 100000 in
set_option maxHeartbeats 400000 in
theorem rotate_c (base : Nat) (W : World) (cv : Value) (g cap n a m b : Nat) (P U V S : List Pr) (hR : Rw base 70 W g cap (P ++ (U ++ (V ++ S)))) (hn : n = (P ++ (U ++ (V ++ S))).length) (ha : a = P.length) (hm : m = P.length + U.length) (hb : b = P.length + (U.length + V.length)) (hU : 0 < U.length) (hV : 0 < V.length) (h9 : n ≤ 1000000000) :
    Calls Tryz.prog 143 #[.slice (some ⟨g, 0, none⟩) n cap, .int .i64 a, .int .i64 m, .int .i64 b, cv] W fun e w' => e = .returned (.tuple #[]) ∧ Rw base 70 w' g cap (P ++ (V ++ (U ++ S))) ∧ W.grownBy w' (some g) := by
  have hbn : b ≤ n := by subst hn hb; simp
  have hmb : m ≤ b := by omega
  have ham : a ≤ m := by omega
  obtain ⟨i0, hi0⟩ : ∃ i, i = U.length := ⟨_, rfl⟩
  obtain ⟨j0, hj0⟩ : ∃ j, j = V.length := ⟨_, rfl⟩
  have hs1 : (m : Int) - (a : Int) = (i0 : Int) := by omega
  have hs2 : (b : Int) - (m : Int) = (j0 : Int) := by omega
  have HA : Hid (_ ∧ _ ∧ _ ∧ _ ∧ _ ∧ _ ∧ _ ∧ _ ∧ _) := Lib.hid ⟨hR, hn, ha, hb, hm, hU, hV, hi0, hj0⟩
  clear hR hn ha hb hm hU hV hi0 hj0
  go_enter Tryz.func143, Tryz.ntmps143
  repeat' go_step
  go_loopg [10, 11] (i0 + j0) (fun gk vi vj wr => ∃ (P' U' V' S' : List Pr) (i j : Nat), vi = .int .i64 i ∧ vj = .int .i64 j ∧ i + j ≤ gk ∧ i ≤ m ∧ m + j ≤ n ∧ Hid (Rw base 70 wr g cap (P' ++ (U' ++ (V' ++ S'))) ∧ W.grownBy wr (some g) ∧
    i = U'.length ∧ j = V'.length ∧ m = P'.length + U'.length ∧ 0 < U'.length ∧ 0 < V'.length ∧ P' ++ (V' ++ (U' ++ S')) = P ++ (V ++ (U ++ S)) ∧ n = (P' ++ (U' ++ (V' ++ S'))).length))
  case atStart =>
    obtain ⟨hR, hn, ha, hb, hm, hU, hV, hi0, hj0⟩ := HA.out
    exact ⟨P, U, V, S, i0, j0, rfl, rfl, Nat.le_refl _, by omega, by omega, Lib.hid ⟨hR, World.grownBy.refl _ _, hi0, hj0, hm, hU, hV, rfl, hn⟩⟩
  case round =>
    obtain ⟨P', U', V', S', i, j, rfl, rfl, hgk, him, hjn, HR⟩ := hrel
    obtain ⟨hR, hG, hi, hj, hm, hU, hV, hT, hn⟩ := HR.out
    obtain ⟨p, hp⟩ : ∃ p, p = P'.length := ⟨_, rfl⟩
    rcases Nat.lt_trichotomy i j with hij | hij | hij
    · have t1 : ((i : Int) != (j : Int)) = true := by rw [bne_iff_ne]; omega
      have t2 : decide (j < i) = false := by simp; omega
      obtain ⟨q, hq⟩ : ∃ q, q = P'.length + (U'.length + (V'.take (j - i)).length) := ⟨_, rfl⟩
      have hlt : (V'.take (j - i)).length = j - i := List.length_take_of_le (by omega)
      have s1 : (m : Int) - (i : Int) = (p : Int) := by omega
      have s2 : (m : Int) + (j : Int) - (i : Int) = (q : Int) := by omega
      have s3 : (j : Int) - (i : Int) = ((j - i : Nat) : Int) := by omega
      have hc := swap_c base wr cv g cap n p q i P' U' (V'.take (j - i)) (V'.drop (j - i)) S' (by rw [← List.append_assoc (V'.take _), List.take_append_drop]; exact hR) (by rw [hn]; congr 2; rw [← List.append_assoc (V'.take _), List.take_append_drop]) hp hq hi (by simp; omega) h9
      have HC := Lib.hid hc
      have HS := Lib.hid s3
      have hq9 : i < j := hij
      clear hR hG hi hj hm hU hV hT hn hp hij hq hlt hc s3
      repeat' (first | (go_at_call 155; refine HC.out.mono ?_; rintro e w1 ⟨rfl, H1⟩; replace H1 := Lib.hid H1; go_simp) | go_step)
      obtain ⟨hR, hG, hi, hj, hm, hU, hV, hT, hn⟩ := HR.out
      go_roundg (i + (j - i))
      case measure => omega
      case rel =>
        refine ⟨P', V'.drop (j - i), V'.take (j - i), U' ++ S', i, j - i, rfl, by rw [← HS.out], Nat.le_refl _, by omega, by omega, Lib.hid ⟨?_, hG.trans H1.out.2, by simp <;> omega, by simp <;> omega, by simp <;> omega, by simp <;> omega, by simp <;> omega, ?_, ?_⟩⟩
        · simpa using H1.out.1
        · rw [← hT, ← List.append_assoc (V'.take _), List.take_append_drop]
        · rw [hn]; simp <;> omega
    · have t1 : ((i : Int) != (j : Int)) = false := by rw [bne_eq_false_iff_eq]; omega
      have s1 : (m : Int) - (i : Int) = (p : Int) := by omega
      have hc := swap_c base wr cv g cap n p m i P' U' [] V' S' (by simpa using hR) (by rw [hn]; simp) hp (by simpa using hm) hi (by omega) h9
      have HC := Lib.hid hc
      clear hR hG hi hj hm hU hV hT hn hp hij hc
      repeat' (first | (go_at_call 155; refine HC.out.mono ?_; rintro e w1 ⟨rfl, H1⟩; replace H1 := Lib.hid H1; go_simp) | go_step)
      obtain ⟨hR, hG, hi, hj, hm, hU, hV, hT, hn⟩ := HR.out
      refine bodyPost_end (results_none rfl _ _ _) rfl ⟨rfl, ?_, hG.trans H1.out.2⟩
      rw [← hT]
      simpa using H1.out.1
    · have t1 : ((i : Int) != (j : Int)) = true := by rw [bne_iff_ne]; omega
      have t2 : decide (j < i) = true := by simp; omega
      have hlt : (U'.take j).length = j := List.length_take_of_le (by omega)
      have s1 : (m : Int) - (i : Int) = (p : Int) := by omega
      have s3 : (i : Int) - (j : Int) = ((i - j : Nat) : Int) := by omega
      have hc := swap_c base wr cv g cap n p m j P' (U'.take j) (U'.drop j) V' S' (by rw [← List.append_assoc (U'.take _), List.take_append_drop]; exact hR) (by rw [hn]; congr 2; rw [← List.append_assoc (U'.take _), List.take_append_drop]) hp (by simp; omega) hlt.symm hj h9
      have HC := Lib.hid hc
      have HS := Lib.hid s3
      have hq9 : j < i := hij
      clear hR hG hi hj hm hU hV hT hn hp hij hlt hc s3
      repeat' (first | (go_at_call 155; refine HC.out.mono ?_; rintro e w1 ⟨rfl, H1⟩; replace H1 := Lib.hid H1; go_simp) | go_step)
      obtain ⟨hR, hG, hi, hj, hm, hU, hV, hT, hn⟩ := HR.out
      go_roundg (i - j + j)
      case measure => omega
      case rel =>
        refine ⟨P' ++ V', U'.drop j, U'.take j, S', i - j, j, by rw [← HS.out], rfl, Nat.le_refl _, by omega, by omega, Lib.hid ⟨?_, hG.trans H1.out.2, by simp <;> omega, by simp <;> omega, by simp <;> omega, by simp <;> omega, by simp <;> omega, ?_, ?_⟩⟩
        · simpa using H1.out.1
        · rw [← hT, List.append_assoc, ← List.append_assoc (U'.take _), List.take_append_drop]
        · rw [hn]; simp <;> omega
end Go.Proofs.YtigoffdehdobiaaGreat
