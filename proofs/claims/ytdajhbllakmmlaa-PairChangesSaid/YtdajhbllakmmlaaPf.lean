/- Contracts: a row turned round a place. -/
import Derived.Test.YtdajhbllakmmlaaPe
namespace Go.Proofs.Ytdajhbllakmmlaa
open Go.RowKit Go.QS
set_option linter.unusedVariables false

set_option maxRecDepth 100000 in
set_option maxHeartbeats 400000 in
theorem rotate_c (base : Nat) (W : World) (cv : Value) (g cap n a m b : Nat) (P U V S : List Pr) (hR : Rw base 40 W g cap (P ++ (U ++ (V ++ S)))) (hn : n = (P ++ (U ++ (V ++ S))).length) (ha : a = P.length) (hm : m = P.length + U.length) (hb : b = P.length + (U.length + V.length)) (hU : 0 < U.length) (hV : 0 < V.length) (h9 : n ≤ 1000000000) :
    Calls Try.prog 39 #[.slice (some ⟨g, 0, none⟩) n cap, .int .i64 a, .int .i64 m, .int .i64 b, cv] W fun e w' => e = .returned (.tuple #[]) ∧ Rw base 40 w' g cap (P ++ (V ++ (U ++ S))) ∧ W.grownBy w' (some g) := by
  have hbn : b ≤ n := by subst hn hb; simp
  have hmb : m ≤ b := by omega
  have ham : a ≤ m := by omega
  obtain ⟨i0, hi0⟩ : ∃ i, i = U.length := ⟨_, rfl⟩
  obtain ⟨j0, hj0⟩ : ∃ j, j = V.length := ⟨_, rfl⟩
  have hs1 : (m : Int) - (a : Int) = (i0 : Int) := by omega
  have hs2 : (b : Int) - (m : Int) = (j0 : Int) := by omega
  have HA : Hid (_ ∧ _ ∧ _ ∧ _ ∧ _ ∧ _ ∧ _ ∧ _ ∧ _) := Lib.hid ⟨hR, hn, ha, hb, hm, hU, hV, hi0, hj0⟩
  clear hR hn ha hb hm hU hV hi0 hj0
  go_enter Try.func39, Try.ntmps39
  repeat' go_step
  go_loopg [10, 11] (i0 + j0) (fun gk vi vj wr => ∃ (P' U' V' S' : List Pr) (i j : Nat), vi = .int .i64 i ∧ vj = .int .i64 j ∧ i + j ≤ gk ∧ i ≤ m ∧ m + j ≤ n ∧ Hid (Rw base 40 wr g cap (P' ++ (U' ++ (V' ++ S'))) ∧ W.grownBy wr (some g) ∧
    i = U'.length ∧ j = V'.length ∧ m = P'.length + U'.length ∧ 0 < U'.length ∧ 0 < V'.length ∧ P' ++ (V' ++ (U' ++ S')) = P ++ (V ++ (U ++ S)) ∧ n = (P' ++ (U' ++ (V' ++ S'))).length))
  case atStart =>
    obtain ⟨hR, hn, ha, hb, hm, hU, hV, hi0, hj0⟩ := HA.out
    exact ⟨P, U, V, S, i0, j0, rfl, rfl, Nat.le_refl _, by omega, by omega, Lib.hid ⟨hR, World.grownBy.refl _ _, hi0, hj0, hm, hU, hV, rfl, hn⟩⟩
  case round =>
    obtain ⟨P', U', V', S', i, j, rfl, rfl, hgk, him, hjn, HR⟩ := hrel
    obtain ⟨hR, hG, hi, hj, hm, hU, hV, hT, hn⟩ := HR.out
    obtain ⟨p, hp⟩ : ∃ p, p = P'.length := ⟨_, rfl⟩
    rcases Nat.lt_trichotomy i j with hij | hij | hij
    · have t1 : ((i : Int) != (j : Int)) = true := by rw [bne_iff_ne]; omega
      have t2 : decide (j < i) = false := by simp; omega
      obtain ⟨q, hq⟩ : ∃ q, q = P'.length + (U'.length + (V'.take (j - i)).length) := ⟨_, rfl⟩
      have hlt : (V'.take (j - i)).length = j - i := List.length_take_of_le (by omega)
      have s1 : (m : Int) - (i : Int) = (p : Int) := by omega
      have s2 : (m : Int) + (j : Int) - (i : Int) = (q : Int) := by omega
      have s3 : (j : Int) - (i : Int) = ((j - i : Nat) : Int) := by omega
      have hc := swap_c base wr cv g cap n p q i P' U' (V'.take (j - i)) (V'.drop (j - i)) S' (by rw [← List.append_assoc (V'.take _), List.take_append_drop]; exact hR) (by rw [hn]; congr 2; rw [← List.append_assoc (V'.take _), List.take_append_drop]) hp hq hi (by simp; omega) h9
      have HC := Lib.hid hc
      have HS := Lib.hid s3
      have hq9 : i < j := hij
      clear hR hG hi hj hm hU hV hT hn hp hij hq hlt hc s3
      repeat' (first | (go_at_call 40; refine HC.out.mono ?_; rintro e w1 ⟨rfl, H1⟩; replace H1 := Lib.hid H1; go_simp) | go_step)
      obtain ⟨hR, hG, hi, hj, hm, hU, hV, hT, hn⟩ := HR.out
      go_roundg (i + (j - i))
      case measure => omega
      case rel =>
        refine ⟨P', V'.drop (j - i), V'.take (j - i), U' ++ S', i, j - i, rfl, by rw [← HS.out], Nat.le_refl _, by omega, by omega, Lib.hid ⟨?_, hG.trans H1.out.2, by simp <;> omega, by simp <;> omega, by simp <;> omega, by simp <;> omega, by simp <;> omega, ?_, ?_⟩⟩
        · simpa using H1.out.1
        · rw [← hT, ← List.append_assoc (V'.take _), List.take_append_drop]
        · rw [hn]; simp <;> omega
    · have t1 : ((i : Int) != (j : Int)) = false := by rw [bne_eq_false_iff_eq]; omega
      have s1 : (m : Int) - (i : Int) = (p : Int) := by omega
      have hc := swap_c base wr cv g cap n p m i P' U' [] V' S' (by simpa using hR) (by rw [hn]; simp) hp (by simpa using hm) hi (by omega) h9
      have HC := Lib.hid hc
      clear hR hG hi hj hm hU hV hT hn hp hij hc
      repeat' (first | (go_at_call 40; refine HC.out.mono ?_; rintro e w1 ⟨rfl, H1⟩; replace H1 := Lib.hid H1; go_simp) | go_step)
      obtain ⟨hR, hG, hi, hj, hm, hU, hV, hT, hn⟩ := HR.out
      refine bodyPost_end (results_none rfl _ _ _) rfl ⟨rfl, ?_, hG.trans H1.out.2⟩
      rw [← hT]
      simpa using H1.out.1
    · have t1 : ((i : Int) != (j : Int)) = true := by rw [bne_iff_ne]; omega
      have t2 : decide (j < i) = true := by simp; omega
      have hlt : (U'.take j).length = j := List.length_take_of_le (by omega)
      have s1 : (m : Int) - (i : Int) = (p : Int) := by omega
      have s3 : (i : Int) - (j : Int) = ((i - j : Nat) : Int) := by omega
      have hc := swap_c base wr cv g cap n p m j P' (U'.take j) (U'.drop j) V' S' (by rw [← List.append_assoc (U'.take _), List.take_append_drop]; exact hR) (by rw [hn]; congr 2; rw [← List.append_assoc (U'.take _), List.take_append_drop]) hp (by simp; omega) hlt.symm hj h9
      have HC := Lib.hid hc
      have HS := Lib.hid s3
      have hq9 : j < i := hij
      clear hR hG hi hj hm hU hV hT hn hp hij hlt hc s3
      repeat' (first | (go_at_call 40; refine HC.out.mono ?_; rintro e w1 ⟨rfl, H1⟩; replace H1 := Lib.hid H1; go_simp) | go_step)
      obtain ⟨hR, hG, hi, hj, hm, hU, hV, hT, hn⟩ := HR.out
      go_roundg (i - j + j)
      case measure => omega
      case rel =>
        refine ⟨P' ++ V', U'.drop j, U'.take j, S', i - j, j, by rw [← HS.out], rfl, Nat.le_refl _, by omega, by omega, Lib.hid ⟨?_, hG.trans H1.out.2, by simp <;> omega, by simp <;> omega, by simp <;> omega, by simp <;> omega, by simp <;> omega, ?_, ?_⟩⟩
        · simpa using H1.out.1
        · rw [← hT, List.append_assoc, ← List.append_assoc (U'.take _), List.take_append_drop]
        · rw [hn]; simp <;> omega
end Go.Proofs.Ytdajhbllakmmlaa
