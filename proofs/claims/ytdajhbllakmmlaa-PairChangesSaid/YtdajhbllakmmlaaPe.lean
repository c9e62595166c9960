/- Contracts: blocks that change places. -/
import Derived.Test.YtdajhbllakmmlaaPc
import Derived.Test.YtdajhbllakmmlaaRow
import Derived.Deep.LoopGhost
namespace Go.Proofs.Ytdajhbllakmmlaa
open Go.RowKit Go.QS
set_option linter.unusedVariables false

set_option maxRecDepth 100000 in
set_option maxHeartbeats 400000 in
theorem swap_c (base : Nat) (W : World) (cv : Value) (g cap n a b m : Nat) (P U M V S : List Pr) (hR : Rw base 40 W g cap (P ++ (U ++ (M ++ (V ++ S))))) (hn : n = (P ++ (U ++ (M ++ (V ++ S)))).length) (ha : a = P.length) (hb : b = P.length + (U.length + M.length)) (hm : m = U.length) (hmv : m = V.length) (h9 : n ≤ 1000000000) :
    Calls Try.prog 40 #[.slice (some ⟨g, 0, none⟩) n cap, .int .i64 a, .int .i64 b, .int .i64 m, cv] W fun e w' => e = .returned (.tuple #[]) ∧ Rw base 40 w' g cap (P ++ (V ++ (M ++ (U ++ S)))) ∧ W.grownBy w' (some g) := by
  have hbm : b + m ≤ n := by subst hn hb; rw [hmv]; simp; omega
  have hab : a + m ≤ b := by omega
  have HA : Hid (_ ∧ _ ∧ _ ∧ _ ∧ _ ∧ _) := Lib.hid ⟨hR, hn, ha, hb, hm, hmv⟩
  clear hR hn ha hb hm hmv
  go_enter Try.func40, Try.ntmps40
  repeat' go_step
  go_loopg [10] m (fun gk i wr => ∃ k : Nat, k + gk = m ∧ i = .int .i64 k ∧ Hid (Rw base 40 wr g cap (sw P U M V S k) ∧ W.grownBy wr (some g)))
  case atStart =>
    obtain ⟨hR, hn, ha, hb, hm, hmv⟩ := HA.out
    exact ⟨0, by omega, rfl, Lib.hid ⟨by rw [sw_zero]; exact hR, World.grownBy.refl _ _⟩⟩
  case round =>
    obtain ⟨k, hk, rfl, HR⟩ := hrel
    have Hk := Lib.hid hk
    by_cases hlt : k < m
    · obtain ⟨hR, hn, ha, hb, hm, hmv⟩ := HA.out
      obtain ⟨u, hu⟩ := get_of_lt U (show k < U.length by omega)
      obtain ⟨v, hv⟩ := get_of_lt V (show k < V.length by omega)
      have hg := sw_get (P := P) (M := M) (S := S) hu hv
      obtain ⟨p, hp⟩ : ∃ p, p = a + k := ⟨_, rfl⟩
      obtain ⟨q, hq⟩ : ∃ q, q = b + k := ⟨_, rfl⟩
      rw [← hb, ← ha, ← hp, ← hq] at hg
      obtain ⟨hx1, hx2⟩ := HR.out.1.get hg.1
      obtain ⟨hy1, hy2⟩ := HR.out.1.get hg.2
      have hst := sw_step (P := P) (M := M) (S := S) hu hv
      rw [← hb, ← ha, ← hp, ← hq] at hst
      have hfz := HR.out.1.free
      have hs1 : IntKind.i64.wrap ((a : Int) + (k : Int)) = (p : Int) := by rw [hp]; exact IntWalk.i64_in _ (by omega)
      have hs2 : IntKind.i64.wrap ((b : Int) + (k : Int)) = (q : Int) := by rw [hq]; exact IntWalk.i64_in _ (by omega)
      have hi1 : (p : Int) < (n : Int) := by omega
      have hi2 : (q : Int) < (n : Int) := by omega
      have q1 : p ≠ q := by omega
      have q2 : q ≠ p := by omega
      have q3 : p * 2 + 1 ≠ q * 2 := by omega
      have q4 : q * 2 + 1 ≠ p * 2 := by omega
      have q5 : p * 2 ≠ q * 2 + 1 := by omega
      have q6 : q * 2 ≠ p * 2 + 1 := by omega
      have hd : decide (k < m) = true := by simp [hlt]
      have HH : Hid (_ ∧ _ ∧ _) := Lib.hid ⟨hst, hp, hq⟩
      clear hR hn ha hb hm hmv hu hv hg hst hp hq hk
      repeat' go_step
      go_region
      repeat' go_step
      go_roundg (gk - 1)
      case measure => have := Hk.out; omega
      case rel =>
        refine ⟨k + 1, by have := Hk.out; omega, by go_num, Lib.hid ⟨?_, (HR.out.2.trans (grown_swap wr g _ _ _ _ _ _ _ _)).trans (grown_ext (below_drewN (Ext.refl _) 1))⟩⟩
        rw [← HH.out.1]
        exact (HR.out.1.swap _ _ _ _).drew
    · have hd : decide (k < m) = false := by simp; omega
      have e : k = m := by omega
      have HE := Lib.hid e
      clear hk e
      repeat' go_step
      refine bodyPost_end (results_none rfl _ _ _) rfl ⟨rfl, ?_⟩
      obtain ⟨hR, hn, ha, hb, hm, hmv⟩ := HA.out
      have := HR.out
      rw [HE.out, hm, sw_end _ _ _ _ _ (by omega)] at this
      exact this
end Go.Proofs.Ytdajhbllakmmlaa
