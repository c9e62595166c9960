/- Contracts: sorting in place. -/
import Derived.Test.YtdajhbllakmmlaaPc
import Derived.Test.YtdajhbllakmmlaaRow
namespace Go.Proofs.Ytdajhbllakmmlaa
open Go.RowKit Go.QS
set_option linter.unusedVariables false

abbrev cmpD : Value := .func (.func 28) #[] #[]

set_option maxRecDepth 100000 in
set_option maxHeartbeats 400000 in
theorem insertion_c (base : Nat) (W : World) (g cap n a b : Nat) (P A S : List Pr) (hR : Rw base 40 W g cap (P ++ (A ++ S))) (hn : n = (P ++ (A ++ S)).length) (ha : a = P.length) (hb : b = P.length + A.length) (h9 : n ≤ 1000000000) :
    Calls Try.prog 36 #[.slice (some ⟨g, 0, none⟩) n cap, .int .i64 a, .int .i64 b, cmpD] W fun e w' => e = .returned (.tuple #[]) ∧ Rw base 40 w' g cap (P ++ (ssort A ++ S)) ∧ W.grownBy w' (some g) := by
  have Hn := Lib.hid hn; have Ha := Lib.hid ha; have Hb := Lib.hid hb
  have hbn : b ≤ n := by subst hn hb; simp
  have hab : a ≤ b := by omega
  have hR' := Lib.hid hR
  clear hn ha hb hR
  go_enter Try.func36, Try.ntmps36
  repeat' go_step
  go_loopw [8] (fun i wr => ∃ m k : Nat, 1 ≤ k ∧ (a + k ≤ b ∨ k = 1) ∧ i = .int .i64 (m : Nat) ∧ Hid (m = a + k) ∧ Hid (Rw base 40 wr g cap (P ++ (ssort (A.take k) ++ (A.drop k ++ S))) ∧ W.grownBy wr (some g))) (fun i _ => b - (intOf i).toNat)
  case atStart => exact ⟨a + 1, 1, Nat.le_refl _, .inr rfl, by go_num, Lib.hid rfl, Lib.hid ⟨by rw [ssort_take_one, ← List.append_assoc (A.take 1), List.take_append_drop]; exact hR'.out, World.grownBy.refl _ _⟩⟩
  case round =>
    obtain ⟨m, k, hk1, hk2, rfl, Hm, HR⟩ := hrel
    by_cases hlt : a + k < b
    · have hd0 : decide (m < b) = true := by have := Hm.out; simp; omega
      have hm9 : m < n := by have := Hm.out; omega
      have hkA : k < A.length := by have := Ha.out; have := Hb.out; omega
      obtain ⟨x, hx⟩ := get_of_lt A hkA
      have HX := Lib.hid hx
      clear hx
      repeat' go_step
      obtain ⟨wo, rfl⟩ : ∃ wo : World, wo = wr := ⟨_, rfl⟩
      go_loopw [9] (fun j wr => ∃ T1 T2 : List Pr, j = .int .i64 (a + T1.length : Nat) ∧ a + T1.length ≤ m ∧ Hid (T1 ++ T2 = ssort (A.take k) ∧ (∀ y ∈ T2, x.1 < y.1) ∧ Rw base 40 wr g cap (P ++ (T1 ++ (x :: T2 ++ (A.drop (k + 1) ++ S)))) ∧ W.grownBy wr (some g))) (fun j _ => (intOf j).toNat)
      case atStart =>
        refine ⟨ssort (A.take k), [], ?_, ?_, Lib.hid ⟨by simp, by simp, ?_, HR.out.2⟩⟩
        · rw [ssort_length, List.length_take_of_le (by omega), Hm.out]
        · rw [ssort_length, List.length_take_of_le (by omega), Hm.out]; omega
        · have := HR.out.1
          rw [List.drop_eq_getElem?_toList_append, HX.out] at this
          simpa using this
      case round =>
        obtain ⟨T1, T2, rfl, hT1, HI⟩ := hrel
        rcases List.eq_nil_or_concat T1 with h0 | ⟨T1', y, h0⟩
        · subst h0
          have hd : decide ((a : Int) < ((a + ([] : List Pr).length : Nat) : Int)) = false := by simp
          repeat' go_step
          go_quiet (fail)
          repeat' go_step
          obtain ⟨HE, H2, HRw, HG⟩ := HI.out
          have hmo := Hm.out
          refine ⟨⟨m + 1, k + 1, by omega, by omega, by go_num, Lib.hid (by omega), Lib.hid ⟨?_, HG.trans (grown_ext (below_drewN (Ext.refl _) _))⟩⟩, by simp [intOf]; omega⟩
          have e1 := ins_done HE.symm H2 (x := x) (by simp)
          rw [← take_snoc HX.out] at e1
          rw [← e1]
          simpa using HRw.drewN _
        · subst h0
          obtain ⟨HE, H2, HRw, HG⟩ := HI.out
          obtain ⟨j, hj⟩ : ∃ j, j = a + T1'.length := ⟨_, rfl⟩
          have hjj : a + (T1'.concat y).length = j + 1 := by subst hj; simp; omega
          rw [hjj] at hT1 ⊢
          obtain ⟨j1, hj1⟩ : ∃ j1, j1 = j + 1 := ⟨_, rfl⟩
          rw [← hj1] at hT1 ⊢
          have hL : P ++ (T1'.concat y ++ (x :: T2 ++ (A.drop (k + 1) ++ S))) = (P ++ T1') ++ (y :: x :: (T2 ++ (A.drop (k + 1) ++ S))) := by simp
          rw [hL] at HRw
          have hPT : (P ++ T1').length = j := by have := Ha.out; simp; omega
          have hy := HRw.get (i := j) (p := y) (by rw [List.getElem?_append_right (by omega), hPT]; simp)
          have hx := HRw.get (i := j1) (p := x) (by rw [List.getElem?_append_right (by omega), hPT, hj1]; simp)
          have HH : Hid (_ ∧ _ ∧ _ ∧ _ ∧ _ ∧ _ ∧ _ ∧ _) := Lib.hid ⟨HE, H2, HRw, HG, hj, hL, hPT, hj1⟩
          have hja : a ≤ j := by omega
          have hjn : j1 < n := by omega
          have hd : decide (a < j1) = true := by simp; omega
          obtain ⟨hy1, hy2⟩ := hy
          obtain ⟨hx1, hx2⟩ := hx
          have hi1 : (j1 : Int) < (n : Int) := by omega
          have hi2 : (j : Int) < (n : Int) := by omega
          have hs : IntKind.i64.wrap ((j1 : Int) - 1) = (j : Int) := by rw [hj1, show ((j + 1 : Nat) : Int) - 1 = (j : Int) by omega]; exact IntWalk.i64_in _ (by omega)
          clear HE H2 HRw HG hj hL hPT hjj HI hj1
          repeat' go_step
          go_still_tail 14, (by kernel_rfl)
          change wpList _ _ _ _ _ wr.drew
          repeat' (first | go_skip | go_guarded | go_step)
          refine (less_c _ x y).mono ?_
          rintro e w1 ⟨rfl, hb1⟩
          obtain ⟨HE, H2, HRw, HG, hj, hL, hPT, hj1⟩ := HH.out
          have HR1 := (HRw.drewN 1).ext hb1
          have HG1 : W.grownBy w1 (some g) := (HG.trans (grown_ext (below_drewN (Ext.refl wr) 1))).trans (grown_ext hb1)
          obtain ⟨hy1, hy2⟩ := HR1.get (i := j) (p := y) (by rw [List.getElem?_append_right (by omega), hPT]; simp)
          obtain ⟨hx1, hx2⟩ := HR1.get (i := j1) (p := x) (by rw [List.getElem?_append_right (by omega), hPT, hj1]; simp)
          have hfz := HR1.free
          have HH' : Hid (_ ∧ _) := Lib.hid ⟨HR1, HG1⟩
          have q1 : j1 ≠ j := by omega
          have q2 : j ≠ j1 := by omega
          have q3 : j1 * 2 + 1 ≠ j * 2 := by omega
          have q4 : j * 2 + 1 ≠ j1 * 2 := by omega
          have q5 : j1 * 2 ≠ j * 2 + 1 := by omega
          have q6 : j * 2 ≠ j1 * 2 + 1 := by omega
          clear HE H2 HRw HG hj hL hPT hj1 HR1 HG1
          by_cases hlt : x.1 < y.1
          · have hc : decide (cmpB x.1 y.1 < 0) = true := by simp [cmpB_neg, hlt]
            go_simp
            repeat' (first | go_skip | go_guarded | go_step)
            go_region
            repeat' (first | go_skip | go_guarded | go_step)
            obtain ⟨HE, H2, HRw, HG, hj, hL, hPT, hj1⟩ := HH.out
            obtain ⟨HR1, HG1⟩ := HH'.out
            refine ⟨?_, ?_⟩
            · refine ⟨T1', y :: T2, by rw [hj], by omega, Lib.hid ⟨?_, ?_, ?_, ?_⟩⟩
              · rw [← HE]; simp
              · intro z hz
                rcases List.mem_cons.1 hz with rfl | hz
                · exact hlt
                · exact H2 z hz
              · have := (HR1.swap j1 y j x).drew
                rw [set_two _ _ _ _ hPT hj1] at this
                simpa using this
              · exact (HG1.trans (grown_swap w1 g _ _ _ _ _ _ _ _)).trans (grown_ext (below_drewN (Ext.refl _) 1))
            · simp [intOf]; omega
          · have hc : decide (cmpB x.1 y.1 < 0) = false := by simp [cmpB_neg, hlt]
            go_simp
            repeat' (first | go_skip | go_guarded | go_step)
            obtain ⟨HE, H2, HRw, HG, hj, hL, hPT, hj1⟩ := HH.out
            obtain ⟨HR1, HG1⟩ := HH'.out
            have hmo := Hm.out
            refine ⟨⟨m + 1, k + 1, by omega, by omega, by go_num, Lib.hid (by omega), Lib.hid ⟨?_, HG1⟩⟩, by simp [intOf]; omega⟩
            have e1 := ins_done HE.symm H2 (x := x) (fun z hz => by
              have hS := ssort_srt (A.take k)
              rw [← HE, srt_append] at hS
              rw [List.concat_eq_append] at hS hz
              rcases List.mem_append.1 hz with hz | hz
              · exact nlt_trans ((srt_append.1 hS.1).2.2 z hz y (by simp)) hlt
              · simp at hz; subst hz; exact hlt)
            rw [← take_snoc HX.out] at e1
            rw [← e1]
            rw [← hL] at HR1
            simpa using HR1
    · have hd0 : decide (m < b) = false := by have := Hm.out; simp; omega
      repeat' go_step
      refine bodyPost_end (results_none rfl _ _ _) rfl ⟨rfl, ?_⟩
      have e : ssort (A.take k) = ssort A ∧ A.drop k = [] := by
        have := Ha.out; have := Hb.out
        have : A.length ≤ k := by omega
        rw [List.take_of_length_le this, List.drop_eq_nil_of_le this]; exact ⟨rfl, rfl⟩
      have := HR.out
      rw [e.1, e.2] at this
      exact this
end Go.Proofs.Ytdajhbllakmmlaa
