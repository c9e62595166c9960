/- Texts joined. -/
import Derived.Test.YtclcgelbcbnekaaBa
import Derived.Test.YtclcgelbcbnekaaMb
import Derived.Test.YtclcgelbcbnekaaKj
import Derived.Test.YtclcgelbcbnekaaMa
import Derived.Test.YtclcgelbcbnekaaBt
import Derived.Deep.LoopGhost
import Derived.Deep.RegionHeld3
set_option linter.unusedVariables false
set_option linter.unusedSimpArgs false
/- Contracts: sorting in place. -/
namespace Go.Proofs.Ytclcgelbcbnekaa.Pch
open Go.RowKit Go.QS
set_option linter.unusedVariables false

abbrev cmpD : Value := .func (.func 105) #[] #[]

set_option maxRecDepth 100000 in
set_option maxHeartbeats 400000 in
theorem insertion_c (base : Nat) (W : World) (g cap n a b : Nat) (P A S : List Pr) (hR : Rw base 36 W g cap (P ++ (A ++ S))) (hn : n = (P ++ (A ++ S)).length) (ha : a = P.length) (hb : b = P.length + A.length) (h9 : n ≤ 1000000000) :
    Calls Try.prog 169 #[.slice (some ⟨g, 0, none⟩) n cap, .int .i64 a, .int .i64 b, cmpD] W fun e w' => e = .returned (.tuple #[]) ∧ Rw base 36 w' g cap (P ++ (ssort A ++ S)) ∧ W.grownBy w' (some g) := by
  have Hn := Lib.hid hn; have Ha := Lib.hid ha; have Hb := Lib.hid hb
  have hbn : b ≤ n := by subst hn hb; simp
  have hab : a ≤ b := by omega
  have hR' := Lib.hid hR
  clear hn ha hb hR
  go_enter Try.func169, Try.ntmps169
  repeat' go_step
  go_loopw [8] (fun i wr => ∃ m k : Nat, 1 ≤ k ∧ (a + k ≤ b ∨ k = 1) ∧ i = .int .i64 (m : Nat) ∧ Hid (m = a + k) ∧ Hid (Rw base 36 wr g cap (P ++ (ssort (A.take k) ++ (A.drop k ++ S))) ∧ W.grownBy wr (some g))) (fun i _ => b - (intOf i).toNat)
  case atStart => exact ⟨a + 1, 1, Nat.le_refl _, .inr rfl, by go_num, Lib.hid rfl, Lib.hid ⟨by rw [ssort_take_one, ← List.append_assoc (A.take 1), List.take_append_drop]; exact hR'.out, World.grownBy.refl _ _⟩⟩
  case round =>
    obtain ⟨m, k, hk1, hk2, rfl, Hm, HR⟩ := hrel
    by_cases hlt : a + k < b
    · have hd0 : decide (m < b) = true := by have := Hm.out; simp; omega
      have hm9 : m < n := by have := Hm.out; omega
      have hkA : k < A.length := by have := Ha.out; have := Hb.out; omega
      obtain ⟨x, hx⟩ := get_of_lt A hkA
      have HX := Lib.hid hx
      clear hx
      repeat' go_step
      obtain ⟨wo, rfl⟩ : ∃ wo : World, wo = wr := ⟨_, rfl⟩
      go_loopw [9] (fun j wr => ∃ T1 T2 : List Pr, j = .int .i64 (a + T1.length : Nat) ∧ a + T1.length ≤ m ∧ Hid (T1 ++ T2 = ssort (A.take k) ∧ (∀ y ∈ T2, x.1 < y.1) ∧ Rw base 36 wr g cap (P ++ (T1 ++ (x :: T2 ++ (A.drop (k + 1) ++ S)))) ∧ W.grownBy wr (some g))) (fun j _ => (intOf j).toNat)
      case atStart =>
        refine ⟨ssort (A.take k), [], ?_, ?_, Lib.hid ⟨by simp, by simp, ?_, HR.out.2⟩⟩
        · rw [ssort_length, List.length_take_of_le (by omega), Hm.out]
        · rw [ssort_length, List.length_take_of_le (by omega), Hm.out]; omega
        · have := HR.out.1
          rw [List.drop_eq_getElem?_toList_append, HX.out] at this
          simpa using this
      case round =>
        obtain ⟨T1, T2, rfl, hT1, HI⟩ := hrel
        rcases List.eq_nil_or_concat T1 with h0 | ⟨T1', y, h0⟩
        · subst h0
          have hd : decide ((a : Int) < ((a + ([] : List Pr).length : Nat) : Int)) = false := by simp
          repeat' go_step
          go_quiet (fail)
          repeat' go_step
          obtain ⟨HE, H2, HRw, HG⟩ := HI.out
          have hmo := Hm.out
          refine ⟨⟨m + 1, k + 1, by omega, by omega, by go_num, Lib.hid (by omega), Lib.hid ⟨?_, HG.trans (grown_ext (below_drewN (Ext.refl _) _))⟩⟩, by simp [intOf]; omega⟩
          have e1 := ins_done HE.symm H2 (x := x) (by simp)
          rw [← take_snoc HX.out] at e1
          rw [← e1]
          simpa using HRw.drewN _
        · subst h0
          obtain ⟨HE, H2, HRw, HG⟩ := HI.out
          obtain ⟨j, hj⟩ : ∃ j, j = a + T1'.length := ⟨_, rfl⟩
          have hjj : a + (T1'.concat y).length = j + 1 := by subst hj; simp; omega
          rw [hjj] at hT1 ⊢
          obtain ⟨j1, hj1⟩ : ∃ j1, j1 = j + 1 := ⟨_, rfl⟩
          rw [← hj1] at hT1 ⊢
          have hL : P ++ (T1'.concat y ++ (x :: T2 ++ (A.drop (k + 1) ++ S))) = (P ++ T1') ++ (y :: x :: (T2 ++ (A.drop (k + 1) ++ S))) := by simp
          rw [hL] at HRw
          have hPT : (P ++ T1').length = j := by have := Ha.out; simp; omega
          have hy := HRw.get (i := j) (p := y) (by rw [List.getElem?_append_right (by omega), hPT]; simp)
          have hx := HRw.get (i := j1) (p := x) (by rw [List.getElem?_append_right (by omega), hPT, hj1]; simp)
          have HH : Hid (_ ∧ _ ∧ _ ∧ _ ∧ _ ∧ _ ∧ _ ∧ _) := Lib.hid ⟨HE, H2, HRw, HG, hj, hL, hPT, hj1⟩
          have hja : a ≤ j := by omega
          have hjn : j1 < n := by omega
          have hd : decide (a < j1) = true := by simp; omega
          obtain ⟨hy1, hy2⟩ := hy
          obtain ⟨hx1, hx2⟩ := hx
          have hi1 : (j1 : Int) < (n : Int) := by omega
          have hi2 : (j : Int) < (n : Int) := by omega
          have hs : IntKind.i64.wrap ((j1 : Int) - 1) = (j : Int) := by rw [hj1, show ((j + 1 : Nat) : Int) - 1 = (j : Int) by omega]; exact IntWalk.i64_in _ (by omega)
          clear HE H2 HRw HG hj hL hPT hjj HI hj1
          repeat' go_step
          go_still_tail 14, (by kernel_rfl)
          change wpList _ _ _ _ _ wr.drew
          repeat' (first | go_skip | go_guarded | go_step)
          refine (less_c _ x y).mono ?_
          rintro e w1 ⟨rfl, hb1⟩
          obtain ⟨HE, H2, HRw, HG, hj, hL, hPT, hj1⟩ := HH.out
          have HR1 := (HRw.drewN 1).ext hb1
          have HG1 : W.grownBy w1 (some g) := (HG.trans (grown_ext (below_drewN (Ext.refl wr) 1))).trans (grown_ext hb1)
          obtain ⟨hy1, hy2⟩ := HR1.get (i := j) (p := y) (by rw [List.getElem?_append_right (by omega), hPT]; simp)
          obtain ⟨hx1, hx2⟩ := HR1.get (i := j1) (p := x) (by rw [List.getElem?_append_right (by omega), hPT, hj1]; simp)
          have hfz := HR1.free
          have HH' : Hid (_ ∧ _) := Lib.hid ⟨HR1, HG1⟩
          have q1 : j1 ≠ j := by omega
          have q2 : j ≠ j1 := by omega
          have q3 : j1 * 2 + 1 ≠ j * 2 := by omega
          have q4 : j * 2 + 1 ≠ j1 * 2 := by omega
          have q5 : j1 * 2 ≠ j * 2 + 1 := by omega
          have q6 : j * 2 ≠ j1 * 2 + 1 := by omega
          clear HE H2 HRw HG hj hL hPT hj1 HR1 HG1
          by_cases hlt : x.1 < y.1
          · have hc : decide (cmpB x.1 y.1 < 0) = true := by simp [cmpB_neg, hlt]
            go_simp
            repeat' (first | go_skip | go_guarded | go_step)
            go_region
            repeat' (first | go_skip | go_guarded | go_step)
            obtain ⟨HE, H2, HRw, HG, hj, hL, hPT, hj1⟩ := HH.out
            obtain ⟨HR1, HG1⟩ := HH'.out
            refine ⟨?_, ?_⟩
            · refine ⟨T1', y :: T2, by rw [hj], by omega, Lib.hid ⟨?_, ?_, ?_, ?_⟩⟩
              · rw [← HE]; simp
              · intro z hz
                rcases List.mem_cons.1 hz with rfl | hz
                · exact hlt
                · exact H2 z hz
              · have := (HR1.swap j1 y j x).drew
                rw [set_two _ _ _ _ hPT hj1] at this
                simpa using this
              · exact (HG1.trans (grown_swap w1 g _ _ _ _ _ _ _ _)).trans (grown_ext (below_drewN (Ext.refl _) 1))
            · simp [intOf]; omega
          · have hc : decide (cmpB x.1 y.1 < 0) = false := by simp [cmpB_neg, hlt]
            go_simp
            repeat' (first | go_skip | go_guarded | go_step)
            obtain ⟨HE, H2, HRw, HG, hj, hL, hPT, hj1⟩ := HH.out
            obtain ⟨HR1, HG1⟩ := HH'.out
            have hmo := Hm.out
            refine ⟨⟨m + 1, k + 1, by omega, by omega, by go_num, Lib.hid (by omega), Lib.hid ⟨?_, HG1⟩⟩, by simp [intOf]; omega⟩
            have e1 := ins_done HE.symm H2 (x := x) (fun z hz => by
              have hS := ssort_srt (A.take k)
              rw [← HE, srt_append] at hS
              rw [List.concat_eq_append] at hS hz
              rcases List.mem_append.1 hz with hz | hz
              · exact nlt_trans ((srt_append.1 hS.1).2.2 z hz y (by simp)) hlt
              · simp at hz; subst hz; exact hlt)
            rw [← take_snoc HX.out] at e1
            rw [← e1]
            rw [← hL] at HR1
            simpa using HR1
    · have hd0 : decide (m < b) = false := by have := Hm.out; simp; omega
      repeat' go_step
      refine bodyPost_end (results_none rfl _ _ _) rfl ⟨rfl, ?_⟩
      have e : ssort (A.take k) = ssort A ∧ A.drop k = [] := by
        have := Ha.out; have := Hb.out
        have : A.length ≤ k := by omega
        rw [List.take_of_length_le this, List.drop_eq_nil_of_le this]; exact ⟨rfl, rfl⟩
      have := HR.out
      rw [e.1, e.2] at this
      exact this
end Go.Proofs.Ytclcgelbcbnekaa.Pch/- Contracts: the stable sort of pairs. -/
namespace Go.Proofs.Ytclcgelbcbnekaa.Pch
open Go.RowKit Go.QS
set_option linter.unusedVariables false

theorem ins_c (base : Nat) (W : World) (g cap n a b : Nat) (l : List Pr) (hR : Rw base 36 W g cap l) (hn : n = l.length) (hab : a ≤ b) (hb : b ≤ n) (h9 : n ≤ 1000000000) :
    Calls Try.prog 169 #[.slice (some ⟨g, 0, none⟩) n cap, .int .i64 a, .int .i64 b, cmpV] W fun e w' => e = .returned (.tuple #[]) ∧ Rw base 36 w' g cap (upd l a b) ∧ W.grownBy w' (some g) :=
  insertion_c base W g cap n a b (l.take a) ((l.drop a).take (b - a)) (l.drop b) (by rw [← cut3 l hab]; exact hR) (by rw [← cut3 l hab]; exact hn) (by rw [List.length_take_of_le (by omega)])
    (by rw [List.length_take_of_le (by omega), List.length_take_of_le (by rw [List.length_drop]; omega)]; omega) h9

theorem mrg_c (base : Nat) (W : World) (g cap n a m b : Nat) (l : List Pr) (hR : Rw base 36 W g cap l) (hn : n = l.length) (ham : a < m) (hmb : m < b) (hb : b ≤ n) (h1 : Srt ((l.drop a).take (m - a))) (h2 : Srt ((l.drop m).take (b - m))) (h9 : n ≤ 1000000000) :
    Calls Try.prog 170 #[.slice (some ⟨g, 0, none⟩) n cap, .int .i64 a, .int .i64 m, .int .i64 b, cmpV] W fun e w' => e = .returned (.tuple #[]) ∧ Rw base 36 w' g cap (upd l a b) ∧ W.grownBy w' (some g) := by
  have e : (l.drop a).take (b - a) = (l.drop a).take (m - a) ++ (l.drop m).take (b - m) := by
    have : l.drop m = (l.drop a).drop (m - a) := by rw [List.drop_drop]; congr 1; omega
    rw [this, ← List.take_add]; congr 1; omega
  have e2 := cut3 l (show a ≤ b by omega)
  rw [e, List.append_assoc] at e2
  have l1 : ((l.drop a).take (m - a)).length = m - a := List.length_take_of_le (by rw [List.length_drop]; omega)
  have l2 : ((l.drop m).take (b - m)).length = b - m := List.length_take_of_le (by rw [List.length_drop]; omega)
  have l0 : (l.take a).length = a := List.length_take_of_le (by omega)
  have := sym_c _ base W g cap n a m b (l.take a) ((l.drop a).take (m - a)) ((l.drop m).take (b - m)) (l.drop b) (Nat.le_refl _) (by rw [← e2]; exact hR) (by rw [← e2]; exact hn) l0.symm (by omega) (by omega) (by omega) (by omega) h1 h2 h9
  unfold upd
  rw [e]
  exact this

set_option maxRecDepth 100000 in
set_option maxHeartbeats 400000 in
theorem stable_c (base : Nat) (W : World) (g cap n : Nat) (l : List Pr) (hR : Rw base 36 W g cap l) (hn : n = l.length) (h9 : n ≤ 1000000000) :
    Calls Try.prog 147 #[.slice (some ⟨g, 0, none⟩) n cap, .int .i64 n, cmpV] W fun e w' => e = .returned (.tuple #[]) ∧ Rw base 36 w' g cap (ssort l) ∧ W.grownBy w' (some g) := by
  have HA : Hid (_ ∧ _) := Lib.hid ⟨hR, hn⟩
  clear hR hn
  go_enter Try.func147, Try.ntmps147
  repeat' go_step
  go_loopg [7, 8] n (fun gk va vb wr => ∃ a b : Nat, va = .int .i64 a ∧ vb = .int .i64 b ∧ b = a + 20 ∧ a ≤ n ∧ n - a ≤ gk ∧ Hid (∃ t l', a = t * 20 ∧ Rw base 36 wr g cap l' ∧ W.grownBy wr (some g) ∧ n = l'.length ∧ Stb l l' ∧ Firsts t l'))
  case atStart =>
    obtain ⟨hR, hn⟩ := HA.out
    exact ⟨0, 20, rfl, rfl, rfl, Nat.zero_le _, by omega, Lib.hid ⟨0, l, rfl, hR, World.grownBy.refl _ _, hn, Stb.refl _, fun c hc => by omega⟩⟩
  case round =>
    obtain ⟨a, b, rfl, rfl, hab, han, hgk, HR⟩ := hrel
    obtain ⟨t, l', ht, hRw, hG, hl, hst, hF⟩ := HR.out
    have HB := Lib.hid hab
    have HK : Hid (_ ∧ _ ∧ _ ∧ _ ∧ _ ∧ _) := Lib.hid ⟨ht, hRw, hG, hl, hst, hF⟩
    by_cases hle : b ≤ n
    · have d1 : decide (b ≤ n) = true := by simp [hle]
      have HC := Lib.hid (ins_c base wr g cap n a b l' hRw hl (by omega) hle h9)
      have hba : a + 20 ≤ b := by omega
      clear ht hRw hG hl hst hF hab
      repeat' (first | (go_at_call 169; refine HC.out.mono ?_; rintro e w1 ⟨rfl, H1⟩; replace H1 := Lib.hid H1; go_simp) | go_step)
      go_roundg (n - b)
      case measure => omega
      case rel =>
        obtain ⟨ht, hRw, hG, hl, hst, hF⟩ := HK.out
        exact ⟨b, b + 20, rfl, by go_num, rfl, hle, Nat.le_refl _, Lib.hid ⟨t + 1, upd l' a b, by have := HB.out; omega, H1.out.1, hG.trans H1.out.2, by rw [upd_length (by omega) (by omega)]; exact hl, hst.trans (upd_stb (by omega)), hF.step ht HB.out (by omega)⟩⟩
    · have d1 : decide (b ≤ n) = false := by simp; omega
      have HC := Lib.hid (ins_c base wr g cap n a n l' hRw hl han (Nat.le_refl _) h9)
      obtain ⟨l2, hl2⟩ : ∃ l2, l2 = upd l' a n := ⟨_, rfl⟩
      have hCh : Chunks 20 l2 := by rw [hl2, hl]; exact hF.finish ht (by omega) (by omega)
      have hS2 : Stb l l2 := by rw [hl2]; exact hst.trans (upd_stb (by omega))
      have hL2 : n = l2.length := by rw [hl2, upd_length (by omega) (by omega)]; exact hl
      have HD : Hid (_ ∧ _ ∧ _ ∧ _ ∧ _) := Lib.hid ⟨hCh, hS2, hL2, hl2, hG⟩
      clear ht hRw hG hl hst hF hab hCh hS2 hL2 hl2
      repeat' (first | (go_at_call 169; refine HC.out.mono ?_; rintro e w1 ⟨rfl, H1⟩; replace H1 := Lib.hid H1; go_simp) | go_step)
      go_loopg [6] n (fun gk vs wr => ∃ bs : Nat, vs = .int .i64 bs ∧ 0 < bs ∧ bs ≤ 2000000000 ∧ n - bs ≤ gk ∧ Hid (∃ l', Rw base 36 wr g cap l' ∧ W.grownBy wr (some g) ∧ n = l'.length ∧ Stb l l' ∧ Chunks bs l'))
      case atStart =>
        obtain ⟨hCh, hS2, hL2, hl2, hG⟩ := HD.out
        exact ⟨20, rfl, by omega, by omega, by omega, Lib.hid ⟨l2, by rw [hl2]; exact H1.out.1, hG.trans H1.out.2, hL2, hS2, hCh⟩⟩
      case round =>
        obtain ⟨bs, rfl, hb0, hb9, hgk2, HR2⟩ := hrel
        obtain ⟨l3, hR3, hG3, hl3, hs3, hC3⟩ := HR2.out
        by_cases hlt : bs < n
        · have d2 : decide (bs < n) = true := by simp [hlt]
          have HK3 : Hid (_ ∧ _ ∧ _ ∧ _ ∧ _) := Lib.hid ⟨hR3, hG3, hl3, hs3, hC3⟩
          obtain ⟨b2, hb2⟩ : ∃ b2, b2 = 2 * bs := ⟨_, rfl⟩
          have hm1 : 2 * (bs : Int) = (b2 : Int) := by omega
          have hm2 : (bs : Int) * 2 = (b2 : Int) := by omega
          have HB2 := Lib.hid hb2
          have hb2a : b2 ≤ 2000000000 := by omega
          have hb2b : bs < b2 := by omega
          clear hR3 hG3 hl3 hs3 hC3 hb2
          repeat' go_step
          obtain ⟨wo, rfl⟩ : ∃ wo : World, wo = wr := ⟨_, rfl⟩
          go_loopg [7, 8] n (fun gk va vb wr => ∃ a b : Nat, va = .int .i64 a ∧ vb = .int .i64 b ∧ b = a + b2 ∧ a ≤ n ∧ n - a ≤ gk ∧ Hid (∃ t l', a = t * (2 * bs) ∧ Rw base 36 wr g cap l' ∧ W.grownBy wr (some g) ∧ n = l'.length ∧ Stb l l' ∧ Merged bs t l'))
          case atStart =>
            obtain ⟨hR3, hG3, hl3, hs3, hC3⟩ := HK3.out
            exact ⟨0, b2, rfl, rfl, by omega, Nat.zero_le _, by omega, Lib.hid ⟨0, l3, by simp, hR3, hG3, hl3, hs3, Merged.zero hC3⟩⟩
          case round =>
            obtain ⟨a, b, rfl, rfl, hab, han, hgk, HR⟩ := hrel
            obtain ⟨wo', rfl⟩ : ∃ wo' : World, wo' = wr := ⟨_, rfl⟩
            obtain ⟨t, l', ht, hRw, hG, hl, hst, hM⟩ := HR.out
            have HB := Lib.hid hab
            have HK : Hid (_ ∧ _ ∧ _ ∧ _ ∧ _ ∧ _) := Lib.hid ⟨ht, hRw, hG, hl, hst, hM⟩
            obtain ⟨m, hm⟩ : ∃ m, m = a + bs := ⟨_, rfl⟩
            have hm3 : (a : Int) + (bs : Int) = (m : Int) := by omega
            have hm4 : (b : Int) + (b2 : Int) = ((b + b2 : Nat) : Int) := by omega
            have hL := hM.left ht
            by_cases hle : b ≤ n
            · have d3 : decide (b ≤ n) = true := by simp [hle]
              have HC := Lib.hid (mrg_c base wo' g cap n a m b l' hRw hl (by omega) (by have := HB2.out; omega) hle (by rw [hm, show a + bs - a = bs by omega]; exact hL.1) (by rw [hm, show b - (a + bs) = bs by have := HB2.out; omega]; exact hL.2) h9)
              have hba : a + 2 ≤ b := by omega
              have HM4 := Lib.hid hm4
              clear ht hRw hG hl hst hM hab hm hm4 hL
              repeat' (first | (go_at_call 170; refine HC.out.mono ?_; rintro e w2 ⟨rfl, H2⟩; replace H2 := Lib.hid H2; go_simp) | go_step)
              go_roundg (n - b)
              case measure => omega
              case rel =>
                obtain ⟨ht, hRw, hG, hl, hst, hM⟩ := HK.out
                exact ⟨b, b + b2, rfl, by rw [← HM4.out], rfl, hle, Nat.le_refl _, Lib.hid ⟨t + 1, upd l' a b, by have := HB.out; have := HB2.out; rw [Nat.succ_mul]; omega, H2.out.1, hG.trans H2.out.2, by rw [upd_length (by omega) (by omega)]; exact hl, hst.trans (upd_stb (by omega)), hM.step ht (by have := HB.out; have := HB2.out; omega) (by omega)⟩⟩
            · have d3 : decide (b ≤ n) = false := by simp; omega
              by_cases hmn : m < n
              · have d4 : decide (m < n) = true := by simp [hmn]
                have HC := Lib.hid (mrg_c base wo' g cap n a m n l' hRw hl (by omega) hmn (Nat.le_refl _) (by rw [hm, show a + bs - a = bs by omega]; exact hL.1)
                  (by have := HB2.out; rw [hm]; rw [List.take_of_length_le (by rw [List.length_drop]; omega)]; have h2 := hL.2; rw [List.take_of_length_le (by rw [List.length_drop]; omega)] at h2; exact h2) h9)
                have HF := Lib.hid (show Chunks (2 * bs) (upd l' a n) by rw [hl]; exact hM.finish ht (by omega) (by have := HB2.out; omega))
                clear ht hRw hG hl hst hM hab hm hm4 hL
                repeat' (first | (go_at_call 170; refine HC.out.mono ?_; rintro e w2 ⟨rfl, H2⟩; replace H2 := Lib.hid H2; go_simp) | go_step)
                go_roundg (n - b2)
                case measure => omega
                case rel =>
                  obtain ⟨ht, hRw, hG, hl, hst, hM⟩ := HK.out
                  exact ⟨b2, rfl, by omega, by omega, Nat.le_refl _, Lib.hid ⟨upd l' a n, H2.out.1, hG.trans H2.out.2, by rw [upd_length (by omega) (by omega)]; exact hl, hst.trans (upd_stb (by omega)), by rw [HB2.out]; exact HF.out⟩⟩
              · have d4 : decide (m < n) = false := by simp; omega
                have HF := Lib.hid (show Chunks (2 * bs) l' from hM.finish' ht (by omega))
                clear ht hRw hG hl hst hM hab hm hm4 hL
                repeat' go_step
                go_roundg (n - b2)
                case measure => omega
                case rel =>
                  obtain ⟨ht, hRw, hG, hl, hst, hM⟩ := HK.out
                  exact ⟨b2, rfl, by omega, by omega, Nat.le_refl _, Lib.hid ⟨l', hRw, hG, hl, hst, by rw [HB2.out]; exact HF.out⟩⟩
        · have d2 : decide (bs < n) = false := by simp; omega
          have HZ := Lib.hid (hC3.done (l0 := l) (by omega) hs3)
          clear hR3 hG3 hl3 hs3 hC3
          repeat' go_step
          obtain ⟨l3', hR3, hG3, hl3, hs3, hC3⟩ := HR2.out
          refine bodyPost_end (results_none rfl _ _ _) rfl ⟨rfl, ?_, hG3⟩
          rw [← hC3.done (l0 := l) (by omega) hs3]
          exact hR3
end Go.Proofs.Ytclcgelbcbnekaa.Pch/- Contracts: a clone, and the sorted list. -/
namespace Go.Proofs.Ytclcgelbcbnekaa.Pch
open Go.RowKit Go.QS
set_option linter.unusedVariables false

set_option maxRecDepth 100000 in
theorem clone_c (w : World) (v : Value) (l : List Pr) (h : PS w v l) (h9 : l.length ≤ 1000000000) :
    Calls Try.prog 87 #[v] w fun e w' => ∃ v', e = .returned v' ∧ w'.ownsRow w.heap.size 36 2 v' l.length (flat l) ∧ Ext w w' := by
  obtain ⟨A, c, rfl, hl, hn, hc, hs⟩ := h
  have hnil := fun w : World => Lib.run_eql_slice_nil (P := Try.prog) w 22 36 A l.length c 0 0 Try.underlying22
  cases A with
  | none =>
    have hl0 : l = [] := by
      cases l with
      | nil => rfl
      | cons p l => obtain ⟨b, o, h, _⟩ := hs (by simp [flat_cons]); cases h
    subst hl0
    have hnil := fun w : World => Lib.run_eql_slice_nil (P := Try.prog) w 22 36 none 0 c 0 0 Try.underlying22
    go_enter Try.func87, Try.ntmps87
    repeat' go_step
    go_ret
    exact ⟨_, rfl, World.ownsRow_nil _ _ _ _, Ext.refl _⟩
  | some a =>
    go_enter Try.func87, Try.ntmps87
    repeat' (first | (at_builtin; refine wpList_appE (W := w) rfl (.tmp 5) (.tmp 6) _ rfl 36 2 32 Try.underlying22 infoP (by decide) _ 0 [] rfl (own_lit [] 0 (by decide) rfl (Nat.le_refl _)) ((Ext.refl w).alloc (Nat.le_refl _) _) _ _ c (flat l) rfl hl (hs.alloc _) (flat_one _) (by unfold maxLen; omega) (by omega) ?_; intro v1 w1 hown hb) | go_step)
    go_ret
    refine ⟨_, rfl, ?_, hb⟩
    simpa using hown

set_option maxRecDepth 100000 in
theorem ins_nil (W : World) (v : Value) : Calls Try.prog 169 #[v, .int .i64 0, .int .i64 0, cmpV] W fun e w' => e = .returned (.tuple #[]) ∧ W = w' := by
  go_enter Try.func169, Try.ntmps169
  repeat' go_step
  refine wp_loop_once ?_
  repeat' go_step
  exact bodyPost_end (results_none rfl _ _ _) rfl ⟨rfl, rfl⟩

set_option maxRecDepth 100000 in
theorem stable_nil (W : World) (v : Value) : Calls Try.prog 147 #[v, .int .i64 0, cmpV] W fun e w' => e = .returned (.tuple #[]) ∧ W = w' := by
  go_enter Try.func147, Try.ntmps147
  repeat' go_step
  refine wp_loop_once ?_
  repeat' (first | (go_at_call 169; refine (ins_nil _ _).mono ?_; rintro e w' ⟨rfl, rfl⟩; go_simp) | go_step)
  refine wp_loop_once ?_
  repeat' go_step
  exact bodyPost_end (results_none rfl _ _ _) rfl ⟨rfl, rfl⟩

/-- A row that the call owns, empty or not. -/
theorem own_cases {base : Nat} {e : TypeId} {w : World} {v : Value} {l : List Pr} (h : w.ownsRow base e 2 v l.length (flat l)) : (l = [] ∧ (v = .slice none 0 0 ∨ ∃ g cap, v = .slice (some ⟨g, 0, none⟩) 0 cap ∧ Rw base e w g cap [])) ∨ ∃ g cap, v = .slice (some ⟨g, 0, none⟩) l.length cap ∧ 0 < l.length ∧ Rw base e w g cap l := by
  rcases h.2 with ⟨rfl, h0⟩ | ⟨g, cap, cur, rfl, r⟩
  · exact .inl ⟨List.eq_nil_of_length_eq_zero h0, .inl rfl⟩
  · cases l with
    | nil => exact .inl ⟨rfl, .inr ⟨g, cap, rfl, h⟩⟩
    | cons p l => exact .inr ⟨g, cap, rfl, by simp, h⟩

set_option maxRecDepth 100000 in
theorem sortfn_c (base : Nat) (w : World) (v : Value) (l : List Pr) (h : w.ownsRow base 36 2 v l.length (flat l)) (h9 : l.length ≤ 1000000000) :
    Calls Try.prog 104 #[v, cmpV] w fun e w' => e = .returned (.tuple #[]) ∧ w'.ownsRow base 36 2 v l.length (flat (ssort l)) ∧ w.grownBy w' v.ownBlock := by
  rcases own_cases h with ⟨rfl, h1⟩ | ⟨g, cap, rfl, h1, hR⟩
  · have hv : ∃ A c, v = .slice A 0 c := by
      rcases h1 with rfl | ⟨g, cap, rfl, _⟩
      · exact ⟨_, _, rfl⟩
      · exact ⟨_, _, rfl⟩
    obtain ⟨A, c, rfl⟩ := hv
    clear h1
    go_enter Try.func104, Try.ntmps104
    repeat' (first | (go_at_call 147; refine (stable_nil _ _).mono ?_; rintro e w' ⟨rfl, rfl⟩; go_simp) | go_step)
    refine bodyPost_end (results_none rfl _ _ _) rfl ⟨rfl, ?_, World.grownBy.refl _ _⟩
    rw [ssort_nil]; exact h
  · have HC := Lib.hid (stable_c base w g cap l.length l hR rfl h9)
    clear h hR
    go_enter Try.func104, Try.ntmps104
    repeat' (first | (go_at_call 147; refine HC.out.mono ?_; rintro e w1 ⟨rfl, H1⟩; replace H1 := Lib.hid H1; go_simp) | go_step)
    refine bodyPost_end (results_none rfl _ _ _) rfl ⟨rfl, ?_, H1.out.2⟩
    have := H1.out.1
    unfold Rw at this
    rwa [ssort_length] at this
end Go.Proofs.Ytclcgelbcbnekaa.Pch/- Contract: the sorted list. -/
namespace Go.Proofs.Ytclcgelbcbnekaa.Pch
open Go.RowKit Go.QS
set_option linter.unusedVariables false

theorem keep_facts {L L' : List Pr} {k m n : Nat} {x : Pr} (hl : L'.length = n) (hd : L'.drop k = L.drop k) (hm : m ≤ k) (hk : k < n) : (L'.set m x).length = n ∧ (L'.set m x).drop (k + 1) = L.drop (k + 1) ∧ (L'.set m x).take (m + 1) = L'.take m ++ [x] := by
  refine ⟨by simpa using hl, ?_, ?_⟩
  · rw [List.drop_set_of_lt (by omega)]
    have := congrArg (List.drop 1) hd
    rwa [List.drop_drop, List.drop_drop] at this
  · rw [List.take_succ_eq_append_getElem (by rw [List.length_set]; omega)]
    simp [List.take_set_of_le]

theorem drop_next {L L' : List Pr} {k : Nat} (hd : L'.drop k = L.drop k) : L'.drop (k + 1) = L.drop (k + 1) := by
  have := congrArg (List.drop 1) hd
  rwa [List.drop_drop, List.drop_drop] at this
theorem get_of_drop {L L' : List Pr} {k j : Nat} (hd : L'.drop k = L.drop k) (hj : k ≤ j) : L'[j]? = L[j]? := by
  have := congrArg (·[j - k]?) hd
  simp only [List.getElem?_drop] at this
  rwa [show k + (j - k) = j by omega] at this

theorem own_prefix {base : Nat} {e : TypeId} {w : World} {g cap m : Nat} {L : List Pr} (h : Rw base e w g cap L) (hm : m ≤ L.length) : w.ownsRow base e 2 (.slice (some ⟨g, 0, none⟩) m cap) m (flat (L.take m)) := by
  refine ⟨by rw [flat_length, List.length_take_of_le hm], ?_⟩
  rcases h.2 with ⟨h', _⟩ | ⟨g', cap', cur, h', hb, hg, h3, h4, h5, h6⟩
  · cases h'
  · cases h'
    refine .inr ⟨g, cap, cur, rfl, hb, hg, by omega, h4, h5, ?_⟩
    rw [flat_take, ← h6, List.take_take]
    congr 1; omega

set_option maxRecDepth 100000 in
set_option maxHeartbeats 400000 in
theorem sorted_c (w : World) (v : Value) (l : List Pr) (h : PS w v l) (h9 : l.length ≤ 1000000000) :
    Calls Try.prog 57 #[v] w fun e w' => ∃ v', e = .returned v' ∧ w'.ownsRow w.heap.size 36 2 v' (sortedP l).length (flat (sortedP l)) ∧ Ext w w' := by
  have HC := Lib.hid (clone_c w v l h h9)
  clear h
  go_enter Try.func57, Try.ntmps57
  repeat' go_step
  refine HC.out.mono ?_
  rintro e w1 ⟨v1, rfl, hown, hb⟩
  replace hown := Lib.hid hown
  go_simp
  repeat' go_step
  refine (sortfn_c w.heap.size w1 v1 l hown.out h9).mono ?_
  rintro e w2 ⟨rfl, hown2, hg2⟩
  have hb2 : Ext w w2 := hb.grown hg2 hb.size (fun k hk => (hown.out.lt k hk).1)
  obtain ⟨L, hL⟩ : ∃ L, L = ssort l := ⟨_, rfl⟩
  have hLl : L.length = l.length := by rw [hL, ssort_length]
  rw [← hL, ← hLl] at hown2
  have HE : Hid (_ ∧ _) := Lib.hid ⟨hL, hLl⟩
  have hL9 : L.length ≤ 1000000000 := by omega
  clear hL hLl hg2 hown
  rcases own_cases hown2 with ⟨rfl, h1⟩ | ⟨g, cap, rfl, h1, hR⟩
  · have hv : ∃ A c, v1 = .slice A 0 c := by
      rcases h1 with rfl | ⟨g, cap, rfl, _⟩
      · exact ⟨_, _, rfl⟩
      · exact ⟨_, _, rfl⟩
    obtain ⟨A, c, rfl⟩ := hv
    replace hown2 := Lib.hid hown2
    clear h1
    go_simp
    repeat' go_step
    refine wp_loop_once ?_
    repeat' go_step
    go_ret
    have e : sortedP l = [] := by unfold sortedP; rw [← HE.out.1]; rfl
    rw [e]
    exact ⟨_, rfl, by simpa using hown2.out, hb2⟩
  · have HR := Lib.hid hR
    clear hown2 hR
    obtain ⟨n, hn⟩ : ∃ n, n = L.length := ⟨_, rfl⟩
    rw [← hn] at h1 hL9 ⊢
    have Hn := Lib.hid hn
    clear hn
    go_simp
    repeat' go_step
    go_loopg [4, 13] n (fun gk vm vk wr => ∃ m k : Nat, vm = .int .i64 m ∧ vk = .int .i64 k ∧ m ≤ k ∧ k ≤ n ∧ n - k ≤ gk ∧ Below w.heap.size w wr ∧ Hid (∃ L', Rw w.heap.size 36 wr g cap L' ∧ L'.length = n ∧ L'.drop k = L.drop k ∧ L'.take m ++ lastOf (L.drop k) = lastOf L))
    case atStart => exact ⟨0, 0, rfl, rfl, Nat.le_refl _, Nat.zero_le _, Nat.le_refl _, hb2, Lib.hid ⟨L, HR.out, Hn.out.symm, rfl, by simp⟩⟩
    case round =>
      obtain ⟨m, k, rfl, rfl, hmk, hkn, hgk, hB, HI⟩ := hrel
      obtain ⟨L', hR', hl', hd', hT'⟩ := HI.out
      by_cases hlt : k < n
      · have d1 : decide (k < n) = true := by simp [hlt]
        obtain ⟨x, hx⟩ := get_of_lt L (show k < L.length by have := Hn.out; omega)
        obtain ⟨hx1, hx2⟩ := hR'.get ((get_of_drop hd' (Nat.le_refl _)).trans hx)
        have hgl := hR'.lt
        have hgb := hR'.base_le
        have hdx := drop_cons hx
        obtain ⟨u, hu⟩ := get_of_lt L' (show m < L'.length by omega)
        obtain ⟨hu1, hu2⟩ := hR'.get hu
        have hfz := hR'.free
        obtain ⟨k1, hk1⟩ : ∃ k1, k1 = k + 1 := ⟨_, rfl⟩
        have hs1 : IntKind.i64.wrap ((k : Int) + 1) = (k1 : Int) := by rw [show (k : Int) + 1 = (k1 : Int) by omega]; exact IntWalk.i64_in _ (by omega)
        have hi1 : (k : Int) < (n : Int) := by omega
        have hi2 : (m : Int) < (n : Int) := by omega
        have HK1 := Lib.hid hk1
        have hkk : k < k1 := by omega
        by_cases hlt2 : k1 < n
        · have d2 : decide (k1 < n) = true := by simp [hlt2]
          obtain ⟨y, hy⟩ := get_of_lt L (show k1 < L.length by have := Hn.out; omega)
          obtain ⟨hy1, hy2⟩ := hR'.get ((get_of_drop hd' (show k ≤ k1 by omega)).trans hy)
          have hi3 : (k1 : Int) < (n : Int) := by omega
          have hdy := drop_cons hy
          rw [hk1] at hdy
          by_cases hxy : x.1 = y.1
          · have hq : (y.1 == x.1) = true := by simp [hxy]
            have HX : Hid (lastOf (L.drop k) = lastOf (L.drop (k + 1))) := Lib.hid (by rw [hdx, hdy, lastOf_skip hxy])
            clear hR' hl' hd' hT' hx hy hdx hdy hxy hu hk1 hu1 hu2
            repeat' go_step
            go_quiet (fail)
            repeat' go_step
            obtain ⟨L', hR', hl', hd', hT'⟩ := HI.out
            go_roundg (n - (k + 1))
            case measure => omega
            case rel => exact ⟨m, k + 1, rfl, by rw [HK1.out], by omega, by omega, by omega, below_drewN (hB.alloc hB.size _) _, Lib.hid ⟨L', (hR'.ext ((Ext.refl _).alloc (Nat.le_refl _) _)).drewN _, hl', drop_next hd', by rw [← HX.out]; exact hT'⟩⟩
          · have hq : (y.1 == x.1) = false := by simp; exact fun e => hxy e.symm
            have HX : Hid (lastOf (L.drop k) = x :: lastOf (L.drop (k + 1))) := Lib.hid (by rw [hdx, hdy, lastOf_keep hxy])
            clear hR' hl' hd' hT' hx hy hdx hdy hxy hu hk1
            repeat' go_step
            go_quiet (fail)
            repeat' go_step
            obtain ⟨L', hR', hl', hd', hT'⟩ := HI.out
            have hK := keep_facts (x := x) hl' hd' hmk hlt
            go_roundg (n - (k + 1))
            case measure => omega
            case rel =>
              refine ⟨m + 1, k + 1, by go_num, by rw [HK1.out], by omega, by omega, by omega, ?_, Lib.hid ⟨L'.set m x, ?_, hK.1, hK.2.1, by rw [hK.2.2, List.append_assoc, List.singleton_append, ← HX.out]; exact hT'⟩⟩
              · exact ((below_drewN (hB.alloc hB.size _) _).setCell hgb _).setCell hgb _
              · exact ((hR'.ext ((Ext.refl _).alloc (Nat.le_refl _) _)).drewN _).set m x
        · have d2 : decide (k1 < n) = false := by simp; omega
          have HX : Hid (lastOf (L.drop k) = x :: lastOf (L.drop (k + 1))) := Lib.hid (by rw [hdx, List.drop_eq_nil_of_le (show L.length ≤ k + 1 by have := Hn.out; omega)]; rfl)
          clear hR' hl' hd' hT' hx hdx hu hk1
          repeat' go_step
          go_quiet (fail)
          repeat' go_step
          obtain ⟨L', hR', hl', hd', hT'⟩ := HI.out
          have hK := keep_facts (x := x) hl' hd' hmk hlt
          go_roundg (n - (k + 1))
          case measure => omega
          case rel =>
            refine ⟨m + 1, k + 1, by go_num, by rw [HK1.out], by omega, by omega, by omega, ?_, Lib.hid ⟨L'.set m x, ?_, hK.1, hK.2.1, by rw [hK.2.2, List.append_assoc, List.singleton_append, ← HX.out]; exact hT'⟩⟩
            · exact ((below_drewN (hB.alloc hB.size _) _).setCell hgb _).setCell hgb _
            · exact ((hR'.ext ((Ext.refl _).alloc (Nat.le_refl _) _)).drewN _).set m x
      · have d1 : decide (k < n) = false := by simp; omega
        have e : L'.take m = sortedP l := by
          have e1 : lastOf (L.drop k) = [] := by rw [List.drop_eq_nil_of_le (by have := Hn.out; omega)]; rfl
          rw [e1, List.append_nil] at hT'
          rw [hT', HE.out.1]; rfl
        have hm2 : (L'.take m).length = m := List.length_take_of_le (by omega)
        have hcap : m ≤ cap ∧ n ≤ cap := by
          rcases hR'.2 with ⟨h, _⟩ | ⟨g', cap', cur, h, _, _, h3, _⟩
          · cases h
          · cases h; omega
        obtain ⟨hcap1, hcap2⟩ := hcap
        have HF : Hid (_ ∧ _ ∧ _ ∧ _) := Lib.hid ⟨e, hm2, hR', hl'⟩
        clear hR' hl' hd' hT' e hm2
        repeat' go_step
        go_ret
        obtain ⟨e, hm2, hR', hl'⟩ := HF.out
        refine ⟨_, rfl, ?_, hB⟩
        rw [← e, hm2]
        exact own_prefix hR' (by omega)
end Go.Proofs.Ytclcgelbcbnekaa.Pch/- ChampCollides: a pair more, in the trie and in the row: a law of its own; its first loop. -/
namespace Go.Proofs.Ytclcgelbcbnekaa
open Go Go.RowKit Go.QS Go.QS.Nk
set_option linter.unusedVariables false
variable [Zero (Nat → Prop)]
set_option linter.unusedSectionVars false

set_option maxRecDepth 100000 in
set_option maxHeartbeats 2000000 in
theorem coll_10 (W wr : World) (gh g gp : Nat) (h : Hs) (hk : h.Ok) (v7 : Value) (Y L : List Pr) (p : Pr) (H : Hid (PrAt wr gp p ∧ T6V v7 wr gh h g Y ∧ gh < W.heap.size ∧ Ext W wr ∧ wr.ownsRow W.heap.size 36 2 v7 L.length (flat L))) (hL : L.length ≤ 1000) (hY : Y.length ≤ 1000) (c d : Code) (K : Act → World → Prop) (Q : Exit → Act → World → Prop) (t0 t1 t2 t3 t4 t8 t10 t11 t12 t13 t14 t15 t16 t17 t18 t19 t20 t21 t22 t23 t24 t25 t26 t27 t28 t29 t30 t31 t32 t33 t34 t35 t36 t37 t38 t39 t40 t41 t42 t43 t44 t45 t46 t47 t48 t49 t50 t51 t52 t53 t54 t55 t56 t57 t58 t59 t60 t61 t62 t63 t64 t65 t66 t67 t68 t69 t70 t71 t72 t73 t74 t75 t76 t77 t78 t79 t80 : Value)
    (hc : (Try.f11.body.bind (findR 10)) = some c) (hd : (Try.f11.body.bind (findS 11)) = some d)
    (hK : ∀ a w, d.wp Try.prog Q a w → K a w)
    (hQ : ∀ (g2 : Nat) (v2 : Value) (u24 u25 u26 u27 u28 u29 u30 u31 u32 u33 u34 u35 u36 : Value) (wx : World), Ext W wx ∧ T6V v2 wx gh h g2 (rput Y (cutP p)) ∧ wx.ownsRow W.heap.size 36 2 v2 (L ++ [cutP p]).length (flat (L ++ [cutP p])) → Q .normal { tmps := List.toArray (t0 :: t1 :: t2 :: t3 :: t4 :: (ptr gh) :: (ptr g2) :: v2 :: t8 :: (ptr gp) :: t10 :: t11 :: t12 :: t13 :: t14 :: t15 :: t16 :: t17 :: t18 :: t19 :: t20 :: t21 :: t22 :: t23 :: u24 :: u25 :: u26 :: u27 :: u28 :: u29 :: u30 :: u31 :: u32 :: u33 :: u34 :: u35 :: u36 :: t37 :: t38 :: t39 :: t40 :: t41 :: t42 :: t43 :: t44 :: t45 :: t46 :: t47 :: t48 :: t49 :: t50 :: t51 :: t52 :: t53 :: t54 :: t55 :: t56 :: t57 :: t58 :: t59 :: t60 :: t61 :: t62 :: t63 :: t64 :: t65 :: t66 :: t67 :: t68 :: t69 :: t70 :: t71 :: t72 :: t73 :: t74 :: t75 :: t76 :: t77 :: t78 :: t79 :: t80 :: []), defers := [] } wx) :
    c.wp Try.prog (Exit.then K Q) { tmps := List.toArray (t0 :: t1 :: t2 :: t3 :: t4 :: (ptr gh) :: (ptr g) :: v7 :: t8 :: (ptr gp) :: t10 :: t11 :: t12 :: t13 :: t14 :: t15 :: t16 :: t17 :: t18 :: t19 :: t20 :: t21 :: t22 :: t23 :: t24 :: t25 :: t26 :: t27 :: t28 :: t29 :: t30 :: t31 :: t32 :: t33 :: t34 :: t35 :: t36 :: t37 :: t38 :: t39 :: t40 :: t41 :: t42 :: t43 :: t44 :: t45 :: t46 :: t47 :: t48 :: t49 :: t50 :: t51 :: t52 :: t53 :: t54 :: t55 :: t56 :: t57 :: t58 :: t59 :: t60 :: t61 :: t62 :: t63 :: t64 :: t65 :: t66 :: t67 :: t68 :: t69 :: t70 :: t71 :: t72 :: t73 :: t74 :: t75 :: t76 :: t77 :: t78 :: t79 :: t80 :: []), defers := [] } wr := by
  change some _ = some c at hc
  cases hc
  change some _ = some d at hd
  cases hd
  have HQF := Lib.hid hQ
  clear hQ
  obtain ⟨q, hq⟩ : ∃ q, q = cutP p := ⟨_, rfl⟩
  have hql : q.1.length ≤ 40 ∧ q.2.length ≤ 40 := by rw [hq]; exact cutP_short _
  have HF : Hid (∀ W, Calls Try.prog 47 #[prV p] W fun e w' => e = .returned (prV q) ∧ Ext W w') := Lib.hid (fun W => by rw [hq]; exact fewp_c W p)
  have HQ := Lib.hid hq
  clear hq
  have HT := Lib.hid H.out.2.1
  have HB := Lib.hid H.out.1
  obtain ⟨c0, c1⟩ := HB.out.cells
  obtain ⟨e0, e1, e2⟩ := HT.out.hs.cells
  have hB : Hid (wr.cell? ⟨gp, 0, none⟩ = some (str p.1) ∧ wr.cell? ⟨gp, 1, none⟩ = some (str p.2) ∧ wr.cell? ⟨gh, 0, none⟩ = some (.int .u64 h.k0) ∧ wr.cell? ⟨gh, 1, none⟩ = some (.int .u64 h.k1) ∧ wr.cell? ⟨gh, 2, none⟩ = some (.int .u64 h.mask)) := Lib.hid ⟨c0, c1, e0, e1, e2⟩
  repeat' (go_not_at_region 10; (first | go_skip | go_guarded | go_step))
  go_region_held3 (fun w' => w'.cell? ⟨gp, 0, none⟩ = some (str p.1) ∧ w'.cell? ⟨gp, 1, none⟩ = some (str p.2) ∧ w'.cell? ⟨gh, 0, none⟩ = some (.int .u64 h.k0) ∧ w'.cell? ⟨gh, 1, none⟩ = some (.int .u64 h.k1) ∧ w'.cell? ⟨gh, 2, none⟩ = some (.int .u64 h.mask))
    (first | exact keep5c k3.out hB.out | exact keep5c (by repeat' (first | exact k2.out | exact Ext.refl _ | apply ext_alloc | apply ext_drew | exact below_drewN (Ext.refl _) _)) hB.out | exact keep5c (by repeat' (first | exact Ext.refl _ | apply ext_alloc | apply ext_drew | exact below_drewN (Ext.refl _) _)) hB.out)
    (first
      | (go_at_call 47; refine (HF.out _).mono ?_; rintro e x2 ⟨rfl, f2⟩; have k2 : Hid (Ext wr x2) := Lib.hid (Ext.trans (by repeat' (first | exact Ext.refl _ | apply ext_alloc | apply ext_drew | exact below_drewN (Ext.refl _) _)) f2); clear f2)
      | (go_at_call 46; refine (T6V.put (HT.out.ext k2.out) hk q (by omega) hql).mono ?_; rintro e x3 ⟨g3, b3, rfl, f3, t3⟩; have k3 : Hid (Ext wr x3) := Lib.hid (k2.out.trans f3); have K3 : Hid (T6V v7 x3 gh h g3 (rput Y q)) := Lib.hid t3; clear f3 t3))
  clear c0 c1 e0 e1 e2
  have HR3 := Lib.hid (row_ext H.out.2.2.2.2 k3.out)
  have HE3 := Lib.hid (H.out.2.2.2.1.trans k3.out)
  have hgb := H.out.2.2.1
  obtain ⟨c0, c1⟩ := (HB.out.ext k3.out).cells
  repeat' (first | go_at_call 47 | go_skip | go_guarded | go_step)
  refine (HF.out _).mono ?_
  rintro e w4 ⟨rfl, f4⟩
  have fa : Ext w4 (w4.alloc (.cells #[str q.1, str q.2] 36)) := (Ext.refl _).alloc (Nat.le_refl _) _
  have H4 : Hid (T6V v7 (w4.alloc (.cells #[str q.1, str q.2] 36)) gh h g3 (rput Y q) ∧ (w4.alloc (.cells #[str q.1, str q.2] 36)).ownsRow W.heap.size 36 2 v7 L.length (flat L) ∧ Ext W (w4.alloc (.cells #[str q.1, str q.2] 36))) := Lib.hid ⟨(K3.out.ext f4).ext fa, row_ext (row_ext HR3.out f4) fa, (HE3.out.trans f4).trans fa⟩
  clear f4 fa c0 c1
  go_simp
  repeat' (first | (at_builtin; refine wpList_app rfl (.tmp 32) (.tmp 35) _ rfl W.heap.size 36 2 32 Try.underlying22 infoPx (by decide) _ _ _ rfl H4.out.2.1 _ 1 1 [str q.1, str q.2] rfl rfl (Seg.new _ [_, _] _ (by simp)) (by intro u hu; simp at hu; rcases hu with rfl | rfl <;> rfl) (by unfold maxLen; omega) (by omega) H4.out.2.2.size ?_; intro v5 w5 hown5 hgr5 hsf5) | go_skip | go_guarded | go_step)
  have H5 : Hid (Ext W w5 ∧ T6V v5 w5 gh h g3 (rput Y q) ∧ w5.ownsRow W.heap.size 36 2 v5 (L ++ [q]).length (flat (L ++ [q]))) := Lib.hid ⟨H4.out.2.2.grown hgr5 H4.out.2.2.size (fun k hk => (H4.out.2.1.lt k hk).1), H4.out.1.grow hgr5 hsf5 (fun b hb => (hown5.lt b hb).2) (fun e => by have := (H4.out.2.1.lt gh e).1; omega), by rw [List.length_append, flat_append]; exact hown5⟩
  clear hown5 hgr5 hsf5
  repeat' (first | go_skip | go_guarded | go_step)
  rw [HQ.out] at H5
  exact HQF.out g3 _ _ _ _ _ _ _ _ _ _ _ _ _ _ _ H5.out

set_option maxRecDepth 100000 in
set_option maxHeartbeats 2000000 in
theorem coll_6 (wr : World) (gh g n C : Nat) (h : Hs) (hk : h.Ok) (A : Option Addr) (l : List Pr) (H : Hid (T6V nil9 wr gh h g [] ∧ Seg wr A (flat l) ∧ n = l.length)) (hn9 : n ≤ 9223372036854775807) (c d : Code) (K : Act → World → Prop) (Q : Exit → Act → World → Prop) (t0 t2 t3 t4 t8 t9 t10 t11 t12 t13 t14 t15 t16 t17 t18 t19 t20 t21 t22 t23 t24 t25 t26 t27 t28 t29 t30 t31 t32 t33 t34 t35 t36 t37 t38 t39 t40 t41 t42 t43 t44 t45 t46 t47 t48 t49 t50 t51 t52 t53 t54 t55 t56 t57 t58 t59 t60 t61 t62 t63 t64 t65 t66 t67 t68 t69 t70 t71 t72 t73 t74 t75 t76 t77 t78 t79 t80 : Value)
    (hc : (Try.f11.body.bind (findR 6)) = some c) (hd : (Try.f11.body.bind (findT 6)) = some d)
    (hK : ∀ a w, d.wp Try.prog Q a w → K a w)
    (hQ : ∀ (g2 : Nat) (v2 : Value) (u8 u9 u15 u16 u17 u18 u19 u20 u21 u22 u23 u24 u25 u26 u27 u28 u29 u30 u31 u32 u33 u34 u35 u36 u37 : Value) (wx : World), Ext wr wx ∧ T6V v2 wx gh h g2 (rsort (cutM 25 l n)) ∧ PS wx v2 (cutM 25 l n) → Q .normal { tmps := List.toArray (t0 :: (.slice A n C) :: t2 :: t3 :: t4 :: (ptr gh) :: (ptr g2) :: v2 :: u8 :: u9 :: t10 :: t11 :: t12 :: t13 :: t14 :: u15 :: u16 :: u17 :: u18 :: u19 :: u20 :: u21 :: u22 :: u23 :: u24 :: u25 :: u26 :: u27 :: u28 :: u29 :: u30 :: u31 :: u32 :: u33 :: u34 :: u35 :: u36 :: u37 :: t38 :: t39 :: t40 :: t41 :: t42 :: t43 :: t44 :: t45 :: t46 :: t47 :: t48 :: t49 :: t50 :: t51 :: t52 :: t53 :: t54 :: t55 :: t56 :: t57 :: t58 :: t59 :: t60 :: t61 :: t62 :: t63 :: t64 :: t65 :: t66 :: t67 :: t68 :: t69 :: t70 :: t71 :: t72 :: t73 :: t74 :: t75 :: t76 :: t77 :: t78 :: t79 :: t80 :: []), defers := [] } wx) :
    c.wp Try.prog (Exit.then K Q) { tmps := List.toArray (t0 :: (.slice A n C) :: t2 :: t3 :: t4 :: (ptr gh) :: (ptr g) :: (.slice none 0 0) :: t8 :: t9 :: t10 :: t11 :: t12 :: t13 :: t14 :: t15 :: t16 :: t17 :: t18 :: t19 :: t20 :: t21 :: t22 :: t23 :: t24 :: t25 :: t26 :: t27 :: t28 :: t29 :: t30 :: t31 :: t32 :: t33 :: t34 :: t35 :: t36 :: t37 :: t38 :: t39 :: t40 :: t41 :: t42 :: t43 :: t44 :: t45 :: t46 :: t47 :: t48 :: t49 :: t50 :: t51 :: t52 :: t53 :: t54 :: t55 :: t56 :: t57 :: t58 :: t59 :: t60 :: t61 :: t62 :: t63 :: t64 :: t65 :: t66 :: t67 :: t68 :: t69 :: t70 :: t71 :: t72 :: t73 :: t74 :: t75 :: t76 :: t77 :: t78 :: t79 :: t80 :: []), defers := [] } wr := by
  change some _ = some c at hc
  cases hc
  change some _ = some d at hd
  cases hd
  have HQF := Lib.hid hQ
  clear hQ
  have H0 := H
  clear H
  obtain ⟨wr0, rfl⟩ : ∃ x, x = wr := ⟨_, rfl⟩
  have hgh0 := heap_lt H0.out.1.hs
  repeat' (go_not_at_region 7; (first | go_skip | go_guarded | go_step))
  go_loopg [6, 7, 17] n (fun gk v6 v7 v17 wx => ∃ (i g2 : Nat), v6 = ptr g2 ∧ v17 = .int .i64 i ∧ i ≤ n ∧ n - i ≤ gk ∧ Hid (Ext wr0 wx ∧ T6V v7 wx gh h g2 (rsort (cutM 25 l i)) ∧ wx.ownsRow wr0.heap.size 36 2 v7 (cutM 25 l i).length (flat (cutM 25 l i))))
  case atStart => exact ⟨0, g, rfl, rfl, Nat.zero_le _, by omega, Lib.hid ⟨Ext.refl _, H0.out.1, World.ownsRow_nil _ _ _ _⟩⟩
  case round =>
    obtain ⟨i, g2, rfl, rfl, hin, hgk, HI⟩ := hrel
    rcases Nat.lt_or_ge i n with hlt | hge
    · have d1 : decide (i < n) = true := by simp [hlt]
      have hi1 : (i : Int) < (n : Int) := by omega
      obtain ⟨p, hp⟩ := get_of_lt l (show i < l.length by have := H0.out.2.2; omega)
      obtain ⟨b, o, rfl, q0, q1⟩ := seg_pair (H0.out.2.1.below HI.out.1) hp
      have HP := Lib.hid hp
      clear hp
      repeat' (go_not_at_region 9; (first | go_skip | go_guarded | go_step))
      obtain ⟨gp, hgp⟩ : ∃ g, g = wr.heap.size := ⟨_, rfl⟩
      rw [← hgp]
      refine wp_named (fun w' => Ext wr w' ∧ PrAt w' gp p) ⟨(Ext.refl _).alloc (Nat.le_refl _) _, by rw [hgp]; exact heap_new wr _⟩ ?_
      clear hgp q0 q1
      intro w1 HA
      have hl9 := cutM_length 25 l i
      have hl8 := rsort_length (cutM 25 l i)
      by_cases h20 : i < 25
      · have d2 : decide (i < 25) = true := by simp [h20]
        have d2' : decide ((i : Int) < 25) = true := by simp; omega
        repeat' (go_not_at_region 10; (first | go_skip | go_guarded | go_step))
        rename_i K hK
        refine coll_10 wr0 w1 gh g2 gp h hk _ (rsort (cutM 25 l i)) (cutM 25 l i) p (Lib.hid ⟨HA.out.2, HI.out.2.1.ext HA.out.1, hgh0, HI.out.1.trans HA.out.1, row_ext HI.out.2.2 HA.out.1⟩) (by omega) (by omega) _ _ K _ _ _ _ _ _ _ _ _ _ _ _ _ _ _ _ _ _ _ _ _ _ _ _ _ _ _ _ _ _ _ _ _ _ _ _ _ _ _ _ _ _ _ _ _ _ _ _ _ _ _ _ _ _ _ _ _ _ _ _ _ _ _ _ _ _ _ _ _ _ _ _ _ _ _ _ _ _ (by kernel_rfl) (by kernel_rfl) hK ?_
        intro g3 v3 z24 z25 z26 z27 z28 z29 z30 z31 z32 z33 z34 z35 z36 wy hpo
        have e : cutM 25 l (i + 1) = cutM 25 l i ++ [cutP p] := cutM_step HP.out h20
        have H6 : Hid (Ext wr0 wy ∧ T6V v3 wy gh h g3 (rsort (cutM 25 l (i + 1))) ∧ wy.ownsRow wr0.heap.size 36 2 v3 (cutM 25 l (i + 1)).length (flat (cutM 25 l (i + 1)))) := Lib.hid (by rw [e, rsort_snoc]; exact hpo)
        clear hpo e
        repeat' (first | go_skip | go_guarded | go_step)
        go_roundg (n - (i + 1))
        case measure => omega
        case rel => exact ⟨i + 1, g3, rfl, by go_num, by omega, Nat.le_refl _, H6⟩
      · have d2 : decide (i < 25) = false := by simp; omega
        have d2' : decide ((i : Int) < 25) = false := by simp; omega
        have e : cutM 25 l (i + 1) = cutM 25 l i := cutM_stay (by omega)
        have H6 : Hid (Ext wr0 w1 ∧ T6V u7 w1 gh h g2 (rsort (cutM 25 l (i + 1))) ∧ w1.ownsRow wr0.heap.size 36 2 u7 (cutM 25 l (i + 1)).length (flat (cutM 25 l (i + 1)))) := Lib.hid (by rw [e]; exact ⟨HI.out.1.trans HA.out.1, HI.out.2.1.ext HA.out.1, row_ext HI.out.2.2 HA.out.1⟩)
        clear e
        repeat' (first | go_skip | go_guarded | go_step)
        go_roundg (n - (i + 1))
        case measure => omega
        case rel => exact ⟨i + 1, g2, rfl, by go_num, by omega, Nat.le_refl _, H6⟩
    · obtain rfl : i = n := by omega
      have d1 : decide (i < i) = false := by simp
      repeat' (first | go_skip | go_guarded | go_step)
      exact HQF.out g2 _ _ _ _ _ _ _ _ _ _ _ _ _ _ _ _ _ _ _ _ _ _ _ _ _ _ _ ⟨HI.out.1, HI.out.2.1, PS.of_own HI.out.2.2⟩

end Go.Proofs.Ytclcgelbcbnekaa
/- ChampCollides: one way down: its second loop: a law of its own. -/
namespace Go.Proofs.Ytclcgelbcbnekaa
open Go Go.RowKit Go.QS Go.QS.Nk
set_option linter.unusedVariables false
variable [Zero (Nat → Prop)]
set_option linter.unusedSectionVars false

/-- All hashes are 0: one way down. -/
theorem part_zero {H : List UInt8 → Nat} (h0 : ∀ s, H s = 0) (lv : Nat) (l : List Pr) : Go.QS.part H lv 0 l = l := by
  unfold Go.QS.part
  refine List.filter_eq_self.2 fun p _ => ?_
  rw [h0, chk, Nat.zero_div]
  rfl
theorem part_else {H : List UInt8 → Nat} (h0 : ∀ s, H s = 0) (lv : Nat) {c : Nat} (hc : c ≠ 0) (l : List Pr) : Go.QS.part H lv c l = [] := by
  unfold Go.QS.part
  refine List.filter_eq_nil_iff.2 fun p _ => ?_
  rw [h0, chk, Nat.zero_div]
  simp
  omega
def one0 (s : Slot Nat) : List (Slot Nat) := s :: List.replicate 31 .no
theorem slots_eq {s0 : Slot Nat} {sl : List (Slot Nat)} (h32 : sl.length = 32) (h0 : sl[0]? = some s0) (h : ∀ (c : Nat) s, c ≠ 0 → sl[c]? = some s → s = .no) : sl = one0 s0 := by
  refine List.ext_getElem? fun c => ?_
  match c with
  | 0 => rw [h0]; rfl
  | c + 1 =>
    show sl[c + 1]? = (List.replicate 31 Slot.no)[c]?
    rw [List.getElem?_replicate]
    by_cases hc : c < 31
    · obtain ⟨s, hs⟩ := get_of_lt sl (show c + 1 < sl.length by omega)
      rw [hs, h (c + 1) s (by omega) hs, if_pos hc]
    · rw [List.getElem?_eq_none (by omega), if_neg hc]
theorem rep_bits (f : Slot Nat → Bool) (hf : f .no = false) : ∀ n, bitsOf f (List.replicate n .no) = 0
  | 0 => rfl
  | n + 1 => by rw [List.replicate_succ, bitsOf, rep_bits f hf n, hf]; rfl
theorem rep_prs : ∀ n, prsOf (List.replicate n (Slot.no : Slot Nat)) = [] ∧ kdsOf (List.replicate n (Slot.no : Slot Nat)) = []
  | 0 => ⟨rfl, rfl⟩
  | n + 1 => by rw [List.replicate_succ, prsOf_no, kdsOf_no]; exact rep_prs n
theorem one0_kid (k : Nat) : dataOf (one0 (.kid k)) = 0 ∧ nodesOf (one0 (.kid k)) = 1 := by
  unfold one0 dataOf nodesOf
  rw [bitsOf, bitsOf, rep_bits _ rfl, rep_bits _ rfl]
  exact ⟨rfl, rfl⟩
theorem one0_pr (p : Pr) : prsOf (one0 (.pr p)) = [p] ∧ kdsOf (one0 (.pr p)) = [] := by
  unfold one0
  rw [prsOf_pr, kdsOf_pr, (rep_prs 31).1, (rep_prs 31).2]
  exact ⟨rfl, rfl⟩
theorem one0_no : prsOf (one0 .no) = [] ∧ kdsOf (one0 .no) = [] := by
  unfold one0
  rw [prsOf_no, kdsOf_no]
  exact rep_prs 31
/-- An inner node of a trie of such. -/
theorem tr_zero {H : List UInt8 → Nat} (h0 : ∀ s, H s = 0) {T : TypeId} {w : World} {f g : Nat} {X : List Pr} (h : TR T H w (f + 1) g X) : ∃ s, In T w g (one0 s) ∧ SlotOk (TR T H w f) s X := by
  obtain ⟨sl, hN, hs⟩ := h
  have h32 := hN.1
  obtain ⟨s, h1⟩ := get_of_lt sl (show 0 < sl.length by omega)
  have hs0 := hs 0 s h1
  rw [part_zero h0] at hs0
  refine ⟨s, ?_, hs0⟩
  have : sl = one0 s := slots_eq h32 h1 (fun c s' e hc => by
    have h2 := hs c s' hc
    rw [part_else h0 _ e] at h2
    cases s' with
    | no => rfl
    | pr p => exact absurd h2 (by simp [SlotOk])
    | kid k => exact absurd h2.1 (by simp))
  rw [← this]
  exact hN
set_option maxRecDepth 100000 in
set_option maxHeartbeats 2000000 in
theorem coll_16 (wr : World) (g : Nat) (K0 : List UInt8 → Nat) (X : List Pr) (h0 : ∀ s, K0 s = 0) (hX : 2 ≤ X.length) (H : Hid (TR ND K0 wr 13 g X)) (c d : Code) (K : Act → World → Prop) (Q : Exit → Act → World → Prop) (t0 t1 t2 t3 t4 t5 t7 t8 t9 t10 t11 t12 t13 t14 t15 t16 t17 t18 t19 t20 t21 t22 t23 t24 t25 t26 t27 t28 t29 t30 t31 t32 t33 t34 t35 t36 t37 t38 t39 t40 t41 t42 t43 t44 t45 t46 t47 t48 t49 t50 t51 t52 t53 t54 t55 t56 t57 t58 t59 t60 t61 t62 t63 t64 t65 t66 t67 t68 t69 t70 t71 t72 t73 t74 t75 t76 t77 t78 t79 t80 : Value)
    (hc : (Try.f11.body.bind (findR 16)) = some c) (hd : (Try.f11.body.bind (findT 16)) = some d)
    (hK : ∀ a w, d.wp Try.prog Q a w → K a w)
    (hQ : ∀ (g2 : Nat) (u4 u53 u54 u55 u56 u57 u58 u59 u60 u61 u62 u63 u64 u65 u66 u67 u68 u69 u70 u71 u72 : Value) (wx : World), Ext wr wx ∧ TR ND K0 wx 0 g2 X → Q .normal { tmps := List.toArray (t0 :: t1 :: t2 :: t3 :: u4 :: t5 :: (ptr g2) :: t7 :: t8 :: t9 :: t10 :: t11 :: t12 :: t13 :: t14 :: t15 :: t16 :: t17 :: t18 :: t19 :: t20 :: t21 :: t22 :: t23 :: t24 :: t25 :: t26 :: t27 :: t28 :: t29 :: t30 :: t31 :: t32 :: t33 :: t34 :: t35 :: t36 :: t37 :: t38 :: t39 :: t40 :: t41 :: t42 :: t43 :: t44 :: t45 :: t46 :: t47 :: t48 :: t49 :: t50 :: t51 :: t52 :: u53 :: u54 :: u55 :: u56 :: u57 :: u58 :: u59 :: u60 :: u61 :: u62 :: u63 :: u64 :: u65 :: u66 :: u67 :: u68 :: u69 :: u70 :: u71 :: u72 :: t73 :: t74 :: t75 :: t76 :: t77 :: t78 :: t79 :: t80 :: []), defers := [] } wx) :
    c.wp Try.prog (Exit.then K Q) { tmps := List.toArray (t0 :: t1 :: t2 :: t3 :: t4 :: t5 :: (ptr g) :: t7 :: t8 :: t9 :: t10 :: t11 :: t12 :: t13 :: t14 :: t15 :: t16 :: t17 :: t18 :: t19 :: t20 :: t21 :: t22 :: t23 :: t24 :: t25 :: t26 :: t27 :: t28 :: t29 :: t30 :: t31 :: t32 :: t33 :: t34 :: t35 :: t36 :: t37 :: t38 :: t39 :: t40 :: t41 :: t42 :: t43 :: t44 :: t45 :: t46 :: t47 :: t48 :: t49 :: t50 :: t51 :: t52 :: t53 :: t54 :: t55 :: t56 :: t57 :: t58 :: t59 :: t60 :: t61 :: t62 :: t63 :: t64 :: t65 :: t66 :: t67 :: t68 :: t69 :: t70 :: t71 :: t72 :: t73 :: t74 :: t75 :: t76 :: t77 :: t78 :: t79 :: t80 :: []), defers := [] } wr := by
  change some _ = some c at hc
  cases hc
  change some _ = some d at hd
  cases hd
  have HQF := Lib.hid hQ
  clear hQ
  have H0 := H
  clear H
  obtain ⟨wr0, rfl⟩ : ∃ x, x = wr := ⟨_, rfl⟩
  repeat' (go_not_at_region 17; (first | go_skip | go_guarded | go_step))
  go_loopg [4, 6, 53] 13 (fun gk v4 v6 v53 wx => ∃ (i f g2 : Nat), v6 = ptr g2 ∧ v53 = .int .i64 i ∧ i + f = 13 ∧ f ≤ gk ∧ Hid (Ext wr0 wx ∧ TR ND K0 wx f g2 X))
  case atStart => exact ⟨0, 13, g, rfl, rfl, rfl, Nat.le_refl _, Lib.hid ⟨Ext.refl _, H0.out⟩⟩
  case round =>
    obtain ⟨i, f, g2, rfl, rfl, hif, hgk, HI⟩ := hrel
    rcases Nat.lt_or_ge i 13 with hlt | hge
    · have d1 : decide ((i : Int) < 13) = true := by simp; omega
      have d1' : decide (i < 13) = true := by simp; omega
      obtain ⟨f', rfl⟩ : ∃ f', f = f' + 1 := ⟨f - 1, by omega⟩
      obtain ⟨s, hN, hs⟩ := tr_zero h0 HI.out.2
      obtain ⟨k, rfl⟩ : ∃ k, s = .kid k := by
        cases s with
        | kid k => exact ⟨k, rfl⟩
        | no => have e : X = [] := hs; rw [e] at hX; simp at hX
        | pr p => have e : X = [p] := hs; rw [e] at hX; simp at hX
      have HN := Lib.hid (And.intro hN hs.2)
      obtain ⟨h32, ow, pv, kv, nd⟩ := hN
      obtain ⟨a0, a1, a2, a3, a4, a5⟩ := nd.node.cells
      rw [(one0_kid k).1] at a0
      rw [(one0_kid k).2] at a1
      have HA := Lib.hid (And.intro a0 (And.intro a1 a4))
      clear nd hs a0 a1 a2 a3 a4 a5 h32
      repeat' (first | go_at_call 58 | go_skip | go_guarded | go_step)
      refine (isb_c wr g2 false HA.out.2.2).mono ?_
      rintro e w1 ⟨rfl, f1⟩
      have F1 := Lib.hid f1
      clear f1
      go_simp
      repeat' (first | go_at_call 59 | go_skip | go_guarded | go_step)
      refine (data_c w1 g2 0 (keep1c F1.out HA.out.1)).mono ?_
      rintro e w2 ⟨rfl, rfl⟩
      go_simp
      repeat' (first | go_at_call 60 | go_skip | go_guarded | go_step)
      refine (nodes_c w1 g2 1 (keep1c F1.out HA.out.2.1)).mono ?_
      rintro e w2 ⟨rfl, rfl⟩
      go_simp
      repeat' (first | go_at_call 61 | go_skip | go_guarded | go_step)
      refine (kid_yes w1 g2 0 (one0 (.kid k)) k (HN.out.1.ext F1.out) rfl).mono ?_
      rintro e w3 ⟨rfl, f3⟩
      have F3 : Hid (Ext wr w3) := Lib.hid (F1.out.trans f3)
      clear f3
      go_simp
      repeat' (first | go_skip | go_guarded | go_step)
      go_roundg f'
      case measure => omega
      case rel => exact ⟨i + 1, f', k, rfl, by go_num, by omega, Nat.le_refl _, Lib.hid ⟨HI.out.1.trans F3.out, TR.ext F3.out f' HN.out.2⟩⟩
    · obtain rfl : i = 13 := by omega
      obtain rfl : f = 0 := by omega
      have d1 : decide (13 < 13) = false := by simp
      repeat' (first | go_skip | go_guarded | go_step)
      exact HQF.out g2 _ _ _ _ _ _ _ _ _ _ _ _ _ _ _ _ _ _ _ _ _ _ HI.out

end Go.Proofs.Ytclcgelbcbnekaa
