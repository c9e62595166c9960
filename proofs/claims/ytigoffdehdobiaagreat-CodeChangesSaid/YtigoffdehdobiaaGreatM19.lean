/- Texts joined. -/
import Derived.Test.YtigoffdehdobiaaGreatM17
import Derived.Test.YtigoffdehdobiaaGreatM10
import Derived.Test.YtigoffdehdobiaaGreatPj
import Derived.Test.YtigoffdehdobiaaGreatM06
set_option linter.unusedVariables false
set_option linter.unusedSimpArgs false
/- Contracts: sorting in place. -/
namespace Go.Proofs.YtigoffdehdobiaaGreat
open Go.RowKit Go.QS
set_option linter.unusedVariables false

abbrev cmpD : Value := .func (.func 72) #[] #[]

set_option maxRecDepth 100000 in
set_option maxHeartbeats 400000 in
theorem insertion_c (base : Nat) (W : World) (g cap n a b : Nat) (P A S : List Pr) (hR : Rw base 70 W g cap (P ++ (A ++ S))) (hn : n = (P ++ (A ++ S)).length) (ha : a = P.length) (hb : b = P.length + A.length) (h9 : n ≤ 1000000000) :
    Calls Tryz.prog 116 #[.slice (some ⟨g, 0, none⟩) n cap, .int .i64 a, .int .i64 b, cmpD] W fun e w' => e = .returned (.tuple #[]) ∧ Rw base 70 w' g cap (P ++ (ssort A ++ S)) ∧ W.grownBy w' (some g) := by
  have Hn := Lib.hid hn; have Ha := Lib.hid ha; have Hb := Lib.hid hb
  have hbn : b ≤ n := by subst hn hb; simp
  have hab : a ≤ b := by omega
  have hR' := Lib.hid hR
  clear hn ha hb hR
  go_enter Tryz.func116, Tryz.ntmps116
  repeat' go_step
  go_loopw [8] (fun i wr => ∃ m k : Nat, 1 ≤ k ∧ (a + k ≤ b ∨ k = 1) ∧ i = .int .i64 (m : Nat) ∧ Hid (m = a + k) ∧ Hid (Rw base 70 wr g cap (P ++ (ssort (A.take k) ++ (A.drop k ++ S))) ∧ W.grownBy wr (some g))) (fun i _ => b - (intOf i).toNat)
  case atStart => exact ⟨a + 1, 1, Nat.le_refl _, .inr rfl, by go_num, Lib.hid rfl, Lib.hid ⟨by rw [ssort_take_one, ← List.append_assoc (A.take 1), List.take_append_drop]; exact hR'.out, World.grownBy.refl _ _⟩⟩
  case round =>
    obtain ⟨m, k, hk1, hk2, rfl, Hm, HR⟩ := hrel
    by_cases hlt : a + k < b
    · have hd0 : decide (m < b) = true := by have := Hm.out; simp; omega
      have hm9 : m < n := by have := Hm.out; omega
      have hkA : k < A.length := by have := Ha.out; have := Hb.out; omega
      obtain ⟨x, hx⟩ := get_of_lt A hkA
      have HX := Lib.hid hx
      clear hx
      repeat' go_step
      obtain ⟨wo, rfl⟩ : ∃ wo : World, wo = wr := ⟨_, rfl⟩
      go_loopw [9] (fun j wr => ∃ T1 T2 : List Pr, j = .int .i64 (a + T1.length : Nat) ∧ a + T1.length ≤ m ∧ Hid (T1 ++ T2 = ssort (A.take k) ∧ (∀ y ∈ T2, x.1 < y.1) ∧ Rw base 70 wr g cap (P ++ (T1 ++ (x :: T2 ++ (A.drop (k + 1) ++ S)))) ∧ W.grownBy wr (some g))) (fun j _ => (intOf j).toNat)
      case atStart =>
        refine ⟨ssort (A.take k), [], ?_, ?_, Lib.hid ⟨by simp, by simp, ?_, HR.out.2⟩⟩
        · rw [ssort_length, List.length_take_of_le (by omega), Hm.out]
        · rw [ssort_length, List.length_take_of_le (by omega), Hm.out]; omega
        · have := HR.out.1
          rw [List.drop_eq_getElem?_toList_append, HX.out] at this
          simpa using this
      case round =>
        obtain ⟨T1, T2, rfl, hT1, HI⟩ := hrel
        rcases List.eq_nil_or_concat T1 with h0 | ⟨T1', y, h0⟩
        · subst h0
          have hd : decide ((a : Int) < ((a + ([] : List Pr).length : Nat) : Int)) = false := by simp
          repeat' go_step
          go_quiet (fail)
          repeat' go_step
          obtain ⟨HE, H2, HRw, HG⟩ := HI.out
          have hmo := Hm.out
          refine ⟨⟨m + 1, k + 1, by omega, by omega, by go_num, Lib.hid (by omega), Lib.hid ⟨?_, HG.trans (grown_ext (below_drewN (Ext.refl _) _))⟩⟩, by simp [intOf]; omega⟩
          have e1 := ins_done HE.symm H2 (x := x) (by simp)
          rw [← take_snoc HX.out] at e1
          rw [← e1]
          simpa using HRw.drewN _
        · subst h0
          obtain ⟨HE, H2, HRw, HG⟩ := HI.out
          obtain ⟨j, hj⟩ : ∃ j, j = a + T1'.length := ⟨_, rfl⟩
          have hjj : a + (T1'.concat y).length = j + 1 := by subst hj; simp; omega
          rw [hjj] at hT1 ⊢
          obtain ⟨j1, hj1⟩ : ∃ j1, j1 = j + 1 := ⟨_, rfl⟩
          rw [← hj1] at hT1 ⊢
          have hL : P ++ (T1'.concat y ++ (x :: T2 ++ (A.drop (k + 1) ++ S))) = (P ++ T1') ++ (y :: x :: (T2 ++ (A.drop (k + 1) ++ S))) := by simp
          rw [hL] at HRw
          have hPT : (P ++ T1').length = j := by have := Ha.out; simp; omega
          have hy := HRw.get (i := j) (p := y) (by rw [List.getElem?_append_right (by omega), hPT]; simp)
          have hx := HRw.get (i := j1) (p := x) (by rw [List.getElem?_append_right (by omega), hPT, hj1]; simp)
          have HH : Hid (_ ∧ _ ∧ _ ∧ _ ∧ _ ∧ _ ∧ _ ∧ _) := Lib.hid ⟨HE, H2, HRw, HG, hj, hL, hPT, hj1⟩
          have hja : a ≤ j := by omega
          have hjn : j1 < n := by omega
          have hd : decide (a < j1) = true := by simp; omega
          obtain ⟨hy1, hy2⟩ := hy
          obtain ⟨hx1, hx2⟩ := hx
          have hi1 : (j1 : Int) < (n : Int) := by omega
          have hi2 : (j : Int) < (n : Int) := by omega
          have hs : IntKind.i64.wrap ((j1 : Int) - 1) = (j : Int) := by rw [hj1, show ((j + 1 : Nat) : Int) - 1 = (j : Int) by omega]; exact IntWalk.i64_in _ (by omega)
          clear HE H2 HRw HG hj hL hPT hjj HI hj1
          repeat' go_step
          go_still_tail 14, (by kernel_rfl)
          change wpList _ _ _ _ _ wr.drew
          repeat' (first | go_skip | go_guarded | go_step)
          refine (less_c _ x y).mono ?_
          rintro e w1 ⟨rfl, hb1⟩
          obtain ⟨HE, H2, HRw, HG, hj, hL, hPT, hj1⟩ := HH.out
          have HR1 := (HRw.drewN 1).ext hb1
          have HG1 : W.grownBy w1 (some g) := (HG.trans (grown_ext (below_drewN (Ext.refl wr) 1))).trans (grown_ext hb1)
          obtain ⟨hy1, hy2⟩ := HR1.get (i := j) (p := y) (by rw [List.getElem?_append_right (by omega), hPT]; simp)
          obtain ⟨hx1, hx2⟩ := HR1.get (i := j1) (p := x) (by rw [List.getElem?_append_right (by omega), hPT, hj1]; simp)
          have hfz := HR1.free
          have HH' : Hid (_ ∧ _) := Lib.hid ⟨HR1, HG1⟩
          have q1 : j1 ≠ j := by omega
          have q2 : j ≠ j1 := by omega
          have q3 : j1 * 2 + 1 ≠ j * 2 := by omega
          have q4 : j * 2 + 1 ≠ j1 * 2 := by omega
          have q5 : j1 * 2 ≠ j * 2 + 1 := by omega
          have q6 : j * 2 ≠ j1 * 2 + 1 := by omega
          clear HE H2 HRw HG hj hL hPT hj1 HR1 HG1
          by_cases hlt : x.1 < y.1
          · have hc : decide (cmpB x.1 y.1 < 0) = true := by simp [cmpB_neg, hlt]
            go_simp
            repeat' (first | go_skip | go_guarded | go_step)
            go_region
            repeat' (first | go_skip | go_guarded | go_step)
            obtain ⟨HE, H2, HRw, HG, hj, hL, hPT, hj1⟩ := HH.out
            obtain ⟨HR1, HG1⟩ := HH'.out
            refine ⟨?_, ?_⟩
            · refine ⟨T1', y :: T2, by rw [hj], by omega, Lib.hid ⟨?_, ?_, ?_, ?_⟩⟩
              · rw [← HE]; simp
              · intro z hz
                rcases List.mem_cons.1 hz with rfl | hz
                · exact hlt
                · exact H2 z hz
              · have := (HR1.swap j1 y j x).drew
                rw [set_two _ _ _ _ hPT hj1] at this
                simpa using this
              · exact (HG1.trans (grown_swap w1 g _ _ _ _ _ _ _ _)).trans (grown_ext (below_drewN (Ext.refl _) 1))
            · simp [intOf]; omega
          · have hc : decide (cmpB x.1 y.1 < 0) = false := by simp [cmpB_neg, hlt]
            go_simp
            repeat' (first | go_skip | go_guarded | go_step)
            obtain ⟨HE, H2, HRw, HG, hj, hL, hPT, hj1⟩ := HH.out
            obtain ⟨HR1, HG1⟩ := HH'.out
            have hmo := Hm.out
            refine ⟨⟨m + 1, k + 1, by omega, by omega, by go_num, Lib.hid (by omega), Lib.hid ⟨?_, HG1⟩⟩, by simp [intOf]; omega⟩
            have e1 := ins_done HE.symm H2 (x := x) (fun z hz => by
              have hS := ssort_srt (A.take k)
              rw [← HE, srt_append] at hS
              rw [List.concat_eq_append] at hS hz
              rcases List.mem_append.1 hz with hz | hz
              · exact nlt_trans ((srt_append.1 hS.1).2.2 z hz y (by simp)) hlt
              · simp at hz; subst hz; exact hlt)
            rw [← take_snoc HX.out] at e1
            rw [← e1]
            rw [← hL] at HR1
            simpa using HR1
    · have hd0 : decide (m < b) = false := by have := Hm.out; simp; omega
      repeat' go_step
      refine bodyPost_end (results_none rfl _ _ _) rfl ⟨rfl, ?_⟩
      have e : ssort (A.take k) = ssort A ∧ A.drop k = [] := by
        have := Ha.out; have := Hb.out
        have : A.length ≤ k := by omega
        rw [List.take_of_length_le this, List.drop_eq_nil_of_le this]; exact ⟨rfl, rfl⟩
      have := HR.out
      rw [e.1, e.2] at this
      exact this
end Go.Proofs.YtigoffdehdobiaaGreat
/- Contracts: the stable sort of pairs. -/
namespace Go.Proofs.YtigoffdehdobiaaGreat
open Go.RowKit Go.QS
set_option linter.unusedVariables false

theorem ins_c (base : Nat) (W : World) (g cap n a b : Nat) (l : List Pr) (hR : Rw base 70 W g cap l) (hn : n = l.length) (hab : a ≤ b) (hb : b ≤ n) (h9 : n ≤ 1000000000) :
    Calls Tryz.prog 116 #[.slice (some ⟨g, 0, none⟩) n cap, .int .i64 a, .int .i64 b, cmpV] W fun e w' => e = .returned (.tuple #[]) ∧ Rw base 70 w' g cap (upd l a b) ∧ W.grownBy w' (some g) :=
  insertion_c base W g cap n a b (l.take a) ((l.drop a).take (b - a)) (l.drop b) (by rw [← cut3 l hab]; exact hR) (by rw [← cut3 l hab]; exact hn) (by rw [List.length_take_of_le (by omega)])
    (by rw [List.length_take_of_le (by omega), List.length_take_of_le (by rw [List.length_drop]; omega)]; omega) h9

theorem mrg_c (base : Nat) (W : World) (g cap n a m b : Nat) (l : List Pr) (hR : Rw base 70 W g cap l) (hn : n = l.length) (ham : a < m) (hmb : m < b) (hb : b ≤ n) (h1 : Srt ((l.drop a).take (m - a))) (h2 : Srt ((l.drop m).take (b - m))) (h9 : n ≤ 1000000000) :
    Calls Tryz.prog 117 #[.slice (some ⟨g, 0, none⟩) n cap, .int .i64 a, .int .i64 m, .int .i64 b, cmpV] W fun e w' => e = .returned (.tuple #[]) ∧ Rw base 70 w' g cap (upd l a b) ∧ W.grownBy w' (some g) := by
  have e : (l.drop a).take (b - a) = (l.drop a).take (m - a) ++ (l.drop m).take (b - m) := by
    have : l.drop m = (l.drop a).drop (m - a) := by rw [List.drop_drop]; congr 1; omega
    rw [this, ← List.take_add]; congr 1; omega
  have e2 := cut3 l (show a ≤ b by omega)
  rw [e, List.append_assoc] at e2
  have l1 : ((l.drop a).take (m - a)).length = m - a := List.length_take_of_le (by rw [List.length_drop]; omega)
  have l2 : ((l.drop m).take (b - m)).length = b - m := List.length_take_of_le (by rw [List.length_drop]; omega)
  have l0 : (l.take a).length = a := List.length_take_of_le (by omega)
  have := sym_c _ base W g cap n a m b (l.take a) ((l.drop a).take (m - a)) ((l.drop m).take (b - m)) (l.drop b) (Nat.le_refl _) (by rw [← e2]; exact hR) (by rw [← e2]; exact hn) l0.symm (by omega) (by omega) (by omega) (by omega) h1 h2 h9
  unfold upd
  rw [e]
  exact this

set_option maxRecDepth 100000 in
set_option maxHeartbeats 400000 in
theorem stable_c (base : Nat) (W : World) (g cap n : Nat) (l : List Pr) (hR : Rw base 70 W g cap l) (hn : n = l.length) (h9 : n ≤ 1000000000) :
    Calls Tryz.prog 94 #[.slice (some ⟨g, 0, none⟩) n cap, .int .i64 n, cmpV] W fun e w' => e = .returned (.tuple #[]) ∧ Rw base 70 w' g cap (ssort l) ∧ W.grownBy w' (some g) := by
  have HA : Hid (_ ∧ _) := Lib.hid ⟨hR, hn⟩
  clear hR hn
  go_enter Tryz.func94, Tryz.ntmps94
  repeat' go_step
  go_loopg [7, 8] n (fun gk va vb wr => ∃ a b : Nat, va = .int .i64 a ∧ vb = .int .i64 b ∧ b = a + 20 ∧ a ≤ n ∧ n - a ≤ gk ∧ Hid (∃ t l', a = t * 20 ∧ Rw base 70 wr g cap l' ∧ W.grownBy wr (some g) ∧ n = l'.length ∧ Stb l l' ∧ Firsts t l'))
  case atStart =>
    obtain ⟨hR, hn⟩ := HA.out
    exact ⟨0, 20, rfl, rfl, rfl, Nat.zero_le _, by omega, Lib.hid ⟨0, l, rfl, hR, World.grownBy.refl _ _, hn, Stb.refl _, fun c hc => by omega⟩⟩
  case round =>
    obtain ⟨a, b, rfl, rfl, hab, han, hgk, HR⟩ := hrel
    obtain ⟨t, l', ht, hRw, hG, hl, hst, hF⟩ := HR.out
    have HB := Lib.hid hab
    have HK : Hid (_ ∧ _ ∧ _ ∧ _ ∧ _ ∧ _) := Lib.hid ⟨ht, hRw, hG, hl, hst, hF⟩
    by_cases hle : b ≤ n
    · have d1 : decide (b ≤ n) = true := by simp [hle]
      have HC := Lib.hid (ins_c base wr g cap n a b l' hRw hl (by omega) hle h9)
      have hba : a + 20 ≤ b := by omega
      clear ht hRw hG hl hst hF hab
      repeat' (first | (go_at_call 116; refine HC.out.mono ?_; rintro e w1 ⟨rfl, H1⟩; replace H1 := Lib.hid H1; go_simp) | go_step)
      go_roundg (n - b)
      case measure => omega
      case rel =>
        obtain ⟨ht, hRw, hG, hl, hst, hF⟩ := HK.out
        exact ⟨b, b + 20, rfl, by go_num, rfl, hle, Nat.le_refl _, Lib.hid ⟨t + 1, upd l' a b, by have := HB.out; omega, H1.out.1, hG.trans H1.out.2, by rw [upd_length (by omega) (by omega)]; exact hl, hst.trans (upd_stb (by omega)), hF.step ht HB.out (by omega)⟩⟩
    · have d1 : decide (b ≤ n) = false := by simp; omega
      have HC := Lib.hid (ins_c base wr g cap n a n l' hRw hl han (Nat.le_refl _) h9)
      obtain ⟨l2, hl2⟩ : ∃ l2, l2 = upd l' a n := ⟨_, rfl⟩
      have hCh : Chunks 20 l2 := by rw [hl2, hl]; exact hF.finish ht (by omega) (by omega)
      have hS2 : Stb l l2 := by rw [hl2]; exact hst.trans (upd_stb (by omega))
      have hL2 : n = l2.length := by rw [hl2, upd_length (by omega) (by omega)]; exact hl
      have HD : Hid (_ ∧ _ ∧ _ ∧ _ ∧ _) := Lib.hid ⟨hCh, hS2, hL2, hl2, hG⟩
      clear ht hRw hG hl hst hF hab hCh hS2 hL2 hl2
      repeat' (first | (go_at_call 116; refine HC.out.mono ?_; rintro e w1 ⟨rfl, H1⟩; replace H1 := Lib.hid H1; go_simp) | go_step)
      go_loopg [6] n (fun gk vs wr => ∃ bs : Nat, vs = .int .i64 bs ∧ 0 < bs ∧ bs ≤ 2000000000 ∧ n - bs ≤ gk ∧ Hid (∃ l', Rw base 70 wr g cap l' ∧ W.grownBy wr (some g) ∧ n = l'.length ∧ Stb l l' ∧ Chunks bs l'))
      case atStart =>
        obtain ⟨hCh, hS2, hL2, hl2, hG⟩ := HD.out
        exact ⟨20, rfl, by omega, by omega, by omega, Lib.hid ⟨l2, by rw [hl2]; exact H1.out.1, hG.trans H1.out.2, hL2, hS2, hCh⟩⟩
      case round =>
        obtain ⟨bs, rfl, hb0, hb9, hgk2, HR2⟩ := hrel
        obtain ⟨l3, hR3, hG3, hl3, hs3, hC3⟩ := HR2.out
        by_cases hlt : bs < n
        · have d2 : decide (bs < n) = true := by simp [hlt]
          have HK3 : Hid (_ ∧ _ ∧ _ ∧ _ ∧ _) := Lib.hid ⟨hR3, hG3, hl3, hs3, hC3⟩
          obtain ⟨b2, hb2⟩ : ∃ b2, b2 = 2 * bs := ⟨_, rfl⟩
          have hm1 : 2 * (bs : Int) = (b2 : Int) := by omega
          have hm2 : (bs : Int) * 2 = (b2 : Int) := by omega
          have HB2 := Lib.hid hb2
          have hb2a : b2 ≤ 2000000000 := by omega
          have hb2b : bs < b2 := by omega
          clear hR3 hG3 hl3 hs3 hC3 hb2
          repeat' go_step
          obtain ⟨wo, rfl⟩ : ∃ wo : World, wo = wr := ⟨_, rfl⟩
          go_loopg [7, 8] n (fun gk va vb wr => ∃ a b : Nat, va = .int .i64 a ∧ vb = .int .i64 b ∧ b = a + b2 ∧ a ≤ n ∧ n - a ≤ gk ∧ Hid (∃ t l', a = t * (2 * bs) ∧ Rw base 70 wr g cap l' ∧ W.grownBy wr (some g) ∧ n = l'.length ∧ Stb l l' ∧ Merged bs t l'))
          case atStart =>
            obtain ⟨hR3, hG3, hl3, hs3, hC3⟩ := HK3.out
            exact ⟨0, b2, rfl, rfl, by omega, Nat.zero_le _, by omega, Lib.hid ⟨0, l3, by simp, hR3, hG3, hl3, hs3, Merged.zero hC3⟩⟩
          case round =>
            obtain ⟨a, b, rfl, rfl, hab, han, hgk, HR⟩ := hrel
            obtain ⟨wo', rfl⟩ : ∃ wo' : World, wo' = wr := ⟨_, rfl⟩
            obtain ⟨t, l', ht, hRw, hG, hl, hst, hM⟩ := HR.out
            have HB := Lib.hid hab
            have HK : Hid (_ ∧ _ ∧ _ ∧ _ ∧ _ ∧ _) := Lib.hid ⟨ht, hRw, hG, hl, hst, hM⟩
            obtain ⟨m, hm⟩ : ∃ m, m = a + bs := ⟨_, rfl⟩
            have hm3 : (a : Int) + (bs : Int) = (m : Int) := by omega
            have hm4 : (b : Int) + (b2 : Int) = ((b + b2 : Nat) : Int) := by omega
            have hL := hM.left ht
            by_cases hle : b ≤ n
            · have d3 : decide (b ≤ n) = true := by simp [hle]
              have HC := Lib.hid (mrg_c base wo' g cap n a m b l' hRw hl (by omega) (by have := HB2.out; omega) hle (by rw [hm, show a + bs - a = bs by omega]; exact hL.1) (by rw [hm, show b - (a + bs) = bs by have := HB2.out; omega]; exact hL.2) h9)
              have hba : a + 2 ≤ b := by omega
              have HM4 := Lib.hid hm4
              clear ht hRw hG hl hst hM hab hm hm4 hL
              repeat' (first | (go_at_call 117; refine HC.out.mono ?_; rintro e w2 ⟨rfl, H2⟩; replace H2 := Lib.hid H2; go_simp) | go_step)
              go_roundg (n - b)
              case measure => omega
              case rel =>
                obtain ⟨ht, hRw, hG, hl, hst, hM⟩ := HK.out
                exact ⟨b, b + b2, rfl, by rw [← HM4.out], rfl, hle, Nat.le_refl _, Lib.hid ⟨t + 1, upd l' a b, by have := HB.out; have := HB2.out; rw [Nat.succ_mul]; omega, H2.out.1, hG.trans H2.out.2, by rw [upd_length (by omega) (by omega)]; exact hl, hst.trans (upd_stb (by omega)), hM.step ht (by have := HB.out; have := HB2.out; omega) (by omega)⟩⟩
            · have d3 : decide (b ≤ n) = false := by simp; omega
              by_cases hmn : m < n
              · have d4 : decide (m < n) = true := by simp [hmn]
                have HC := Lib.hid (mrg_c base wo' g cap n a m n l' hRw hl (by omega) hmn (Nat.le_refl _) (by rw [hm, show a + bs - a = bs by omega]; exact hL.1)
                  (by have := HB2.out; rw [hm]; rw [List.take_of_length_le (by rw [List.length_drop]; omega)]; have h2 := hL.2; rw [List.take_of_length_le (by rw [List.length_drop]; omega)] at h2; exact h2) h9)
                have HF := Lib.hid (show Chunks (2 * bs) (upd l' a n) by rw [hl]; exact hM.finish ht (by omega) (by have := HB2.out; omega))
                clear ht hRw hG hl hst hM hab hm hm4 hL
                repeat' (first | (go_at_call 117; refine HC.out.mono ?_; rintro e w2 ⟨rfl, H2⟩; replace H2 := Lib.hid H2; go_simp) | go_step)
                go_roundg (n - b2)
                case measure => omega
                case rel =>
                  obtain ⟨ht, hRw, hG, hl, hst, hM⟩ := HK.out
                  exact ⟨b2, rfl, by omega, by omega, Nat.le_refl _, Lib.hid ⟨upd l' a n, H2.out.1, hG.trans H2.out.2, by rw [upd_length (by omega) (by omega)]; exact hl, hst.trans (upd_stb (by omega)), by rw [HB2.out]; exact HF.out⟩⟩
              · have d4 : decide (m < n) = false := by simp; omega
                have HF := Lib.hid (show Chunks (2 * bs) l' from hM.finish' ht (by omega))
                clear ht hRw hG hl hst hM hab hm hm4 hL
                repeat' go_step
                go_roundg (n - b2)
                case measure => omega
                case rel =>
                  obtain ⟨ht, hRw, hG, hl, hst, hM⟩ := HK.out
                  exact ⟨b2, rfl, by omega, by omega, Nat.le_refl _, Lib.hid ⟨l', hRw, hG, hl, hst, by rw [HB2.out]; exact HF.out⟩⟩
        · have d2 : decide (bs < n) = false := by simp; omega
          have HZ := Lib.hid (hC3.done (l0 := l) (by omega) hs3)
          clear hR3 hG3 hl3 hs3 hC3
          repeat' go_step
          obtain ⟨l3', hR3, hG3, hl3, hs3, hC3⟩ := HR2.out
          refine bodyPost_end (results_none rfl _ _ _) rfl ⟨rfl, ?_, hG3⟩
          rw [← hC3.done (l0 := l) (by omega) hs3]
          exact hR3
end Go.Proofs.YtigoffdehdobiaaGreat
