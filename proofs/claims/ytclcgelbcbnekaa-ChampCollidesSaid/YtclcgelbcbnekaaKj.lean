/- Contracts: two neighbouring sorted runs become one. -/
import Derived.Test.YtclcgelbcbnekaaCa1
import Derived.Test.YtclcgelbcbnekaaKi
import Derived.Deep.DeepCutAuto
set_option linter.unusedVariables false
set_option linter.unusedSimpArgs false
namespace Go.Proofs.Ytclcgelbcbnekaa.Pch
open Go.RowKit Go.QS
set_option linter.unusedVariables false


set_option maxRecDepth 100000 in
set_option maxHeartbeats 1000000 in
theorem sym_gen_neg (N : Nat) (IH : Hid (SymSaid N)) (base : Nat) (W : World) (g cap n a m b : Nat) (P A B S : List Pr) (hN : A.length + B.length ≤ N + 1) (hR : Rw base 36 W g cap (P ++ (A ++ (B ++ S)))) (hn : n = (P ++ (A ++ (B ++ S))).length) (ha : a = P.length) (hm : m = P.length + A.length) (hb : b = P.length + A.length + B.length)
    (hA2 : 2 ≤ A.length) (hB2 : 2 ≤ B.length) (hA : Srt A) (hB : Srt B) (h9 : n ≤ 1000000000) (hmm : ¬ (a + b) / 2 < m) :
    Calls Try.prog 170 #[.slice (some ⟨g, 0, none⟩) n cap, .int .i64 a, .int .i64 m, .int .i64 b, cmpV] W fun e w' => e = .returned (.tuple #[]) ∧ Rw base 36 w' g cap (P ++ (ssort (A ++ B) ++ S)) ∧ W.grownBy w' (some g) := by
  have hbn : b ≤ n := by subst hn hb; simp; omega
  have hmb : m + 2 ≤ b := by omega
  have ham : a + 2 ≤ m := by omega
  have t0 : (((m : Int) - (a : Int)) == 1) = false := by rw [beq_eq_false_iff_ne]; omega
  have t1 : (((b : Int) - (m : Int)) == 1) = false := by rw [beq_eq_false_iff_ne]; omega
  obtain ⟨mid, hmid⟩ : ∃ mid, mid = (a + b) / 2 := ⟨_, rfl⟩
  have hmid1 : ((a : Int) + (b : Int)) / 2 = (mid : Int) := by omega
  obtain ⟨nn, hnn⟩ : ∃ nn, nn = mid + m := ⟨_, rfl⟩
  have hnn1 : (mid : Int) + (m : Int) = (nn : Int) := by omega
  obtain ⟨p, hp⟩ : ∃ p, p = nn - 1 := ⟨_, rfl⟩
  have hp1 : (nn : Int) - 1 = (p : Int) := by omega
  have hmid2 : mid ≤ b := by omega
  have hnn2 : nn ≤ b + m := by omega
  have hp2 : p < nn := by omega
  obtain ⟨st, rr, hst1, hst2, hst3, hst4, hst5, hst6, hst7⟩ : ∃ st rr : Nat, (m > mid → st + b = nn ∧ rr = mid) ∧ (m ≤ mid → st = a ∧ rr = m) ∧ a ≤ st ∧ st ≤ rr ∧ rr ≤ m ∧ m + rr ≤ nn ∧ nn ≤ b + st := by
    by_cases h : m > mid
    · exact ⟨nn - b, mid, by omega, by omega, by omega, by omega, by omega, by omega, by omega⟩
    · exact ⟨a, m, by omega, by omega, by omega, by omega, by omega, by omega, by omega⟩
  have HA : Hid (_ ∧ _ ∧ _ ∧ _ ∧ _ ∧ _ ∧ _ ∧ _ ∧ _ ∧ _ ∧ _ ∧ _) := Lib.hid ⟨hR, hn, ha, hm, hb, hA, hB, hmid, hnn, hp, hst1, hst2⟩
  rw [← hmid] at hmm
  first
  | (have d0 : decide (mid < m) = true := by simp; omega)
  | (have d0 : decide (mid < m) = false := by simp; omega)
  first
  | (have hst8 : (nn : Int) - (b : Int) = (st : Int) := by omega)
  | (have hst8 : True := trivial)
  clear hR hn ha hb hm hA hB hmid hnn hp hst1 hst2
  go_enter Try.func170, Try.ntmps170
  repeat' go_step
  go_loopg [20, 21] (rr - st) (fun gk vi vj wr => ∃ s r : Nat, vi = .int .i64 s ∧ vj = .int .i64 r ∧ st ≤ s ∧ s ≤ r ∧ r ≤ rr ∧ r - s ≤ gk ∧ Ext W wr ∧
    Hid ((∀ c x y, st ≤ c → c < s → A[c - a]? = some x → B[p - c - m]? = some y → ¬ y.1 < x.1) ∧ (∀ c x y, r ≤ c → c < rr → A[c - a]? = some x → B[p - c - m]? = some y → y.1 < x.1)))
  case atStart => as_aux_lemma =>
    obtain ⟨hR, hn, ha, hm, hb, hA, hB, hmid, hnn, hp, hst1, hst2⟩ := HA.out
    have e : (st = a ∧ rr = m) ∨ (rr = mid) := by omega
    first
    | exact ⟨st, mid, rfl, rfl, by omega, by omega, by omega, by omega, Ext.refl _, Lib.hid ⟨fun c _ _ h1 h2 => by omega, fun c _ _ h1 h2 => by omega⟩⟩
    | exact ⟨a, m, rfl, rfl, by omega, by omega, by omega, by omega, Ext.refl _, Lib.hid ⟨fun c _ _ h1 h2 => by omega, fun c _ _ h1 h2 => by omega⟩⟩
  case round =>
    obtain ⟨s, r, rfl, rfl, hs1, hs2, hs3, hgk, hE, HI⟩ := hrel
    rcases Nat.lt_or_ge s r with hlt | hge
    · as_aux_lemma =>
      have d1 : decide (s < r) = true := by simp; omega
      obtain ⟨hR, hn, ha, hm, hb, hA, hB, hmid, hnn, hp, hst1, hst2⟩ := HA.out
      obtain ⟨c, hc⟩ : ∃ c, c = (s + r) / 2 := ⟨_, rfl⟩
      have hc1 : ((s : Int) + (r : Int)) / 2 = (c : Int) := by omega
      obtain ⟨q, hq⟩ : ∃ q, q = p - c := ⟨_, rfl⟩
      have hq1 : IntKind.i64.wrap ((p : Int) - (c : Int)) = (q : Int) := by rw [show (p : Int) - (c : Int) = (q : Int) by omega]; exact IntWalk.i64_in _ (by omega)
      have hsc : s ≤ c := by omega
      have hcr : c < r := by omega
      obtain ⟨x, hx⟩ := get_of_lt A (show c - a < A.length by omega)
      obtain ⟨y, hy⟩ := get_of_lt B (show q - m < B.length by omega)
      have hRx := hR.ext hE
      obtain ⟨hx1, hx2⟩ := hRx.get (i := c) (p := x) (by rw [List.getElem?_append_right (by omega), List.getElem?_append_left (by omega), ← ha]; exact hx)
      obtain ⟨hy1, hy2⟩ := hRx.get (i := q) (p := y) (by
        rw [List.getElem?_append_right (by omega), List.getElem?_append_right (by omega), List.getElem?_append_left (by omega), show q - P.length - A.length = q - m by omega]; exact hy)
      have hi1 : (c : Int) < (n : Int) := by omega
      have hi2 : (q : Int) < (n : Int) := by omega
      have HH : Hid (_ ∧ _ ∧ _ ∧ _) := Lib.hid ⟨hc, hq, hx, hy⟩
      clear hR hn ha hb hm hA hB hmid hnn hp hst1 hst2 hc hq hx hy hRx
      repeat' go_step
      go_still_tail 11, (by kernel_rfl)
      change wpList _ _ _ _ _ wr.drew
      repeat' (first | go_skip | go_guarded | go_step)
      refine (less_c _ y x).mono ?_
      rintro e w1 ⟨rfl, hb1⟩
      have hE1 : Ext W w1 := hE.drew.trans (hb1.mono hE.size)
      by_cases hlt : y.1 < x.1
      · have hc : decide (cmpB y.1 x.1 < 0) = true := by simp [cmpB_neg, hlt]
        go_simp
        repeat' go_step
        go_roundg (c - s)
        case measure => omega
        case rel =>
          obtain ⟨hR, hn, ha, hm, hb, hA, hB, hmid, hnn, hp, hst1, hst2⟩ := HA.out
          obtain ⟨hc, hq, hx, hy⟩ := HH.out
          refine ⟨s, c, rfl, rfl, by omega, by omega, by omega, Nat.le_refl _, hE1, Lib.hid ⟨HI.out.1, fun c' x' y' h1 h2 h3 h4 => ?_⟩⟩
          exact Srt.above_lt hA hx h3 (by omega) (Srt.below_lt hB h4 hy (by omega) hlt)
      · have hc : decide (cmpB y.1 x.1 < 0) = false := by simp [cmpB_neg, hlt]
        go_simp
        repeat' go_step
        go_roundg (r - (c + 1))
        case measure => omega
        case rel =>
          obtain ⟨hR, hn, ha, hm, hb, hA, hB, hmid, hnn, hp, hst1, hst2⟩ := HA.out
          obtain ⟨hc, hq, hx, hy⟩ := HH.out
          refine ⟨c + 1, r, by go_num, rfl, by omega, by omega, by omega, Nat.le_refl _, hE1, Lib.hid ⟨fun c' x' y' h1 h2 h3 h4 => ?_, HI.out.2⟩⟩
          exact Srt.above_nlt hB hy h4 (by omega) (Srt.below_nlt hA h3 hx (by omega) hlt)
    · obtain rfl : s = r := by omega
      have d1 : decide (s < s) = false := by simp
      obtain ⟨hR, hn, ha, hm, hb, hA, hB, hmid, hnn, hp, hst1, hst2⟩ := HA.out
      obtain ⟨e, he⟩ : ∃ e, e = nn - s := ⟨_, rfl⟩
      have he1 : (nn : Int) - (s : Int) = (e : Int) := by omega
      have hme : m ≤ e := by omega
      have heb : e ≤ b := by omega
      have has : a ≤ s := by omega
      have hsm : s ≤ m := by omega
      obtain ⟨A1, hA1⟩ : ∃ A1, A1 = A.take (s - a) := ⟨_, rfl⟩
      obtain ⟨A2, hA2⟩ : ∃ A2, A2 = A.drop (s - a) := ⟨_, rfl⟩
      obtain ⟨B1, hB1⟩ : ∃ B1, B1 = B.take (e - m) := ⟨_, rfl⟩
      obtain ⟨B2, hB2⟩ : ∃ B2, B2 = B.drop (e - m) := ⟨_, rfl⟩
      have eA : A = A1 ++ A2 := by rw [hA1, hA2, List.take_append_drop]
      have eB : B = B1 ++ B2 := by rw [hB1, hB2, List.take_append_drop]
      have lA1 : A1.length = s - a := by rw [hA1]; exact List.length_take_of_le (by omega)
      have lA2 : A2.length = m - s := by rw [hA2, List.length_drop]; omega
      have lB1 : B1.length = e - m := by rw [hB1]; exact List.length_take_of_le (by omega)
      have lB2 : B2.length = b - e := by rw [hB2, List.length_drop]; omega
      have F1 : ∀ x ∈ A1, ∀ y ∈ B2, ¬ y.1 < x.1 := by
        intro x hx y hy
        rw [hA1] at hx; rw [hB2] at hy
        obtain ⟨i, hi, hx⟩ := mem_take_get hx
        obtain ⟨j, hj, hy⟩ := mem_drop_get hy
        have hjl := (List.getElem?_eq_some_iff.1 hy).1
        obtain ⟨x', hx'⟩ := get_of_lt A (show s - 1 - a < A.length by omega)
        obtain ⟨y', hy'⟩ := get_of_lt B (show e - m < B.length by omega)
        have := HI.out.1 (s - 1) x' y' (by omega) (by omega) hx' (by rw [show p - (s - 1) - m = e - m by omega]; exact hy')
        exact Srt.above_nlt hB hy' hy hj (Srt.below_nlt hA hx hx' (by omega) this)
      have F2 : ∀ x ∈ A2, ∀ y ∈ B1, y.1 < x.1 := by
        intro x hx y hy
        rw [hA2] at hx; rw [hB1] at hy
        obtain ⟨i, hi, hx⟩ := mem_drop_get hx
        obtain ⟨j, hj, hy⟩ := mem_take_get hy
        have hil := (List.getElem?_eq_some_iff.1 hx).1
        obtain ⟨x', hx'⟩ := get_of_lt A (show s - a < A.length by omega)
        obtain ⟨y', hy'⟩ := get_of_lt B (show e - 1 - m < B.length by omega)
        have := HI.out.2 s x' y' (by omega) (by omega) hx' (by rw [show p - s - m = e - 1 - m by omega]; exact hy')
        exact Srt.above_lt hA hx' hx hi (Srt.below_lt hB hy hy' (by omega) this)
      have hmid3 : mid = a + (A1.length + B1.length) := by omega
      have hRw := hR.ext hE
      have hGw : W.grownBy wr (some g) := grown_ext hE
      rw [eA] at hA; rw [eB] at hB; rw [eA, eB] at hRw
      have hnl : n = P.length + (A1.length + (A2.length + (B1.length + (B2.length + S.length)))) := by rw [hn, eA, eB]; simp
      have HH : Hid (_ ∧ _ ∧ _ ∧ _ ∧ _ ∧ _ ∧ _ ∧ _ ∧ _ ∧ _ ∧ _ ∧ _ ∧ _ ∧ _ ∧ _ ∧ _ ∧ _ ∧ _) := Lib.hid ⟨hRw, hGw, hA, hB, F1, F2, eA, eB, lA1, lA2, lB1, lB2, hmid3, hn, ha, hm, hb, hnl⟩
      clear hR hn ha hb hm hA hB hmid hnn hp hst1 hst2 he hA1 hA2 hB1 hB2 eA eB lA1 lA2 lB1 lB2 F1 F2 hmid3 hRw hGw hnl HI
      repeat' (go_not_at_region 39; go_step)
      go_cut [185] (fun v wx => ∃ bb : Bool, v = .bool bb ∧ Hid (bb = true ↔ (s < m ∧ m < e)) ∧ Hid (wx = wr))
      case first => as_aux_lemma =>
        by_cases c1 : s < m
        · by_cases c2 : m < e
          · have d1 : decide (s < m) = true := by simp [c1]
            have d2 : decide (m < e) = true := by simp [c2]
            repeat' (first | go_skip | go_guarded | go_step)
            go_meet
            exact ⟨true, rfl, Lib.hid (by simp [c1, c2]), Lib.hid rfl⟩
          · have d1 : decide (s < m) = true := by simp [c1]
            have d2 : decide (m < e) = false := by simp; omega
            repeat' (first | go_skip | go_guarded | go_step)
            go_meet
            exact ⟨false, rfl, Lib.hid (by simp; omega), Lib.hid rfl⟩
        · have d1 : decide (s < m) = false := by simp; omega
          repeat' (first | go_skip | go_guarded | go_step)
          go_meet
          exact ⟨false, rfl, Lib.hid (by simp; omega), Lib.hid rfl⟩
      case rest =>
        obtain ⟨bb, rfl, hbb, HX⟩ := hcut
        obtain rfl := HX.out
        repeat' (go_not_at_if 185; go_step)
        go_cut [] (fun wx => Hid (Rw base 36 wx g cap (P ++ (A1 ++ (B1 ++ (A2 ++ (B2 ++ S))))) ∧ W.grownBy wx (some g)))
        case first => as_aux_lemma =>
          obtain ⟨hRw, hGw, hA, hB, F1, F2, eA, eB, lA1, lA2, lB1, lB2, hmid3, hn, ha, hm, hb, hnl⟩ := HH.out
          cases bb with
          | true => as_aux_lemma =>
            obtain ⟨c1, c2⟩ := hbb.out.1 rfl
            have HC := Lib.hid (rotate_c base wc cmpV g cap n s m e (P ++ A1) A2 B1 (B2 ++ S) (by simpa using hRw) (by rw [hnl]; simp) (by simp; omega) (by simp; omega) (by simp; omega) (by omega) (by omega) h9)
            clear hRw hGw hA hB F1 F2 eA eB lA1 lA2 lB1 lB2 hmid3 hn ha hm hb hnl
            repeat' (first | (go_at_call 180; refine HC.out.mono ?_; rintro e w1 ⟨rfl, H1⟩; replace H1 := Lib.hid H1; go_simp) | go_step)
            go_meet
            exact Lib.hid ⟨by simpa using H1.out.1, HH.out.2.1.trans H1.out.2⟩
          | false => as_aux_lemma =>
            have hno : A2 = [] ∨ B1 = [] := by
              by_cases c1 : s < m
              · have : ¬ m < e := fun c2 => by simpa using hbb.out.2 ⟨c1, c2⟩
                exact .inr (List.eq_nil_of_length_eq_zero (by omega))
              · exact .inl (List.eq_nil_of_length_eq_zero (by omega))
            clear hRw hGw hA hB F1 F2 eA eB lA1 lA2 lB1 lB2 hmid3 hn ha hm hb hnl
            have HN := Lib.hid hno
            clear hno
            repeat' go_step
            go_meet
            refine Lib.hid ⟨?_, HH.out.2.1⟩
            have := HH.out.1
            rcases HN.out with h | h <;> rw [h] at this ⊢ <;> simpa using this
        case rest =>
          replace HX := hcut
          repeat' (go_not_at_region 41; go_step)
          go_cut [199] (fun v wx => ∃ bb : Bool, v = .bool bb ∧ Hid (bb = true ↔ (a < s ∧ s < mid)) ∧ Hid (Rw base 36 wx g cap (P ++ (A1 ++ (B1 ++ (A2 ++ (B2 ++ S))))) ∧ W.grownBy wx (some g)))
          case first => as_aux_lemma =>
            by_cases c1 : a < s
            · by_cases c2 : s < mid
              · have d1 : decide (a < s) = true := by simp [c1]
                have d2 : decide (s < mid) = true := by simp [c2]
                repeat' (first | go_skip | go_guarded | go_step)
                go_meet
                exact ⟨true, rfl, Lib.hid (by simp [c1, c2]), HX⟩
              · have d1 : decide (a < s) = true := by simp [c1]
                have d2 : decide (s < mid) = false := by simp; omega
                repeat' (first | go_skip | go_guarded | go_step)
                go_meet
                exact ⟨false, rfl, Lib.hid (by simp; omega), HX⟩
            · have d1 : decide (a < s) = false := by simp; omega
              repeat' (first | go_skip | go_guarded | go_step)
              go_meet
              exact ⟨false, rfl, Lib.hid (by simp; omega), HX⟩
          case rest =>
            obtain ⟨bb, rfl, hbb, HX⟩ := hcut
            repeat' (go_not_at_if 199; go_step)
            go_cut [] (fun wx => Hid (Rw base 36 wx g cap (P ++ (ssort (A1 ++ B1) ++ (A2 ++ (B2 ++ S)))) ∧ W.grownBy wx (some g)))
            case first => as_aux_lemma =>
              obtain ⟨hRw, hGw, hA, hB, F1, F2, eA, eB, lA1, lA2, lB1, lB2, hmid3, hn, ha, hm, hb, hnl⟩ := HH.out
              cases bb with
              | true => as_aux_lemma =>
                obtain ⟨c1, c2⟩ := hbb.out.1 rfl
                have HC := Lib.hid (IH.out base wc g cap n a s mid P A1 B1 (A2 ++ (B2 ++ S)) (by omega) (by simpa using HX.out.1) (by rw [hnl]; simp; omega) ha (by omega) (by omega) (by omega) (by omega) (srt_append.1 hA).1 (srt_append.1 hB).1 h9)
                clear hRw hGw hA hB F1 F2 eA eB lA1 lA2 lB1 lB2 hmid3 hn ha hm hb hnl
                repeat' (first | (go_at_call 170; refine HC.out.mono ?_; rintro e w1 ⟨rfl, H1⟩; replace H1 := Lib.hid H1; go_simp) | go_step)
                go_meet
                exact Lib.hid ⟨by simpa using H1.out.1, HX.out.2.trans H1.out.2⟩
              | false => as_aux_lemma =>
                have hno : A1 = [] ∨ B1 = [] := by
                  by_cases c1 : a < s
                  · have : ¬ s < mid := fun c2 => by simpa using hbb.out.2 ⟨c1, c2⟩
                    exact .inr (List.eq_nil_of_length_eq_zero (by omega))
                  · exact .inl (List.eq_nil_of_length_eq_zero (by omega))
                have e1 := Srt.app_nil_left (srt_append.1 hA).1 (srt_append.1 hB).1 hno
                clear hRw hGw hA hB F1 F2 eA eB lA1 lA2 lB1 lB2 hmid3 hn ha hm hb hnl hno
                have HN := Lib.hid e1
                clear e1
                repeat' go_step
                go_meet
                refine Lib.hid ⟨?_, HX.out.2⟩
                rw [HN.out]
                simpa using HX.out.1
            case rest =>
              replace HX := hcut
              repeat' (go_not_at_region 43; go_step)
              go_cut [213] (fun v wx => ∃ bb : Bool, v = .bool bb ∧ Hid (bb = true ↔ (mid < e ∧ e < b)) ∧ Hid (Rw base 36 wx g cap (P ++ (ssort (A1 ++ B1) ++ (A2 ++ (B2 ++ S)))) ∧ W.grownBy wx (some g)))
              case first => as_aux_lemma =>
                by_cases c1 : mid < e
                · by_cases c2 : e < b
                  · have d1 : decide (mid < e) = true := by simp [c1]
                    have d2 : decide (e < b) = true := by simp [c2]
                    repeat' (first | go_skip | go_guarded | go_step)
                    go_meet
                    exact ⟨true, rfl, Lib.hid (by simp [c1, c2]), HX⟩
                  · have d1 : decide (mid < e) = true := by simp [c1]
                    have d2 : decide (e < b) = false := by simp; omega
                    repeat' (first | go_skip | go_guarded | go_step)
                    go_meet
                    exact ⟨false, rfl, Lib.hid (by simp; omega), HX⟩
                · have d1 : decide (mid < e) = false := by simp; omega
                  repeat' (first | go_skip | go_guarded | go_step)
                  go_meet
                  exact ⟨false, rfl, Lib.hid (by simp; omega), HX⟩
              case rest =>
                obtain ⟨bb, rfl, hbb, HX⟩ := hcut
                obtain ⟨hRw, hGw, hA, hB, F1, F2, eA, eB, lA1, lA2, lB1, lB2, hmid3, hn, ha, hm, hb, hnl⟩ := HH.out
                have hH := ssort_halves hA hB F1 F2
                cases bb with
                | true => as_aux_lemma =>
                  obtain ⟨c1, c2⟩ := hbb.out.1 rfl
                  have HC := Lib.hid (IH.out base wc g cap n mid e b (P ++ ssort (A1 ++ B1)) A2 B2 S (by omega) (by simpa using HX.out.1) (by rw [hnl]; simp [ssort_length]; omega) (by simp [ssort_length]; omega) (by simp [ssort_length]; omega) (by simp [ssort_length]; omega) (by omega) (by omega) (srt_append.1 hA).2.1 (srt_append.1 hB).2.1 h9)
                  clear hRw hGw hA hB F1 F2 lA1 lA2 lB1 lB2 hmid3 hn ha hm hb hnl
                  have HE := Lib.hid eA; have HF := Lib.hid eB; have HG := Lib.hid hH
                  clear eA eB hH
                  repeat' (first | (go_at_call 170; refine HC.out.mono ?_; rintro e w1 ⟨rfl, H1⟩; replace H1 := Lib.hid H1; go_simp) | go_step)
                  refine bodyPost_end (results_none rfl _ _ _) rfl ⟨rfl, ?_, HX.out.2.trans H1.out.2⟩
                  rw [HE.out, HF.out, ← HG.out]
                  simpa using H1.out.1
                | false => as_aux_lemma =>
                  have hno : A2 = [] ∨ B2 = [] := by
                    by_cases c1 : mid < e
                    · have : ¬ e < b := fun c2 => by simpa using hbb.out.2 ⟨c1, c2⟩
                      exact .inr (List.eq_nil_of_length_eq_zero (by omega))
                    · exact .inl (List.eq_nil_of_length_eq_zero (by omega))
                  have e1 := Srt.app_nil_left (srt_append.1 hA).2.1 (srt_append.1 hB).2.1 hno
                  clear hRw hGw hA hB F1 F2 lA1 lA2 lB1 lB2 hmid3 hn ha hm hb hnl hno
                  have HE := Lib.hid eA; have HF := Lib.hid eB; have HG := Lib.hid hH; have HN := Lib.hid e1
                  clear eA eB hH e1
                  repeat' go_step
                  refine bodyPost_end (results_none rfl _ _ _) rfl ⟨rfl, ?_, HX.out.2⟩
                  rw [HE.out, HF.out, ← HG.out, HN.out]
                  simpa using HX.out.1

theorem sym_c : ∀ N, SymSaid N
  | 0 => fun base W g cap n a m b P A B S hN _ _ _ _ _ hA _ _ _ _ => by omega
  | N + 1 => by
    intro base W g cap n a m b P A B S hN hR hn ha hm hb hA0 hB0 hA hB h9
    by_cases h1 : A.length = 1
    · match A, h1 with
      | [x], _ =>
        exact sym_one base W g cap n a m b P B S x (by simpa using hR) (by simpa using hn) ha (by simpa using hm) (by simpa using hb) hB h9
    · by_cases h2 : B.length = 1
      · match B, h2 with
        | [y], _ =>
          exact sym_last base W g cap n a m b P A S y (by simpa using hR) (by simpa using hn) ha hm (by simpa using hb) h1 hA h9
      · by_cases hmm : (a + b) / 2 < m
        · exact sym_gen_pos N (Lib.hid (sym_c N)) base W g cap n a m b P A B S hN hR hn ha hm hb (by omega) (by omega) hA hB h9 hmm
        · exact sym_gen_neg N (Lib.hid (sym_c N)) base W g cap n a m b P A B S hN hR hn ha hm hb (by omega) (by omega) hA hB h9 hmm
end Go.Proofs.Ytclcgelbcbnekaa.Pch