/- Texts joined. -/
import Derived.Test.YtbmakajadelckaaM29
import Derived.Test.YtbmakajadelckaaKi
import Derived.Deep.DeepCutAuto
import Derived.Test.YtbmakajadelckaaM07
import Derived.Test.YtbmakajadelckaaM06
set_option linter.unusedVariables false
set_option linter.unusedSimpArgs false
/- Contracts: two neighbouring sorted runs become one. -/
namespace Go.Proofs.Ytbmakajadelckaa.Pch
open Go.RowKit Go.QS
set_option linter.unusedVariables false


set_option maxRecDepth 100000 in
set_option maxHeartbeats 1000000 in
theorem sym_gen_neg (N : Nat) (IH : Hid (SymSaid N)) (base : Nat) (W : World) (g cap n a m b : Nat) (P A B S : List Pr) (hN : A.length + B.length ≤ N + 1) (hR : Rw base 40 W g cap (P ++ (A ++ (B ++ S)))) (hn : n = (P ++ (A ++ (B ++ S))).length) (ha : a = P.length) (hm : m = P.length + A.length) (hb : b = P.length + A.length + B.length)
    (hA2 : 2 ≤ A.length) (hB2 : 2 ≤ B.length) (hA : Srt A) (hB : Srt B) (h9 : n ≤ 1000000000) (hmm : ¬ (a + b) / 2 < m) :
    Calls Try.prog 122 #[.slice (some ⟨g, 0, none⟩) n cap, .int .i64 a, .int .i64 m, .int .i64 b, cmpV] W fun e w' => e = .returned (.tuple #[]) ∧ Rw base 40 w' g cap (P ++ (ssort (A ++ B) ++ S)) ∧ W.grownBy w' (some g) := by
  have hbn : b ≤ n := by subst hn hb; simp; omega
  have hmb : m + 2 ≤ b := by omega
  have ham : a + 2 ≤ m := by omega
  have t0 : (((m : Int) - (a : Int)) == 1) = false := by rw [beq_eq_false_iff_ne]; omega
  have t1 : (((b : Int) - (m : Int)) == 1) = false := by rw [beq_eq_false_iff_ne]; omega
  obtain ⟨mid, hmid⟩ : ∃ mid, mid = (a + b) / 2 := ⟨_, rfl⟩
  have hmid1 : ((a : Int) + (b : Int)) / 2 = (mid : Int) := by omega
  obtain ⟨nn, hnn⟩ : ∃ nn, nn = mid + m := ⟨_, rfl⟩
  have hnn1 : (mid : Int) + (m : Int) = (nn : Int) := by omega
  obtain ⟨p, hp⟩ : ∃ p, p = nn - 1 := ⟨_, rfl⟩
  have hp1 : (nn : Int) - 1 = (p : Int) := by omega
  have hmid2 : mid ≤ b := by omega
  have hnn2 : nn ≤ b + m := by omega
  have hp2 : p < nn := by omega
  obtain ⟨st, rr, hst1, hst2, hst3, hst4, hst5, hst6, hst7⟩ : ∃ st rr : Nat, (m > mid → st + b = nn ∧ rr = mid) ∧ (m ≤ mid → st = a ∧ rr = m) ∧ a ≤ st ∧ st ≤ rr ∧ rr ≤ m ∧ m + rr ≤ nn ∧ nn ≤ b + st := by
    by_cases h : m > mid
    · exact ⟨nn - b, mid, by omega, by omega, by omega, by omega, by omega, by omega, by omega⟩
    · exact ⟨a, m, by omega, by omega, by omega, by omega, by omega, by omega, by omega⟩
  have HA : Hid (_ ∧ _ ∧ _ ∧ _ ∧ _ ∧ _ ∧ _ ∧ _ ∧ _ ∧ _ ∧ _ ∧ _) := Lib.hid ⟨hR, hn, ha, hm, hb, hA, hB, hmid, hnn, hp, hst1, hst2⟩
  rw [← hmid] at hmm
  first
  | (have d0 : decide (mid < m) = true := by simp; omega)
  | (have d0 : decide (mid < m) = false := by simp; omega)
  first
  | (have hst8 : (nn : Int) - (b : Int) = (st : Int) := by omega)
  | (have hst8 : True := trivial)
  clear hR hn ha hb hm hA hB hmid hnn hp hst1 hst2
  go_enter Try.func122, Try.ntmps122
  repeat' go_step
  go_loopg [20, 21] (rr - st) (fun gk vi vj wr => ∃ s r : Nat, vi = .int .i64 s ∧ vj = .int .i64 r ∧ st ≤ s ∧ s ≤ r ∧ r ≤ rr ∧ r - s ≤ gk ∧ Ext W wr ∧
    Hid ((∀ c x y, st ≤ c → c < s → A[c - a]? = some x → B[p - c - m]? = some y → ¬ y.1 < x.1) ∧ (∀ c x y, r ≤ c → c < rr → A[c - a]? = some x → B[p - c - m]? = some y → y.1 < x.1)))
  case atStart => as_aux_lemma =>
    obtain ⟨hR, hn, ha, hm, hb, hA, hB, hmid, hnn, hp, hst1, hst2⟩ := HA.out
    have e : (st = a ∧ rr = m) ∨ (rr = mid) := by omega
    first
    | exact ⟨st, mid, rfl, rfl, by omega, by omega, by omega, by omega, Ext.refl _, Lib.hid ⟨fun c _ _ h1 h2 => by omega, fun c _ _ h1 h2 => by omega⟩⟩
    | exact ⟨a, m, rfl, rfl, by omega, by omega, by omega, by omega, Ext.refl _, Lib.hid ⟨fun c _ _ h1 h2 => by omega, fun c _ _ h1 h2 => by omega⟩⟩
  case round =>
    obtain ⟨s, r, rfl, rfl, hs1, hs2, hs3, hgk, hE, HI⟩ := hrel
    rcases Nat.lt_or_ge s r with hlt | hge
    · as_aux_lemma =>
      have d1 : decide (s < r) = true := by simp; omega
      obtain ⟨hR, hn, ha, hm, hb, hA, hB, hmid, hnn, hp, hst1, hst2⟩ := HA.out
      obtain ⟨c, hc⟩ : ∃ c, c = (s + r) / 2 := ⟨_, rfl⟩
      have hc1 : ((s : Int) + (r : Int)) / 2 = (c : Int) := by omega
      obtain ⟨q, hq⟩ : ∃ q, q = p - c := ⟨_, rfl⟩
      have hq1 : IntKind.i64.wrap ((p : Int) - (c : Int)) = (q : Int) := by rw [show (p : Int) - (c : Int) = (q : Int) by omega]; exact IntWalk.i64_in _ (by omega)
      have hsc : s ≤ c := by omega
      have hcr : c < r := by omega
      obtain ⟨x, hx⟩ := get_of_lt A (show c - a < A.length by omega)
      obtain ⟨y, hy⟩ := get_of_lt B (show q - m < B.length by omega)
      have hRx := hR.ext hE
      obtain ⟨hx1, hx2⟩ := hRx.get (i := c) (p := x) (by rw [List.getElem?_append_right (by omega), List.getElem?_append_left (by omega), ← ha]; exact hx)
      obtain ⟨hy1, hy2⟩ := hRx.get (i := q) (p := y) (by
        rw [List.getElem?_append_right (by omega), List.getElem?_append_right (by omega), List.getElem?_append_left (by omega), show q - P.length - A.length = q - m by omega]; exact hy)
      have hi1 : (c : Int) < (n : Int) := by omega
      have hi2 : (q : Int) < (n : Int) := by omega
      have HH : Hid (_ ∧ _ ∧ _ ∧ _) := Lib.hid ⟨hc, hq, hx, hy⟩
      clear hR hn ha hb hm hA hB hmid hnn hp hst1 hst2 hc hq hx hy hRx
      repeat' go_step
      go_still_tail 11, (by kernel_rfl)
      change wpList _ _ _ _ _ wr.drew
      repeat' (first | go_skip | go_guarded | go_step)
      refine (less_c _ y x).mono ?_
      rintro e w1 ⟨rfl, hb1⟩
      have hE1 : Ext W w1 := hE.drew.trans (hb1.mono hE.size)
      by_cases hlt : y.1 < x.1
      · have hc : decide (cmpB y.1 x.1 < 0) = true := by simp [cmpB_neg, hlt]
        go_simp
        repeat' go_step
        go_roundg (c - s)
        case measure => omega
        case rel =>
          obtain ⟨hR, hn, ha, hm, hb, hA, hB, hmid, hnn, hp, hst1, hst2⟩ := HA.out
          obtain ⟨hc, hq, hx, hy⟩ := HH.out
          refine ⟨s, c, rfl, rfl, by omega, by omega, by omega, Nat.le_refl _, hE1, Lib.hid ⟨HI.out.1, fun c' x' y' h1 h2 h3 h4 => ?_⟩⟩
          exact Srt.above_lt hA hx h3 (by omega) (Srt.below_lt hB h4 hy (by omega) hlt)
      · have hc : decide (cmpB y.1 x.1 < 0) = false := by simp [cmpB_neg, hlt]
        go_simp
        repeat' go_step
        go_roundg (r - (c + 1))
        case measure => omega
        case rel =>
          obtain ⟨hR, hn, ha, hm, hb, hA, hB, hmid, hnn, hp, hst1, hst2⟩ := HA.out
          obtain ⟨hc, hq, hx, hy⟩ := HH.out
          refine ⟨c + 1, r, by go_num, rfl, by omega, by omega, by omega, Nat.le_refl _, hE1, Lib.hid ⟨fun c' x' y' h1 h2 h3 h4 => ?_, HI.out.2⟩⟩
          exact Srt.above_nlt hB hy h4 (by omega) (Srt.below_nlt hA h3 hx (by omega) hlt)
    · obtain rfl : s = r := by omega
      have d1 : decide (s < s) = false := by simp
      obtain ⟨hR, hn, ha, hm, hb, hA, hB, hmid, hnn, hp, hst1, hst2⟩ := HA.out
      obtain ⟨e, he⟩ : ∃ e, e = nn - s := ⟨_, rfl⟩
      have he1 : (nn : Int) - (s : Int) = (e : Int) := by omega
      have hme : m ≤ e := by omega
      have heb : e ≤ b := by omega
      have has : a ≤ s := by omega
      have hsm : s ≤ m := by omega
      obtain ⟨A1, hA1⟩ : ∃ A1, A1 = A.take (s - a) := ⟨_, rfl⟩
      obtain ⟨A2, hA2⟩ : ∃ A2, A2 = A.drop (s - a) := ⟨_, rfl⟩
      obtain ⟨B1, hB1⟩ : ∃ B1, B1 = B.take (e - m) := ⟨_, rfl⟩
      obtain ⟨B2, hB2⟩ : ∃ B2, B2 = B.drop (e - m) := ⟨_, rfl⟩
      have eA : A = A1 ++ A2 := by rw [hA1, hA2, List.take_append_drop]
      have eB : B = B1 ++ B2 := by rw [hB1, hB2, List.take_append_drop]
      have lA1 : A1.length = s - a := by rw [hA1]; exact List.length_take_of_le (by omega)
      have lA2 : A2.length = m - s := by rw [hA2, List.length_drop]; omega
      have lB1 : B1.length = e - m := by rw [hB1]; exact List.length_take_of_le (by omega)
      have lB2 : B2.length = b - e := by rw [hB2, List.length_drop]; omega
      have F1 : ∀ x ∈ A1, ∀ y ∈ B2, ¬ y.1 < x.1 := by
        intro x hx y hy
        rw [hA1] at hx; rw [hB2] at hy
        obtain ⟨i, hi, hx⟩ := mem_take_get hx
        obtain ⟨j, hj, hy⟩ := mem_drop_get hy
        have hjl := (List.getElem?_eq_some_iff.1 hy).1
        obtain ⟨x', hx'⟩ := get_of_lt A (show s - 1 - a < A.length by omega)
        obtain ⟨y', hy'⟩ := get_of_lt B (show e - m < B.length by omega)
        have := HI.out.1 (s - 1) x' y' (by omega) (by omega) hx' (by rw [show p - (s - 1) - m = e - m by omega]; exact hy')
        exact Srt.above_nlt hB hy' hy hj (Srt.below_nlt hA hx hx' (by omega) this)
      have F2 : ∀ x ∈ A2, ∀ y ∈ B1, y.1 < x.1 := by
        intro x hx y hy
        rw [hA2] at hx; rw [hB1] at hy
        obtain ⟨i, hi, hx⟩ := mem_drop_get hx
        obtain ⟨j, hj, hy⟩ := mem_take_get hy
        have hil := (List.getElem?_eq_some_iff.1 hx).1
        obtain ⟨x', hx'⟩ := get_of_lt A (show s - a < A.length by omega)
        obtain ⟨y', hy'⟩ := get_of_lt B (show e - 1 - m < B.length by omega)
        have := HI.out.2 s x' y' (by omega) (by omega) hx' (by rw [show p - s - m = e - 1 - m by omega]; exact hy')
        exact Srt.above_lt hA hx' hx hi (Srt.below_lt hB hy hy' (by omega) this)
      have hmid3 : mid = a + (A1.length + B1.length) := by omega
      have hRw := hR.ext hE
      have hGw : W.grownBy wr (some g) := grown_ext hE
      rw [eA] at hA; rw [eB] at hB; rw [eA, eB] at hRw
      have hnl : n = P.length + (A1.length + (A2.length + (B1.length + (B2.length + S.length)))) := by rw [hn, eA, eB]; simp
      have HH : Hid (_ ∧ _ ∧ _ ∧ _ ∧ _ ∧ _ ∧ _ ∧ _ ∧ _ ∧ _ ∧ _ ∧ _ ∧ _ ∧ _ ∧ _ ∧ _ ∧ _ ∧ _) := Lib.hid ⟨hRw, hGw, hA, hB, F1, F2, eA, eB, lA1, lA2, lB1, lB2, hmid3, hn, ha, hm, hb, hnl⟩
      clear hR hn ha hb hm hA hB hmid hnn hp hst1 hst2 he hA1 hA2 hB1 hB2 eA eB lA1 lA2 lB1 lB2 F1 F2 hmid3 hRw hGw hnl HI
      repeat' (go_not_at_region 39; go_step)
      go_cut [185] (fun v wx => ∃ bb : Bool, v = .bool bb ∧ Hid (bb = true ↔ (s < m ∧ m < e)) ∧ Hid (wx = wr))
      case first => as_aux_lemma =>
        by_cases c1 : s < m
        · by_cases c2 : m < e
          · have d1 : decide (s < m) = true := by simp [c1]
            have d2 : decide (m < e) = true := by simp [c2]
            repeat' (first | go_skip | go_guarded | go_step)
            go_meet
            exact ⟨true, rfl, Lib.hid (by simp [c1, c2]), Lib.hid rfl⟩
          · have d1 : decide (s < m) = true := by simp [c1]
            have d2 : decide (m < e) = false := by simp; omega
            repeat' (first | go_skip | go_guarded | go_step)
            go_meet
            exact ⟨false, rfl, Lib.hid (by simp; omega), Lib.hid rfl⟩
        · have d1 : decide (s < m) = false := by simp; omega
          repeat' (first | go_skip | go_guarded | go_step)
          go_meet
          exact ⟨false, rfl, Lib.hid (by simp; omega), Lib.hid rfl⟩
      case rest =>
        obtain ⟨bb, rfl, hbb, HX⟩ := hcut
        obtain rfl := HX.out
        repeat' (go_not_at_if 185; go_step)
        go_cut [] (fun wx => Hid (Rw base 40 wx g cap (P ++ (A1 ++ (B1 ++ (A2 ++ (B2 ++ S))))) ∧ W.grownBy wx (some g)))
        case first => as_aux_lemma =>
          obtain ⟨hRw, hGw, hA, hB, F1, F2, eA, eB, lA1, lA2, lB1, lB2, hmid3, hn, ha, hm, hb, hnl⟩ := HH.out
          cases bb with
          | true => as_aux_lemma =>
            obtain ⟨c1, c2⟩ := hbb.out.1 rfl
            have HC := Lib.hid (rotate_c base wc cmpV g cap n s m e (P ++ A1) A2 B1 (B2 ++ S) (by simpa using hRw) (by rw [hnl]; simp) (by simp; omega) (by simp; omega) (by simp; omega) (by omega) (by omega) h9)
            clear hRw hGw hA hB F1 F2 eA eB lA1 lA2 lB1 lB2 hmid3 hn ha hm hb hnl
            repeat' (first | (go_at_call 136; refine HC.out.mono ?_; rintro e w1 ⟨rfl, H1⟩; replace H1 := Lib.hid H1; go_simp) | go_step)
            go_meet
            exact Lib.hid ⟨by simpa using H1.out.1, HH.out.2.1.trans H1.out.2⟩
          | false => as_aux_lemma =>
            have hno : A2 = [] ∨ B1 = [] := by
              by_cases c1 : s < m
              · have : ¬ m < e := fun c2 => by simpa using hbb.out.2 ⟨c1, c2⟩
                exact .inr (List.eq_nil_of_length_eq_zero (by omega))
              · exact .inl (List.eq_nil_of_length_eq_zero (by omega))
            clear hRw hGw hA hB F1 F2 eA eB lA1 lA2 lB1 lB2 hmid3 hn ha hm hb hnl
            have HN := Lib.hid hno
            clear hno
            repeat' go_step
            go_meet
            refine Lib.hid ⟨?_, HH.out.2.1⟩
            have := HH.out.1
            rcases HN.out with h | h <;> rw [h] at this ⊢ <;> simpa using this
        case rest =>
          replace HX := hcut
          repeat' (go_not_at_region 41; go_step)
          go_cut [199] (fun v wx => ∃ bb : Bool, v = .bool bb ∧ Hid (bb = true ↔ (a < s ∧ s < mid)) ∧ Hid (Rw base 40 wx g cap (P ++ (A1 ++ (B1 ++ (A2 ++ (B2 ++ S))))) ∧ W.grownBy wx (some g)))
          case first => as_aux_lemma =>
            by_cases c1 : a < s
            · by_cases c2 : s < mid
              · have d1 : decide (a < s) = true := by simp [c1]
                have d2 : decide (s < mid) = true := by simp [c2]
                repeat' (first | go_skip | go_guarded | go_step)
                go_meet
                exact ⟨true, rfl, Lib.hid (by simp [c1, c2]), HX⟩
              · have d1 : decide (a < s) = true := by simp [c1]
                have d2 : decide (s < mid) = false := by simp; omega
                repeat' (first | go_skip | go_guarded | go_step)
                go_meet
                exact ⟨false, rfl, Lib.hid (by simp; omega), HX⟩
            · have d1 : decide (a < s) = false := by simp; omega
              repeat' (first | go_skip | go_guarded | go_step)
              go_meet
              exact ⟨false, rfl, Lib.hid (by simp; omega), HX⟩
          case rest =>
            obtain ⟨bb, rfl, hbb, HX⟩ := hcut
            repeat' (go_not_at_if 199; go_step)
            go_cut [] (fun wx => Hid (Rw base 40 wx g cap (P ++ (ssort (A1 ++ B1) ++ (A2 ++ (B2 ++ S)))) ∧ W.grownBy wx (some g)))
            case first => as_aux_lemma =>
              obtain ⟨hRw, hGw, hA, hB, F1, F2, eA, eB, lA1, lA2, lB1, lB2, hmid3, hn, ha, hm, hb, hnl⟩ := HH.out
              cases bb with
              | true => as_aux_lemma =>
                obtain ⟨c1, c2⟩ := hbb.out.1 rfl
                have HC := Lib.hid (IH.out base wc g cap n a s mid P A1 B1 (A2 ++ (B2 ++ S)) (by omega) (by simpa using HX.out.1) (by rw [hnl]; simp; omega) ha (by omega) (by omega) (by omega) (by omega) (srt_append.1 hA).1 (srt_append.1 hB).1 h9)
                clear hRw hGw hA hB F1 F2 eA eB lA1 lA2 lB1 lB2 hmid3 hn ha hm hb hnl
                repeat' (first | (go_at_call 122; refine HC.out.mono ?_; rintro e w1 ⟨rfl, H1⟩; replace H1 := Lib.hid H1; go_simp) | go_step)
                go_meet
                exact Lib.hid ⟨by simpa using H1.out.1, HX.out.2.trans H1.out.2⟩
              | false => as_aux_lemma =>
                have hno : A1 = [] ∨ B1 = [] := by
                  by_cases c1 : a < s
                  · have : ¬ s < mid := fun c2 => by simpa using hbb.out.2 ⟨c1, c2⟩
                    exact .inr (List.eq_nil_of_length_eq_zero (by omega))
                  · exact .inl (List.eq_nil_of_length_eq_zero (by omega))
                have e1 := Srt.app_nil_left (srt_append.1 hA).1 (srt_append.1 hB).1 hno
                clear hRw hGw hA hB F1 F2 eA eB lA1 lA2 lB1 lB2 hmid3 hn ha hm hb hnl hno
                have HN := Lib.hid e1
                clear e1
                repeat' go_step
                go_meet
                refine Lib.hid ⟨?_, HX.out.2⟩
                rw [HN.out]
                simpa using HX.out.1
            case rest =>
              replace HX := hcut
              repeat' (go_not_at_region 43; go_step)
              go_cut [213] (fun v wx => ∃ bb : Bool, v = .bool bb ∧ Hid (bb = true ↔ (mid < e ∧ e < b)) ∧ Hid (Rw base 40 wx g cap (P ++ (ssort (A1 ++ B1) ++ (A2 ++ (B2 ++ S)))) ∧ W.grownBy wx (some g)))
              case first => as_aux_lemma =>
                by_cases c1 : mid < e
                · by_cases c2 : e < b
                  · have d1 : decide (mid < e) = true := by simp [c1]
                    have d2 : decide (e < b) = true := by simp [c2]
                    repeat' (first | go_skip | go_guarded | go_step)
                    go_meet
                    exact ⟨true, rfl, Lib.hid (by simp [c1, c2]), HX⟩
                  · have d1 : decide (mid < e) = true := by simp [c1]
                    have d2 : decide (e < b) = false := by simp; omega
                    repeat' (first | go_skip | go_guarded | go_step)
                    go_meet
                    exact ⟨false, rfl, Lib.hid (by simp; omega), HX⟩
                · have d1 : decide (mid < e) = false := by simp; omega
                  repeat' (first | go_skip | go_guarded | go_step)
                  go_meet
                  exact ⟨false, rfl, Lib.hid (by simp; omega), HX⟩
              case rest =>
                obtain ⟨bb, rfl, hbb, HX⟩ := hcut
                obtain ⟨hRw, hGw, hA, hB, F1, F2, eA, eB, lA1, lA2, lB1, lB2, hmid3, hn, ha, hm, hb, hnl⟩ := HH.out
                have hH := ssort_halves hA hB F1 F2
                cases bb with
                | true => as_aux_lemma =>
                  obtain ⟨c1, c2⟩ := hbb.out.1 rfl
                  have HC := Lib.hid (IH.out base wc g cap n mid e b (P ++ ssort (A1 ++ B1)) A2 B2 S (by omega) (by simpa using HX.out.1) (by rw [hnl]; simp [ssort_length]; omega) (by simp [ssort_length]; omega) (by simp [ssort_length]; omega) (by simp [ssort_length]; omega) (by omega) (by omega) (srt_append.1 hA).2.1 (srt_append.1 hB).2.1 h9)
                  clear hRw hGw hA hB F1 F2 lA1 lA2 lB1 lB2 hmid3 hn ha hm hb hnl
                  have HE := Lib.hid eA; have HF := Lib.hid eB; have HG := Lib.hid hH
                  clear eA eB hH
                  repeat' (first | (go_at_call 122; refine HC.out.mono ?_; rintro e w1 ⟨rfl, H1⟩; replace H1 := Lib.hid H1; go_simp) | go_step)
                  refine bodyPost_end (results_none rfl _ _ _) rfl ⟨rfl, ?_, HX.out.2.trans H1.out.2⟩
                  rw [HE.out, HF.out, ← HG.out]
                  simpa using H1.out.1
                | false => as_aux_lemma =>
                  have hno : A2 = [] ∨ B2 = [] := by
                    by_cases c1 : mid < e
                    · have : ¬ e < b := fun c2 => by simpa using hbb.out.2 ⟨c1, c2⟩
                      exact .inr (List.eq_nil_of_length_eq_zero (by omega))
                    · exact .inl (List.eq_nil_of_length_eq_zero (by omega))
                  have e1 := Srt.app_nil_left (srt_append.1 hA).2.1 (srt_append.1 hB).2.1 hno
                  clear hRw hGw hA hB F1 F2 lA1 lA2 lB1 lB2 hmid3 hn ha hm hb hnl hno
                  have HE := Lib.hid eA; have HF := Lib.hid eB; have HG := Lib.hid hH; have HN := Lib.hid e1
                  clear eA eB hH e1
                  repeat' go_step
                  refine bodyPost_end (results_none rfl _ _ _) rfl ⟨rfl, ?_, HX.out.2⟩
                  rw [HE.out, HF.out, ← HG.out, HN.out]
                  simpa using HX.out.1

theorem sym_c : ∀ N, SymSaid N
  | 0 => fun base W g cap n a m b P A B S hN _ _ _ _ _ hA _ _ _ _ => by omega
  | N + 1 => by
    intro base W g cap n a m b P A B S hN hR hn ha hm hb hA0 hB0 hA hB h9
    by_cases h1 : A.length = 1
    · match A, h1 with
      | [x], _ =>
        exact sym_one base W g cap n a m b P B S x (by simpa using hR) (by simpa using hn) ha (by simpa using hm) (by simpa using hb) hB h9
    · by_cases h2 : B.length = 1
      · match B, h2 with
        | [y], _ =>
          exact sym_last base W g cap n a m b P A S y (by simpa using hR) (by simpa using hn) ha hm (by simpa using hb) h1 hA h9
      · by_cases hmm : (a + b) / 2 < m
        · exact sym_gen_pos N (Lib.hid (sym_c N)) base W g cap n a m b P A B S hN hR hn ha hm hb (by omega) (by omega) hA hB h9 hmm
        · exact sym_gen_neg N (Lib.hid (sym_c N)) base W g cap n a m b P A B S hN hR hn ha hm hb (by omega) (by omega) hA hB h9 hmm
end Go.Proofs.Ytbmakajadelckaa.Pch/- Contracts: sorting in place. -/
namespace Go.Proofs.Ytbmakajadelckaa.Pch
open Go.RowKit Go.QS
set_option linter.unusedVariables false

abbrev cmpD : Value := .func (.func 75) #[] #[]

set_option maxRecDepth 100000 in
set_option maxHeartbeats 400000 in
theorem insertion_c (base : Nat) (W : World) (g cap n a b : Nat) (P A S : List Pr) (hR : Rw base 40 W g cap (P ++ (A ++ S))) (hn : n = (P ++ (A ++ S)).length) (ha : a = P.length) (hb : b = P.length + A.length) (h9 : n ≤ 1000000000) :
    Calls Try.prog 121 #[.slice (some ⟨g, 0, none⟩) n cap, .int .i64 a, .int .i64 b, cmpD] W fun e w' => e = .returned (.tuple #[]) ∧ Rw base 40 w' g cap (P ++ (ssort A ++ S)) ∧ W.grownBy w' (some g) := by
  have Hn := Lib.hid hn; have Ha := Lib.hid ha; have Hb := Lib.hid hb
  have hbn : b ≤ n := by subst hn hb; simp
  have hab : a ≤ b := by omega
  have hR' := Lib.hid hR
  clear hn ha hb hR
  go_enter Try.func121, Try.ntmps121
  repeat' go_step
  go_loopw [8] (fun i wr => ∃ m k : Nat, 1 ≤ k ∧ (a + k ≤ b ∨ k = 1) ∧ i = .int .i64 (m : Nat) ∧ Hid (m = a + k) ∧ Hid (Rw base 40 wr g cap (P ++ (ssort (A.take k) ++ (A.drop k ++ S))) ∧ W.grownBy wr (some g))) (fun i _ => b - (intOf i).toNat)
  case atStart => exact ⟨a + 1, 1, Nat.le_refl _, .inr rfl, by go_num, Lib.hid rfl, Lib.hid ⟨by rw [ssort_take_one, ← List.append_assoc (A.take 1), List.take_append_drop]; exact hR'.out, World.grownBy.refl _ _⟩⟩
  case round =>
    obtain ⟨m, k, hk1, hk2, rfl, Hm, HR⟩ := hrel
    by_cases hlt : a + k < b
    · have hd0 : decide (m < b) = true := by have := Hm.out; simp; omega
      have hm9 : m < n := by have := Hm.out; omega
      have hkA : k < A.length := by have := Ha.out; have := Hb.out; omega
      obtain ⟨x, hx⟩ := get_of_lt A hkA
      have HX := Lib.hid hx
      clear hx
      repeat' go_step
      obtain ⟨wo, rfl⟩ : ∃ wo : World, wo = wr := ⟨_, rfl⟩
      go_loopw [9] (fun j wr => ∃ T1 T2 : List Pr, j = .int .i64 (a + T1.length : Nat) ∧ a + T1.length ≤ m ∧ Hid (T1 ++ T2 = ssort (A.take k) ∧ (∀ y ∈ T2, x.1 < y.1) ∧ Rw base 40 wr g cap (P ++ (T1 ++ (x :: T2 ++ (A.drop (k + 1) ++ S)))) ∧ W.grownBy wr (some g))) (fun j _ => (intOf j).toNat)
      case atStart =>
        refine ⟨ssort (A.take k), [], ?_, ?_, Lib.hid ⟨by simp, by simp, ?_, HR.out.2⟩⟩
        · rw [ssort_length, List.length_take_of_le (by omega), Hm.out]
        · rw [ssort_length, List.length_take_of_le (by omega), Hm.out]; omega
        · have := HR.out.1
          rw [List.drop_eq_getElem?_toList_append, HX.out] at this
          simpa using this
      case round =>
        obtain ⟨T1, T2, rfl, hT1, HI⟩ := hrel
        rcases List.eq_nil_or_concat T1 with h0 | ⟨T1', y, h0⟩
        · subst h0
          have hd : decide ((a : Int) < ((a + ([] : List Pr).length : Nat) : Int)) = false := by simp
          repeat' go_step
          go_quiet (fail)
          repeat' go_step
          obtain ⟨HE, H2, HRw, HG⟩ := HI.out
          have hmo := Hm.out
          refine ⟨⟨m + 1, k + 1, by omega, by omega, by go_num, Lib.hid (by omega), Lib.hid ⟨?_, HG.trans (grown_ext (below_drewN (Ext.refl _) _))⟩⟩, by simp [intOf]; omega⟩
          have e1 := ins_done HE.symm H2 (x := x) (by simp)
          rw [← take_snoc HX.out] at e1
          rw [← e1]
          simpa using HRw.drewN _
        · subst h0
          obtain ⟨HE, H2, HRw, HG⟩ := HI.out
          obtain ⟨j, hj⟩ : ∃ j, j = a + T1'.length := ⟨_, rfl⟩
          have hjj : a + (T1'.concat y).length = j + 1 := by subst hj; simp; omega
          rw [hjj] at hT1 ⊢
          obtain ⟨j1, hj1⟩ : ∃ j1, j1 = j + 1 := ⟨_, rfl⟩
          rw [← hj1] at hT1 ⊢
          have hL : P ++ (T1'.concat y ++ (x :: T2 ++ (A.drop (k + 1) ++ S))) = (P ++ T1') ++ (y :: x :: (T2 ++ (A.drop (k + 1) ++ S))) := by simp
          rw [hL] at HRw
          have hPT : (P ++ T1').length = j := by have := Ha.out; simp; omega
          have hy := HRw.get (i := j) (p := y) (by rw [List.getElem?_append_right (by omega), hPT]; simp)
          have hx := HRw.get (i := j1) (p := x) (by rw [List.getElem?_append_right (by omega), hPT, hj1]; simp)
          have HH : Hid (_ ∧ _ ∧ _ ∧ _ ∧ _ ∧ _ ∧ _ ∧ _) := Lib.hid ⟨HE, H2, HRw, HG, hj, hL, hPT, hj1⟩
          have hja : a ≤ j := by omega
          have hjn : j1 < n := by omega
          have hd : decide (a < j1) = true := by simp; omega
          obtain ⟨hy1, hy2⟩ := hy
          obtain ⟨hx1, hx2⟩ := hx
          have hi1 : (j1 : Int) < (n : Int) := by omega
          have hi2 : (j : Int) < (n : Int) := by omega
          have hs : IntKind.i64.wrap ((j1 : Int) - 1) = (j : Int) := by rw [hj1, show ((j + 1 : Nat) : Int) - 1 = (j : Int) by omega]; exact IntWalk.i64_in _ (by omega)
          clear HE H2 HRw HG hj hL hPT hjj HI hj1
          repeat' go_step
          go_still_tail 14, (by kernel_rfl)
          change wpList _ _ _ _ _ wr.drew
          repeat' (first | go_skip | go_guarded | go_step)
          refine (less_c _ x y).mono ?_
          rintro e w1 ⟨rfl, hb1⟩
          obtain ⟨HE, H2, HRw, HG, hj, hL, hPT, hj1⟩ := HH.out
          have HR1 := (HRw.drewN 1).ext hb1
          have HG1 : W.grownBy w1 (some g) := (HG.trans (grown_ext (below_drewN (Ext.refl wr) 1))).trans (grown_ext hb1)
          obtain ⟨hy1, hy2⟩ := HR1.get (i := j) (p := y) (by rw [List.getElem?_append_right (by omega), hPT]; simp)
          obtain ⟨hx1, hx2⟩ := HR1.get (i := j1) (p := x) (by rw [List.getElem?_append_right (by omega), hPT, hj1]; simp)
          have hfz := HR1.free
          have HH' : Hid (_ ∧ _) := Lib.hid ⟨HR1, HG1⟩
          have q1 : j1 ≠ j := by omega
          have q2 : j ≠ j1 := by omega
          have q3 : j1 * 2 + 1 ≠ j * 2 := by omega
          have q4 : j * 2 + 1 ≠ j1 * 2 := by omega
          have q5 : j1 * 2 ≠ j * 2 + 1 := by omega
          have q6 : j * 2 ≠ j1 * 2 + 1 := by omega
          clear HE H2 HRw HG hj hL hPT hj1 HR1 HG1
          by_cases hlt : x.1 < y.1
          · have hc : decide (cmpB x.1 y.1 < 0) = true := by simp [cmpB_neg, hlt]
            go_simp
            repeat' (first | go_skip | go_guarded | go_step)
            go_region
            repeat' (first | go_skip | go_guarded | go_step)
            obtain ⟨HE, H2, HRw, HG, hj, hL, hPT, hj1⟩ := HH.out
            obtain ⟨HR1, HG1⟩ := HH'.out
            refine ⟨?_, ?_⟩
            · refine ⟨T1', y :: T2, by rw [hj], by omega, Lib.hid ⟨?_, ?_, ?_, ?_⟩⟩
              · rw [← HE]; simp
              · intro z hz
                rcases List.mem_cons.1 hz with rfl | hz
                · exact hlt
                · exact H2 z hz
              · have := (HR1.swap j1 y j x).drew
                rw [set_two _ _ _ _ hPT hj1] at this
                simpa using this
              · exact (HG1.trans (grown_swap w1 g _ _ _ _ _ _ _ _)).trans (grown_ext (below_drewN (Ext.refl _) 1))
            · simp [intOf]; omega
          · have hc : decide (cmpB x.1 y.1 < 0) = false := by simp [cmpB_neg, hlt]
            go_simp
            repeat' (first | go_skip | go_guarded | go_step)
            obtain ⟨HE, H2, HRw, HG, hj, hL, hPT, hj1⟩ := HH.out
            obtain ⟨HR1, HG1⟩ := HH'.out
            have hmo := Hm.out
            refine ⟨⟨m + 1, k + 1, by omega, by omega, by go_num, Lib.hid (by omega), Lib.hid ⟨?_, HG1⟩⟩, by simp [intOf]; omega⟩
            have e1 := ins_done HE.symm H2 (x := x) (fun z hz => by
              have hS := ssort_srt (A.take k)
              rw [← HE, srt_append] at hS
              rw [List.concat_eq_append] at hS hz
              rcases List.mem_append.1 hz with hz | hz
              · exact nlt_trans ((srt_append.1 hS.1).2.2 z hz y (by simp)) hlt
              · simp at hz; subst hz; exact hlt)
            rw [← take_snoc HX.out] at e1
            rw [← e1]
            rw [← hL] at HR1
            simpa using HR1
    · have hd0 : decide (m < b) = false := by have := Hm.out; simp; omega
      repeat' go_step
      refine bodyPost_end (results_none rfl _ _ _) rfl ⟨rfl, ?_⟩
      have e : ssort (A.take k) = ssort A ∧ A.drop k = [] := by
        have := Ha.out; have := Hb.out
        have : A.length ≤ k := by omega
        rw [List.take_of_length_le this, List.drop_eq_nil_of_le this]; exact ⟨rfl, rfl⟩
      have := HR.out
      rw [e.1, e.2] at this
      exact this
end Go.Proofs.Ytbmakajadelckaa.Pch