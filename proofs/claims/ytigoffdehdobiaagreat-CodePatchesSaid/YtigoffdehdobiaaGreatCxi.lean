/- Contract: the document's ReadChanges. -/
import Derived.Test.YtigoffdehdobiaaGreatN01
import Derived.Test.YtigoffdehdobiaaGreatCxe
import Derived.Test.YtigoffdehdobiaaGreatM25
set_option linter.unusedVariables false
set_option linter.unusedSimpArgs false
namespace Go.Proofs.YtigoffdehdobiaaGreat
open Go.RowKit Go.QS Go.QS.Nk
set_option linter.unusedVariables false

theorem sText_le {most : Nat} {long : Nat} (hl : 0 < long) (s : St2) : (sText (most : Int) long s).1.length ≤ most := by
  unfold sText
  split
  · split
    · simp
    · split
      · simp
      · split
        · simp
        · rename_i h _
          rw [List.length_take]
          omega
  · simp

set_option maxRecDepth 100000 in
set_option maxHeartbeats 4000000 in
theorem rreadchanges_c (w : World) (vp : Value) (P : List UInt8) (base : Nat) (h : w.ownsRow base 5 1 vp P.length (encB P)) (h9 : P.length ≤ 16777216) :
    Calls Tryz.prog 9 #[vp] w fun x w' => ∃ v, x = .returned (.tuple #[v, .int .i64 ((readP P).2 : Nat)]) ∧ w'.ownsRow w.heap.size RcT 5 v (readP P).1.length (flatE encCh (readP P).1) ∧ Ext w w' := by
  obtain ⟨V, hV⟩ : ∃ V : Nat → Prop, V = fun b => b < w.heap.size := ⟨_, rfl⟩
  have HA := Lib.hid (RefAt.new (V := V) h (by unfold maxLen; omega) (fun b hb => by rw [hV]; exact (World.ownsRow.lt h b hb).2) w (Ext.refl w))
  obtain ⟨A, c, rfl⟩ := own_sliceB h
  obtain ⟨m, hm⟩ : ∃ m, m = P.length := ⟨_, rfl⟩
  rw [← hm] at HA ⊢
  have hm9 : m ≤ 16777216 := by omega
  obtain ⟨R, hR⟩ : ∃ R, R = rdLX isD (P.length + 1) (sNum (P, 0)).1 (sNum (P, 0)).2 [] := ⟨_, rfl⟩
  obtain ⟨T, hT⟩ : ∃ T, T = readP P := ⟨_, rfl⟩
  rw [← hT]
  have HT : Hid (T = if (sEnd R.2).2 = 0 then (if rightL R.1 = 0 then (R.1, 0) else ([], rightL R.1)) else ([], (sEnd R.2).2)) := Lib.hid (by rw [hT, ← readX_same, hR]; rfl)
  have hnum : (sNum (P, 0)).1 < 18446744073709551616 ∧ ((sNum (P, 0)).2.2 = 0 → (sNum (P, 0)).2.1.length < P.length + 1) := by
    unfold sNum
    rw [if_pos rfl]
    cases hn : numA 0 0 P with
    | none => exact ⟨by simp, fun h => by simp⟩
    | some nr =>
      obtain ⟨n, r⟩ := nr
      have := congrArg List.length (numA_iff.1 hn).1
      rw [List.length_append] at this
      exact ⟨numA_lt hn, fun _ => by show r.length < P.length + 1; omega⟩
  have HP := Lib.hid (And.intro hR (And.intro hm hnum))
  have hP9 : P.length ≤ 1000000000 := by omega
  clear hR hT hm hnum h9 h
  go_enter Tryz.func9, Tryz.ntmps9
  repeat' (first | go_at_call 35 | go_skip | go_guarded | go_step)
  obtain ⟨g, hg⟩ : ∃ g, g = w.heap.size := ⟨_, rfl⟩
  obtain ⟨w1, hw1⟩ : ∃ x, x = w.alloc (.cells #[.slice A m c, .int .i64 0, .int .i64 0] RfT) := ⟨_, rfl⟩
  rw [← hw1, ← hg]
  have H1 : Hid (RfSt V g (g + 1) w w1 P (.slice none 0 0) [] (P, 0)) := Lib.hid ⟨by rw [hw1, hg]; exact HA.out, by rw [hw1]; exact (Ext.refl _).alloc (Nat.le_refl _) _, World.ownsRow_nil _ _ _ _, by omega, fun b hb => by rw [hV] at hb; omega, by omega, by rw [hw1, hg]; simp⟩
  obtain ⟨B, hB⟩ : ∃ B, B = g + 1 := ⟨_, rfl⟩
  rw [← hB] at H1
  clear hg hw1 hV hB HA
  refine (rnum_c H1.out.inn hP9).mono ?_
  rintro x w2 ⟨rfl, i2, o2⟩
  have H2 := Lib.hid (H1.out.turn (s' := (sNum (P, 0)).2) i2 o2)
  obtain ⟨n0, hn0⟩ : ∃ n, n = (sNum (P, 0)).1 := ⟨_, rfl⟩
  rw [← hn0]
  have HN0 := Lib.hid hn0
  clear i2 o2 H1 hn0
  go_simp
  repeat' (go_not_at_region 4; (first | go_skip | go_guarded | go_step))
  go_loopg [5, 6] (m + 1) (fun gk v5 v6 wr => ∃ (f n : Nat) (s : St2) (acc : List Ch), v6 = .int .u64 (n : Int) ∧ f ≤ gk ∧ Hid (RfSt V g B w wr P v5 acc s ∧ rdLX isD f n s acc = R ∧ (s.2 = 0 → s.1.length < f) ∧ acc.length + f ≤ m + 1 ∧ n < 18446744073709551616 ∧ ∀ c ∈ acc, c.1.length ≤ 256))
  case atStart => exact ⟨m + 1, n0, (sNum (P, 0)).2, [], rfl, Nat.le_refl _, Lib.hid ⟨H2.out, by rw [HP.out.1, HN0.out, HP.out.2.1], fun h => by rw [HP.out.2.1]; exact HP.out.2.2.2 h, by simp, by rw [HN0.out]; exact HP.out.2.2.1, fun c hc => by cases hc⟩⟩
  case round =>
    obtain ⟨f, n, s, acc, rfl, hgk, HI⟩ := hrel
    obtain ⟨sl, se⟩ := s
    obtain ⟨at', z1, z2, _⟩ := HI.out.1.inn.left
    have hgl := World.block_lt_of_cell? wr _ z2
    simp only at hgl
    repeat' (go_not_at_region 4; go_step)
    go_cut [24] (fun v wx => Hid (v = .bool (decide (¬ (n = 0 ∨ se ≠ 0))) ∧ wx = wr))
    case first =>
      by_cases hn : n = 0
      · have d1 : decide (0 < n) = false := by simp [hn]
        have d2 : ¬ (0 : Int) < (n : Int) := by omega
        have Hn := Lib.hid hn
        clear hn
        repeat' (first | go_skip | go_guarded | go_step)
        go_meet
        exact Lib.hid ⟨by simp [Hn.out], rfl⟩
      · have d1 : decide (0 < n) = true := by simp; omega
        have d2 : (0 : Int) < (n : Int) := by omega
        have Hn := Lib.hid hn
        clear hn
        by_cases he : se = 0
        · have d3 : ((se : Int) == 0) = true := by rw [beq_iff_eq]; omega
          have d3' : (se == 0) = true := by rw [beq_iff_eq]; omega
          have He := Lib.hid he
          clear he
          repeat' (first | go_skip | go_guarded | go_step)
          go_meet
          exact Lib.hid ⟨by simp [Hn.out, He.out], rfl⟩
        · have d3 : ((se : Int) == 0) = false := by rw [beq_eq_false_iff_ne]; omega
          have d3' : (se == 0) = false := by rw [beq_eq_false_iff_ne]; omega
          have He := Lib.hid he
          clear he
          repeat' (first | go_skip | go_guarded | go_step)
          go_meet
          exact Lib.hid ⟨by simp [He.out], rfl⟩
    case rest =>
      obtain ⟨rfl, hwc⟩ := hcut.out
      obtain rfl : wr = wc := hwc.symm
      clear hcut z1 z2 hgl
      by_cases hst : n = 0 ∨ se ≠ 0
      · have hd : decide (¬ (n = 0 ∨ se ≠ 0)) = false := by simp [hst]
        rw [hd]
        have HR : Hid (R = (acc, (sl, se))) := Lib.hid (by rw [← HI.out.2.1, rdL_stop hst])
        have hac : acc.length ≤ m + 1 := by have := HI.out.2.2.2.1; omega
        clear hst hd
        have HEd := Lib.hid (rend_c HI.out.1.inn)
        repeat' (first | go_at_call 39 | go_skip | go_guarded | go_step)
        refine HEd.out.mono ?_
        rintro x w3 ⟨rfl, i3, o3⟩
        have H3 : Hid (Ext w w3 ∧ w3.ownsRow B RcT 5 u5 acc.length (flatE encCh acc)) := Lib.hid ⟨One.ext o3 HI.out.1.ext HI.out.1.new, row_one HI.out.1.row o3 HI.out.1.lt⟩
        have hEE : (sEnd ((sl, se).1, (sl, se).2)).2 = (sEnd R.2).2 := by rw [HR.out]
        obtain ⟨E, hE⟩ : ∃ E, E = (sEnd R.2).2 := ⟨_, rfl⟩
        rw [← hE] at hEE
        rw [hEE]
        have HEE := Lib.hid hE
        clear i3 o3 HEd hE hEE
        by_cases hE0 : E = 0
        · have d1 : ((E : Int) != 0) = false := by rw [bne_eq_false_iff_eq]; omega
          have d2 : ((E : Int) == 0) = true := by rw [beq_iff_eq]; omega
          have HE0 := Lib.hid hE0
          have hwB : w.heap.size ≤ B := by have := HI.out.1.new; have := HI.out.1.lt; omega
          obtain ⟨A5, C5, hv5⟩ := own_slice H3.out.2
          subst hv5
          have HDR := Lib.hid (r17right_c w3 _ acc (Sl.of_own H3.out.2) (by omega) (fun c hc => Nat.le_trans (HI.out.2.2.2.2.2 c hc) (by decide)))
          obtain ⟨K, hK⟩ : ∃ K, K = rightL acc := ⟨_, rfl⟩
          rw [← hK] at HDR
          have HK := Lib.hid hK
          clear hK hE0
          go_simp
          repeat' (first | go_at_call 40 | go_skip | go_guarded | go_step)
          refine HDR.out.mono ?_
          rintro x w4 ⟨rfl, f4⟩
          have H4 := Lib.hid (And.intro (Ext.trans H3.out.1 f4) (own_base (row_ext H3.out.2 f4) hwB))
          clear f4 HDR
          by_cases hK0 : K = 0
          · have d3 : ((K : Int) != 0) = false := by rw [bne_eq_false_iff_eq]; omega
            have d4 : ((K : Int) == 0) = true := by rw [beq_iff_eq]; omega
            have HTT : Hid (T = (acc, 0)) := Lib.hid (by rw [HT.out, ← HEE.out, if_pos HE0.out, HR.out, ← HK.out, if_pos hK0])
            clear hK0
            go_simp
            repeat' (first | go_skip | go_guarded | go_step)
            go_ret2
            rw [HTT.out]
            exact ⟨_, rfl, H4.out.2, H4.out.1⟩
          · have d3 : ((K : Int) != 0) = true := by rw [bne_iff_ne]; omega
            have d4 : ((K : Int) == 0) = false := by rw [beq_eq_false_iff_ne]; omega
            have HTT : Hid (T = ([], K)) := Lib.hid (by rw [HT.out, ← HEE.out, if_pos HE0.out, HR.out, ← HK.out, if_neg hK0])
            clear hK0
            go_simp
            repeat' (first | go_skip | go_guarded | go_step)
            go_ret2
            rw [HTT.out]
            exact ⟨_, rfl, World.ownsRow_nil _ _ _ _, H4.out.1⟩
        · have d1 : ((E : Int) != 0) = true := by rw [bne_iff_ne]; omega
          have d2 : ((E : Int) == 0) = false := by rw [beq_eq_false_iff_ne]; omega
          have HTT : Hid (T = ([], E)) := Lib.hid (by rw [HT.out, ← HEE.out, if_neg hE0])
          clear hE0
          go_simp
          repeat' (first | go_skip | go_guarded | go_step)
          go_ret2
          rw [HTT.out]
          exact ⟨_, rfl, World.ownsRow_nil _ _ _ _, H3.out.1⟩
      · have hd : decide (¬ (n = 0 ∨ se ≠ 0)) = true := by simp only [decide_eq_true_eq]; exact hst
        rw [hd]
        have hf0 : se = 0 ∧ n ≠ 0 := ⟨Decidable.byContradiction fun h => hst (.inr h), fun h => hst (.inl h)⟩
        obtain ⟨f', rfl⟩ : ∃ f', f = f' + 1 := ⟨f - 1, by have := HI.out.2.2.1 hf0.1; omega⟩
        obtain ⟨q, rfl⟩ : ∃ q, n = q + 1 := ⟨n - 1, by omega⟩
        have HS9 : Hid (rdLX isD f' q (rdChD (sl, se)).2 (acc ++ [(rdChD (sl, se)).1]) = R ∧ ((rdChD (sl, se)).2.2 = 0 → (rdChD (sl, se)).2.1.length < f')) := Lib.hid ⟨by rw [← HI.out.2.1, rdL_step hst]; rfl, fun h => by show (rdX isD (sl, se)).2.1.length < f'; have h1 := rdX_less' (.inr rfl) h; have h2 := HI.out.2.2.1 hf0.1; simp only at h1 h2; omega⟩
        have hwq : IntKind.u64.wrap (q : Int) = (q : Int) := by have := HI.out.2.2.2.2.1; rw [IntKind.wrap_u64]; omega
        have hsub : IntKind.u64.wrap (((q + 1 : Nat) : Int) - 1) = (q : Int) := by have := HI.out.2.2.2.2.1; rw [IntKind.wrap_u64]; omega
        have hac : acc.length ≤ m + 1 := by have := HI.out.2.2.2.1; omega
        have HI5 : Hid (acc.length + f' + 1 ≤ m + 1 ∧ q < 18446744073709551616 ∧ ∀ c ∈ acc, c.1.length ≤ 256) := Lib.hid ⟨by have := HI.out.2.2.2.1; omega, by have := HI.out.2.2.2.2.1; omega, HI.out.2.2.2.2.2⟩
        clear hst hd hf0
        repeat' (first | go_at_call 36 | go_skip | go_guarded | go_step)
        refine (rtext_c HI.out.1.inn (by omega) 256 2 (by decide)).mono ?_
        rintro x w3 ⟨rfl, i3, o3⟩
        have H3 := Lib.hid (HI.out.1.turn (s' := (sText 256 2 (sl, se)).2) i3 o3)
        clear i3 o3
        go_simp
        repeat' (go_not_at_region 7; (first | go_skip | go_guarded | go_step))
        obtain ⟨g7, hg7⟩ : ∃ g, g = w3.heap.size := ⟨_, rfl⟩
        rw [← hg7]
        refine wp_nameF (fun w' => RgSt V g B g7 w w' P u5 acc (sText 256 2 (sl, se)).2 ((sText 256 2 (sl, se)).1, [], [], false, false)) ?_ ?_
        · have hE : Ext w3 (w3.alloc (.cells #[str (sText 256 2 (sl, se)).1, str [], str [], .bool false, .bool false] RcT)) := (Ext.refl _).alloc (Nat.le_refl _) _
          exact ⟨⟨H3.out.inn.ext hE, Ext.trans H3.out.ext hE, row_ext H3.out.row hE, H3.out.lt, H3.out.old, H3.out.new, Nat.le_trans H3.out.size hE.size⟩, by rw [hg7]; exact heap_newG w3 _, by rw [hg7]; exact H3.out.size, fun b hb => by have := (World.ownsRow.lt H3.out.row b hb).2; omega⟩
        clear hg7
        intro w4 HS
        have HB := Lib.hid (rbyte_c HS.out.st.inn)
        clear H3
        repeat' (first | go_at_call 37 | go_skip | go_guarded | go_step)
        refine HB.out.mono ?_
        rintro x w5 ⟨rfl, i4, o4⟩
        have HS4 := Lib.hid (HS.out.turn (s' := (sByte (sText 256 2 (sl, se)).2).2) i4 o4)
        clear i4 o4 HB HS
        have hb256 : (sByte (sText 256 2 (sl, se)).2).1 < 256 := by
          unfold sByte
          split
          · rename_i b _ _; exact b.toNat_lt
          · omega
        obtain ⟨b, hb⟩ : ∃ b, b = (sByte (sText 256 2 (sl, se)).2).1 := ⟨_, rfl⟩
        rw [← hb] at hb256 ⊢
        obtain ⟨k, hk⟩ : ∃ k, k = (sText 256 2 (sl, se)).1 := ⟨_, rfl⟩
        rw [← hk] at HS4
        have HRD : Hid (rdChD (sl, se) = rdT b (isD b) k (if b = 0 ∨ 3 < b then sFail 9 (sByte (sText 256 2 (sl, se)).2).2 else (sByte (sText 256 2 (sl, se)).2).2)) := Lib.hid (by rw [hb, hk]; rfl)
        clear hb hk
        by_cases hbad : b = 0 ∨ 3 < b
        · rw [if_pos hbad] at HRD
          have HF := Lib.hid (rfail_c HS4.out.st.inn 9)
          by_cases h0 : b = 0
          · have d0 : (b : Int) < 1 := by omega
            have d0' : b < 1 := by omega
            have Hb0 := Lib.hid h0
            clear h0 hbad
            go_simp
            repeat' (first | go_at_call 38 | go_skip | go_guarded | go_step)
            refine HF.out.mono ?_
            rintro x w5 ⟨rfl, i5, o5⟩
            have HS5 := Lib.hid (HS4.out.turn (s' := sFail 9 (sByte (sText 256 2 (sl, se)).2).2) (by
              have e1 : (sFail 9 (sByte (sText 256 2 (sl, se)).2).2).1 = (sByte (sText 256 2 (sl, se)).2).2.1 := by unfold sFail; split <;> rfl
              rw [e1]; exact i5) o5)
            clear i5 o5 HF HS4
            go_simp
            repeat' (go_not_at_region 10; (first | go_skip | go_guarded | go_step))
            rename_i KK hKK
            refine rround_10 V g B g7 acc.length w _ P u5 acc _ k b hb256 (by omega) (by omega) (Lib.hid rfl) HS5 _ _ KK _ _ _ _ _ _ _ _ _ _ _ _ _ _ _ _ _ _ _ _ _ _ _ _ _ _ _ _ _ _ _ _ _ _ _ _ _ _ _ _ _ _ _ _ _ _ _ _ _ _ _ _ _ _ _ _ _ _ _ _ _ _ _ _ _ _ _ _ _ (by kernel_rfl) (by kernel_rfl) hKK ?_
            intro u5 u40 u41 u42 u43 u44 u45 u46 u47 u48 u49 u50 u51 u52 u53 u54 u55 u56 u57 u58 u59 u60 wx HF
            have HFF := Lib.hid HF
            clear HF
            repeat' (first | go_skip | go_guarded | go_step)
            rw [← HRD.out] at HFF
            go_roundg f'
            case measure => omega
            case rel => exact ⟨f', q, (rdChD (sl, se)).2, acc ++ [(rdChD (sl, se)).1], rfl, Nat.le_refl _, Lib.hid ⟨HFF.out, HS9.out.1, HS9.out.2, by rw [List.length_append]; have := HI5.out.1; simp; omega, HI5.out.2.1, fun c hc => by
              rcases List.mem_append.1 hc with h | h
              · exact HI5.out.2.2 c h
              · rw [List.mem_singleton.1 h]; exact sText_le (by decide) (sl, se)⟩⟩
          · have d0 : ¬ (b : Int) < 1 := by omega
            have d0' : ¬ b < 1 := by omega
            have d1 : (3 : Int) < (b : Int) := by omega
            have d1' : 3 < b := by omega
            clear hbad
            replace h0 := Lib.hid h0
            go_simp
            repeat' (first | go_at_call 38 | go_skip | go_guarded | go_step)
            refine HF.out.mono ?_
            rintro x w5 ⟨rfl, i5, o5⟩
            have HS5 := Lib.hid (HS4.out.turn (s' := sFail 9 (sByte (sText 256 2 (sl, se)).2).2) (by
              have e1 : (sFail 9 (sByte (sText 256 2 (sl, se)).2).2).1 = (sByte (sText 256 2 (sl, se)).2).2.1 := by unfold sFail; split <;> rfl
              rw [e1]; exact i5) o5)
            clear i5 o5 HF HS4
            go_simp
            repeat' (go_not_at_region 10; (first | go_skip | go_guarded | go_step))
            rename_i KK hKK
            refine rround_10 V g B g7 acc.length w _ P u5 acc _ k b hb256 (by omega) (by omega) (Lib.hid rfl) HS5 _ _ KK _ _ _ _ _ _ _ _ _ _ _ _ _ _ _ _ _ _ _ _ _ _ _ _ _ _ _ _ _ _ _ _ _ _ _ _ _ _ _ _ _ _ _ _ _ _ _ _ _ _ _ _ _ _ _ _ _ _ _ _ _ _ _ _ _ _ _ _ _ (by kernel_rfl) (by kernel_rfl) hKK ?_
            intro u5 u40 u41 u42 u43 u44 u45 u46 u47 u48 u49 u50 u51 u52 u53 u54 u55 u56 u57 u58 u59 u60 wx HF
            have HFF := Lib.hid HF
            clear HF
            repeat' (first | go_skip | go_guarded | go_step)
            rw [← HRD.out] at HFF
            go_roundg f'
            case measure => omega
            case rel => exact ⟨f', q, (rdChD (sl, se)).2, acc ++ [(rdChD (sl, se)).1], rfl, Nat.le_refl _, Lib.hid ⟨HFF.out, HS9.out.1, HS9.out.2, by rw [List.length_append]; have := HI5.out.1; simp; omega, HI5.out.2.1, fun c hc => by
              rcases List.mem_append.1 hc with h | h
              · exact HI5.out.2.2 c h
              · rw [List.mem_singleton.1 h]; exact sText_le (by decide) (sl, se)⟩⟩
        · rw [if_neg hbad] at HRD
          have d0 : ¬ (b : Int) < 1 := by omega
          have d0' : ¬ b < 1 := by omega
          have d1 : ¬ (3 : Int) < (b : Int) := by omega
          have d1' : ¬ 3 < b := by omega
          have HS5 := HS4
          clear HS4
          replace hbad := Lib.hid hbad
          go_simp
          repeat' (go_not_at_region 10; (first | go_skip | go_guarded | go_step))
          rename_i KK hKK
          refine rround_10 V g B g7 acc.length w _ P u5 acc _ k b hb256 (by omega) (by omega) (Lib.hid rfl) HS5 _ _ KK _ _ _ _ _ _ _ _ _ _ _ _ _ _ _ _ _ _ _ _ _ _ _ _ _ _ _ _ _ _ _ _ _ _ _ _ _ _ _ _ _ _ _ _ _ _ _ _ _ _ _ _ _ _ _ _ _ _ _ _ _ _ _ _ _ _ _ _ _ (by kernel_rfl) (by kernel_rfl) hKK ?_
          intro u5 u40 u41 u42 u43 u44 u45 u46 u47 u48 u49 u50 u51 u52 u53 u54 u55 u56 u57 u58 u59 u60 wx HF
          have HFF := Lib.hid HF
          clear HF
          repeat' (first | go_skip | go_guarded | go_step)
          rw [← HRD.out] at HFF
          go_roundg f'
          case measure => omega
          case rel => exact ⟨f', q, (rdChD (sl, se)).2, acc ++ [(rdChD (sl, se)).1], rfl, Nat.le_refl _, Lib.hid ⟨HFF.out, HS9.out.1, HS9.out.2, by rw [List.length_append]; have := HI5.out.1; simp; omega, HI5.out.2.1, fun c hc => by
            rcases List.mem_append.1 hc with h | h
            · exact HI5.out.2.2 c h
            · rw [List.mem_singleton.1 h]; exact sText_le (by decide) (sl, se)⟩⟩
end Go.Proofs.YtigoffdehdobiaaGreat
