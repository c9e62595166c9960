/- Contract: the document's Right of a list of changes. -/
import Derived.Test.YtigoffdehdobiaaGreatCxd
import Derived.Test.YtigoffdehdobiaaGreatLs
set_option linter.unusedVariables false
set_option linter.unusedSimpArgs false
namespace Go.Proofs.YtigoffdehdobiaaGreat
open Go.RowKit Go.QS
set_option linter.unusedVariables false

theorem wp_nameR {P : Program} {c : Code} {Q : Exit → Act → World → Prop} {a : Act} {W : World} (R : World → Prop) (hR : R W) (h : ∀ w', Hid (R w') → c.wp P Q a w') : c.wp P Q a W := h W (Lib.hid hR)

set_option maxRecDepth 100000 in
set_option maxHeartbeats 2000000 in
theorem r17right_c (w : World) (v : Value) (l : List Ch) (h : Sl w 5 v l.length (flatE encCh l)) (h9 : l.length ≤ 1000000000) (hk9 : ∀ c ∈ l, c.1.length ≤ 1000000000) :
    Calls Tryz.prog 40 #[v] w fun e w' => e = .returned (.int .i64 (rightL l : Nat)) ∧ Ext w w' := by
  obtain ⟨A, c, rfl, hl, hn, hc, hs⟩ := h
  obtain ⟨n, hn2⟩ : ∃ n, n = l.length := ⟨_, rfl⟩
  rw [← hn2] at h9 hn ⊢
  have Hn := Lib.hid (And.intro hn2 hk9)
  clear hn2 hl hk9
  obtain ⟨R, hR⟩ : ∃ R, R = rightL l := ⟨_, rfl⟩
  rw [← hR]
  have HR := Lib.hid hR
  clear hR
  go_enter Tryz.func40, Tryz.ntmps40
  repeat' (go_not_at_region 2; go_step)
  go_loopg [3] n (fun gk vk wr => ∃ k : Nat, vk = .int .i64 k ∧ k ≤ n ∧ n - k ≤ gk ∧ Ext w wr ∧ Hid (∀ i p q, i < k → l[i]? = some p → l[i + 1]? = some q → p.1 < q.1))
  case atStart => exact ⟨0, rfl, Nat.zero_le _, Nat.le_refl _, Ext.refl _, Lib.hid fun i p q h => by omega⟩
  case round =>
    obtain ⟨k, rfl, hkn, hgk, hb, HI⟩ := hrel
    by_cases hlt : k + 1 < n
    · have d1 : decide ((k : Int) + 1 < (n : Int)) = true := by simp; omega
      have d1' : (k : Int) + 1 < (n : Int) := by omega
      obtain ⟨q, hq⟩ := get_of_lt l (show k + 1 < l.length by have := Hn.out.1; omega)
      obtain ⟨p, hp⟩ := get_of_lt l (show k < l.length by have := Hn.out.1; omega)
      obtain ⟨b, o, rfl, hq1, _⟩ := seg_ch (hs.below hb) hq
      obtain ⟨b', o', hA, hp1, _⟩ := seg_ch (hs.below hb) hp
      simp only [Option.some.injEq, Addr.mk.injEq, and_true] at hA
      obtain ⟨rfl, rfl⟩ := hA
      obtain ⟨k1, hk1⟩ : ∃ k1, k1 = k + 1 := ⟨_, rfl⟩
      rw [← hk1] at hq1
      have hs1 : IntKind.i64.wrap ((k : Int) + 1) = (k1 : Int) := by rw [show (k : Int) + 1 = (k1 : Int) by omega]; exact IntWalk.i64_in _ (by omega)
      have hi1 : (k : Int) < (n : Int) := by omega
      have hi2 : (k1 : Int) < (n : Int) := by omega
      have hi3 : k ≤ 1000000000 := by omega
      have HK : Hid (_ ∧ _ ∧ _) := Lib.hid ⟨hk1, hq, hp⟩
      have HLs := Lib.hid (fun W => less_c' W p.1 q.1 (by have := Hn.out.2 p (List.mem_of_getElem? hp); omega))
      have HS : Hid (∀ y, Ext wr y → y.cell? ⟨b, o + k * 5, none⟩ = some (str p.1) ∧ y.cell? ⟨b, o + k1 * 5, none⟩ = some (str q.1)) := Lib.hid (fun y f => ⟨(World.cell?_of_block (f.block b (World.block_lt_of_cell? wr _ hp1))).trans hp1, (World.cell?_of_block (f.block b (World.block_lt_of_cell? wr _ hq1))).trans hq1⟩)
      clear hq hp hk1
      repeat' (go_not_at_region 4; (first | go_skip | go_guarded | go_step))
      go_cut [30] (fun v wx => Hid (v = .bool (!decide (p.1 < q.1)) ∧ Ext wr wx))
      case first =>
        go_region_held3 (fun y => y.cell? ⟨b, o + k * 5, none⟩ = some (str p.1) ∧ y.cell? ⟨b, o + k1 * 5, none⟩ = some (str q.1))
          (first | exact HS.out _ (below_drewN (Ext.refl _) 1) | exact HS.out _ (Ext.refl _) | exact HS.out _ k1.out)
          (first
            | (go_at_call 56; refine (HLs.out _).mono ?_; rintro e y1 ⟨rfl, f1⟩; have k1 : Hid (Ext wr y1) := Lib.hid (Ext.trans (below_drewN (Ext.refl wr) 1) f1); clear f1))
        all_goals
          repeat' (first | go_skip | go_guarded | go_step)
          go_meet
          exact Lib.hid ⟨rfl, k1.out⟩
      case rest =>
        obtain ⟨rfl, hwc⟩ := hcut.out
        have HW := Lib.hid (Ext.trans hb hwc)
        clear hcut hwc
        by_cases hpq : p.1 < q.1
        · have hd : decide (p.1 < q.1) = true := by simp [hpq]
          have Hp := Lib.hid hpq
          rw [hd]
          clear hpq hd
          repeat' (first | go_skip | go_guarded | go_step)
          go_roundg (n - k1)
          case measure => have := HK.out.1; omega
          case rel =>
            obtain ⟨hk0, hq, hp⟩ := HK.out
            refine ⟨k1, by go_num, by omega, Nat.le_refl _, HW.out, Lib.hid fun i p' q' h h1 h2 => ?_⟩
            by_cases hi : i < k
            · exact HI.out i p' q' hi h1 h2
            · have : i = k := by omega
              subst this
              rw [hp] at h1; rw [hq] at h2
              cases h1; cases h2
              exact Hp.out
        · have hd : decide (p.1 < q.1) = false := by simp [hpq]
          have Hp := Lib.hid hpq
          rw [hd]
          clear hpq hd
          repeat' (first | go_skip | go_guarded | go_step)
          go_ret
          refine ⟨?_, HW.out⟩
          have : riseCh l = false := by
            obtain ⟨hk0, hq, hp⟩ := HK.out
            exact rise_no hp hq Hp.out
          rw [HR.out, rightL_rise this]; rfl
    · have d1 : decide ((k : Int) + 1 < (n : Int)) = false := by simp; omega
      have d1' : ¬ (k : Int) + 1 < (n : Int) := by omega
      have hs1 : IntKind.i64.wrap ((k : Int) + 1) = (k : Int) + 1 := IntWalk.i64_in _ (by omega)
      have HRi : Hid (riseCh l = true) := Lib.hid ((riseCh_iff l).2 fun i p q hp hq => HI.out i p q (by have := (List.getElem?_eq_some_iff.1 hq).1; have := Hn.out.1; omega) hp hq)
      clear hkn hgk HI
      repeat' (go_not_at_region 7; (first | go_skip | go_guarded | go_step))
      go_loopg [33] n (fun gk vk wr => ∃ j : Nat, vk = .int .i64 j ∧ j ≤ n ∧ n - j ≤ gk ∧ Hid (Ext w wr ∧ (l.take j).any badCh = false))
      case atStart => exact ⟨0, rfl, Nat.zero_le _, Nat.le_refl _, Lib.hid ⟨hb, rfl⟩⟩
      case round =>
        obtain ⟨j, rfl, hjn, hgk, HJ⟩ := hrel
        rcases Nat.lt_or_ge j n with hjl | hjg
        · have d2 : decide (j < n) = true := by simp [hjl]
          obtain ⟨x, hx⟩ := get_of_lt l (show j < l.length by have := Hn.out.1; omega)
          obtain ⟨b, o, rfl, q0, q1, q2, q3, q4⟩ := seg_ch (hs.below HJ.out.1) hx
          have hi1 : (j : Int) < (n : Int) := by omega
          have HX : Hid ((l.take (j + 1)).any badCh = badCh x ∧ x ∈ l) := Lib.hid ⟨by rw [take_snoc hx, List.any_append, HJ.out.2]; simp, List.mem_of_getElem? hx⟩
          clear hx
          repeat' (go_not_at_region 9; (first | go_skip | go_guarded | go_step))
          obtain ⟨g, hg⟩ : ∃ g, g = wr.heap.size := ⟨_, rfl⟩
          rw [← hg]
          refine wp_nameR (fun w' => Ext w w' ∧ w'.heap[g]? = some (.cells #[str x.1, str x.2.1, str x.2.2.1, .bool x.2.2.2.1, .bool x.2.2.2.2] RcT (0, 0))) ⟨HJ.out.1.alloc HJ.out.1.size _, by rw [hg]; exact heap_newG wr _⟩ ?_
          clear hg q0 q1 q2 q3 q4
          intro w2 H2
          obtain ⟨e0, e1, e2, e3, e4⟩ := box5C H2.out.2
          obtain ⟨xk, xo, xn, xa, xb⟩ := x
          simp only at e0 e1 e2 e3 e4
          go_cut [79] (fun v wx => Hid (v = .bool (badCh (xk, xo, xn, xa, xb)) ∧ wx = w2))
          case first =>
            cases xa <;> cases xb
            · have e : badCh (xk, xo, xn, false, false) = true := by simp [badCh]
              replace e := Lib.hid e
              repeat' (first | go_skip | go_guarded | go_step)
              go_meet
              exact Lib.hid ⟨by rw [e.out], rfl⟩
            · have e : badCh (xk, xo, xn, false, true) = !xo.isEmpty := by cases xo <;> simp [badCh]
              have en : (xo != []) = !xo.isEmpty := by cases xo <;> simp
              replace e := Lib.hid e
              cases h : xo.isEmpty
              all_goals
                rw [h] at en
                repeat' (first | go_skip | go_guarded | go_step)
                go_meet
                exact Lib.hid ⟨by rw [e.out, h]; try rfl, rfl⟩
            · have e : badCh (xk, xo, xn, true, false) = !xn.isEmpty := by cases xn <;> simp [badCh]
              have en : (xn != []) = !xn.isEmpty := by cases xn <;> simp
              replace e := Lib.hid e
              cases h : xn.isEmpty
              all_goals
                rw [h] at en
                repeat' (first | go_skip | go_guarded | go_step)
                go_meet
                exact Lib.hid ⟨by rw [e.out, h]; try rfl, rfl⟩
            · have e : badCh (xk, xo, xn, true, true) = (xo == xn) := by by_cases h : xo = xn <;> simp [badCh, h]
              replace e := Lib.hid e
              cases h : (xo == xn)
              all_goals
                repeat' (first | go_skip | go_guarded | go_step)
                go_meet
                exact Lib.hid ⟨by rw [e.out, h]; try rfl, rfl⟩
          case rest =>
            obtain ⟨rfl, hwc⟩ := hcut.out
            obtain rfl : w2 = wc := hwc.symm
            clear hcut
            cases hB : badCh (xk, xo, xn, xa, xb) with
            | true =>
              have HA : Hid (l.any badCh = true) := Lib.hid (List.any_eq_true.2 ⟨_, HX.out.2, hB⟩)
              clear hB e0 e1 e2 e3 e4
              repeat' (first | go_skip | go_guarded | go_step)
              go_ret
              rw [HR.out, rightL_bad HRi.out HA.out]
              exact ⟨rfl, H2.out.1⟩
            | false =>
              have HA : Hid ((l.take (j + 1)).any badCh = false) := Lib.hid (by rw [HX.out.1, hB])
              clear hB e0 e1 e2 e3 e4
              repeat' (first | go_skip | go_guarded | go_step)
              go_roundg (n - (j + 1))
              case measure => omega
              case rel => exact ⟨j + 1, by go_num, by omega, Nat.le_refl _, Lib.hid ⟨H2.out.1, HA.out⟩⟩
        · obtain rfl : n = j := by omega
          have d2 : decide (n < n) = false := by simp
          have HB : Hid (l.any badCh = false) := Lib.hid (by
            have := HJ.out.2
            rw [List.take_of_length_le (by have := Hn.out.1; omega)] at this; exact this)
          have hRE : Hid (R = firstE l) := Lib.hid (by rw [HR.out, rightL_err HRi.out HB.out])
          have HE7 := Lib.hid HJ.out.1
          clear HJ hgk hjn hjg
          repeat' (go_not_at_region 13; (first | go_skip | go_guarded | go_step))
          go_loopg [83] n (fun gk vk wr => ∃ j : Nat, vk = .int .i64 j ∧ j ≤ n ∧ n - j ≤ gk ∧ Hid (Ext w wr ∧ R = firstE (l.drop j)))
          case atStart => exact ⟨0, rfl, Nat.zero_le _, Nat.le_refl _, Lib.hid ⟨HE7.out, by rw [hRE.out, List.drop_zero]⟩⟩
          case round =>
            obtain ⟨j, rfl, hjn, hgk, HJ⟩ := hrel
            rcases Nat.lt_or_ge j n with hjl | hjg
            · have d2 : decide (j < n) = true := by simp [hjl]
              obtain ⟨x, hx⟩ := get_of_lt l (show j < l.length by have := Hn.out.1; omega)
              obtain ⟨b, o, rfl, q0, q1, q2, q3, q4⟩ := seg_ch (hs.below HJ.out.1) hx
              have hi1 : (j : Int) < (n : Int) := by omega
              have HX : Hid (R = if errCh x = 0 then firstE (l.drop (j + 1)) else errCh x) := Lib.hid (by rw [HJ.out.2, firstE_take hx])
              have hec := Lib.hid (errCh_cases x)
              clear hx
              repeat' (go_not_at_region 15; (first | go_skip | go_guarded | go_step))
              obtain ⟨g, hg⟩ : ∃ g, g = wr.heap.size := ⟨_, rfl⟩
              rw [← hg]
              refine wp_nameR (fun w' => Ext w w' ∧ w'.heap[g]? = some (.cells #[str x.1, str x.2.1, str x.2.2.1, .bool x.2.2.2.1, .bool x.2.2.2.2] RcT (0, 0))) ⟨HJ.out.1.alloc HJ.out.1.size _, by rw [hg]; exact heap_newG wr _⟩ ?_
              clear hg q0 q1 q2 q3 q4
              intro w2 H2
              obtain ⟨e0, e1, e2, e3, e4⟩ := box5C H2.out.2
              obtain ⟨xk, xo, xn, xa, xb⟩ := x
              simp only at e0 e1 e2 e3 e4
              repeat' (go_not_at_region 16; (first | go_skip | go_guarded | go_step))
              obtain ⟨g2, hg2⟩ : ∃ g, g = w2.heap.size := ⟨_, rfl⟩
              rw [← hg2]
              refine wp_nameR (fun w' => Ext w w' ∧ w'.cell? ⟨g, 0, none⟩ = some (str xk) ∧ w'.cell? ⟨g2, 0, none⟩ = some (str xo) ∧ w'.cell? ⟨g2, 1, none⟩ = some (str xn)) ⟨H2.out.1.alloc H2.out.1.size _, ?_, ?_, ?_⟩ ?_
              · exact (World.cell?_alloc_lt w2 _ _ (heap_lt H2.out.2)).trans e0
              · rw [hg2]; exact (cellG (heap_newG w2 _) _).trans rfl
              · rw [hg2]; exact (cellG (heap_newG w2 _) _).trans rfl
              clear hg2 e0 e1 e2 e3 e4 H2
              intro w3 H3
              have e0 := H3.out.2.1
              have z0 := H3.out.2.2.1
              have z1 := H3.out.2.2.2
              have hErr : Hid (∀ r, r ≠ 0 → errCh (xk, xo, xn, xa, xb) = r → R = r) := Lib.hid (fun r h0 h1 => by rw [HX.out, h1, if_neg h0])
              go_loopg [93] 2 (fun gk vk wr => ∃ i : Nat, vk = .int .i64 i ∧ i ≤ 2 ∧ 2 - i ≤ gk ∧ wr = w3 ∧ Hid ((0 < i → rgtN xk.length xo.length = 0) ∧ (1 < i → rgtN xk.length xn.length = 0)))
              case atStart => exact ⟨0, rfl, Nat.zero_le _, Nat.le_refl _, rfl, Lib.hid ⟨fun h => absurd h (Nat.lt_irrefl _), fun h => absurd h (by decide)⟩⟩
              case round =>
                obtain ⟨i, rfl, hi2, hgk2, hw3, HI⟩ := hrel
                subst hw3
                match i, hi2, HI with
                | 0, _, HI =>
                  repeat' (first | go_at_call 57 | go_skip | go_guarded | go_step)
                  refine (rrgt_c _ _ _).mono ?_
                  rintro e w4 ⟨rfl, rfl⟩
                  rcases hec.out with ⟨h1, h2⟩ | ⟨h1, h2⟩ | ⟨h1, h2, h3⟩ | ⟨h1, h2, h3⟩
                  · simp only at h1
                    have HZ := Lib.hid (hErr.out 2 (by decide) h2)
                    rw [h1]
                    clear h1 h2
                    go_simp
                    repeat' (first | go_skip | go_guarded | go_step)
                    go_ret
                    rw [HZ.out]
                    exact ⟨rfl, H3.out.1⟩
                  · simp only at h1
                    have HZ := Lib.hid (hErr.out 3 (by decide) h2)
                    rw [h1]
                    clear h1 h2
                    go_simp
                    repeat' (first | go_skip | go_guarded | go_step)
                    go_ret
                    rw [HZ.out]
                    exact ⟨rfl, H3.out.1⟩
                  all_goals
                    simp only at h1
                    have HZ := Lib.hid h1
                    rw [h1]
                    clear h1 h2 h3
                    go_simp
                    repeat' (first | go_skip | go_guarded | go_step)
                    go_roundg 1
                    case measure => omega
                    case rel => exact ⟨1, rfl, by omega, by omega, rfl, Lib.hid ⟨fun _ => HZ.out, fun h => absurd h (Nat.lt_irrefl _)⟩⟩
                | 1, _, HI =>
                  repeat' (first | go_at_call 57 | go_skip | go_guarded | go_step)
                  refine (rrgt_c _ _ _).mono ?_
                  rintro e w4 ⟨rfl, rfl⟩
                  have h0 := HI.out.1 (by decide)
                  rcases hec.out with ⟨h1, h2⟩ | ⟨h1, h2⟩ | ⟨h1, h2, h3⟩ | ⟨h1, h2, h3⟩
                  · simp only at h1; rw [h0] at h1; cases h1
                  · simp only at h1; rw [h0] at h1; cases h1
                  · simp only at h2
                    have HZ := Lib.hid (hErr.out 3 (by decide) h3)
                    rw [h2]
                    clear h0 h1 h2 h3
                    go_simp
                    repeat' (first | go_skip | go_guarded | go_step)
                    go_ret
                    rw [HZ.out]
                    exact ⟨rfl, H3.out.1⟩
                  · simp only at h2
                    have HZ := Lib.hid h2
                    have HZ0 := Lib.hid h0
                    rw [h2]
                    clear h0 h1 h2 h3
                    go_simp
                    repeat' (first | go_skip | go_guarded | go_step)
                    go_roundg 0
                    case measure => omega
                    case rel => exact ⟨2, rfl, by omega, by omega, rfl, Lib.hid ⟨fun _ => HZ0.out, fun _ => HZ.out⟩⟩
                | 2, _, HI =>
                  have HN : Hid (R = firstE (l.drop (j + 1))) := Lib.hid (by
                    have h0 := HI.out.1 (by decide)
                    have h9 := HI.out.2 (by decide)
                    rcases hec.out with ⟨h1, h2⟩ | ⟨h1, h2⟩ | ⟨h1, h2, h3⟩ | ⟨h1, h2, h3⟩
                    · simp only at h1; rw [h0] at h1; cases h1
                    · simp only at h1; rw [h0] at h1; cases h1
                    · simp only at h2; rw [h9] at h2; cases h2
                    · rw [HX.out, if_pos h3])
                  repeat' (first | go_skip | go_guarded | go_step)
                  go_roundg (n - (j + 1))
                  case measure => omega
                  case rel => exact ⟨j + 1, by go_num, by omega, Nat.le_refl _, Lib.hid ⟨H3.out.1, HN.out⟩⟩
            · obtain rfl : j = n := by omega
              have d2 : decide (j < j) = false := by simp
              repeat' (first | go_skip | go_guarded | go_step)
              go_ret
              rw [HJ.out.2, List.drop_eq_nil_of_le (by have := Hn.out.1; omega)]
              exact ⟨rfl, HJ.out.1⟩
end Go.Proofs.YtigoffdehdobiaaGreat
