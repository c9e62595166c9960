/- Contract: SpanResumes. -/
import Derived.Test.YtaehdkgmkjhmgaaDi
import Derived.Test.YtaehdkgmkjhmgaaDf
import Derived.Test.YtaehdkgmkjhmgaaDd
import Derived.Test.YtaehdkgmkjhmgaaSl
import Derived.Test.YtaehdkgmkjhmgaaDk
namespace Go.Proofs.Ytaehdkgmkjhmgaa
open Go.RowKit Go.QS
set_option linter.unusedVariables false

set_option maxRecDepth 100000 in
set_option maxHeartbeats 2000000 in
theorem spanResumes_c (w : World) (v v5 : Value) (l more : List Pr) (s0 : Sp) (back : Bool) (an : Nat) (ha1 : an < 256) (h : PS w v l) (h5 : PS w v5 more) :
    Calls Try.prog 8 #[v, s0.v, .bool back, .int .u8 (an : Int), v5] w fun e w' => e = .returned (.bool true) ∧ Ext w w' := by
  have HP : Hid (PS w v l ∧ PS w v5 more) := Lib.hid ⟨h, h5⟩
  obtain ⟨A5, C5, rfl, h5l, hn5, hC5, hs5⟩ := h5
  obtain ⟨n5, hn52⟩ : ∃ n5, n5 = more.length := ⟨_, rfl⟩
  rw [← hn52] at hn5 HP ⊢
  have hn59 : n5 ≤ 9223372036854775807 := by unfold maxLen at hC5; omega
  have H5 : Hid (n5 = more.length ∧ Seg w A5 (flat more)) := Lib.hid ⟨hn52, hs5⟩
  obtain ⟨L, hL⟩ : ∃ L, L = (l.take 40).map cutP := ⟨_, rfl⟩
  have hLk : ∀ p ∈ L, p.1.length ≤ 40 := by
    intro p hp
    rw [hL] at hp
    obtain ⟨q, _, rfl⟩ := List.mem_map.1 hp
    simp [cutP]; omega
  have hLl : L.length ≤ 40 := by rw [hL]; simp; omega
  have hXl := rsort_length L
  obtain ⟨X, hX⟩ : ∃ X, X = rsort L := ⟨_, rfl⟩
  rw [← hX] at hXl
  have hXk : ∀ q ∈ X, q.1.length ≤ 40 := by
    intro q hq
    rw [hX] at hq
    exact hLk q (lastK_mem ((mem_rsort L q).1 hq)).1
  obtain ⟨s, hs⟩ : ∃ s, s = s0.cut := ⟨_, rfl⟩
  have hsf : s.f.length ≤ 40 := by rw [hs]; simp [Sp.cut]; omega
  obtain ⟨Y, hY⟩ : ∃ Y, Y = prsS s back X := ⟨_, rfl⟩
  have hYl : Y.length ≤ 40 := by rw [hY]; unfold prsS; refine Nat.le_trans (List.length_filter_le _ _) ?_; cases back <;> simp <;> omega
  have hcom : com s back [(treeOf L, [], false)] = Y := by
    rw [root_com L hLk, ← hX, hY]
    unfold prsS
    cases back <;> simp
  obtain ⟨m, hm⟩ : ∃ m, m = Y.length := ⟨_, rfl⟩
  obtain ⟨k, hk⟩ : ∃ k, k = an % (m + 1) := ⟨_, rfl⟩
  have hkm : k ≤ m := by rw [hk]; have := Nat.mod_lt an (show 0 < m + 1 by omega); omega
  have hrem : (an : Int).tmod ((m : Int) + 1) = (k : Int) := by rw [hk]; rfl
  have HL : Hid (L = (l.take 40).map cutP ∧ (∀ p ∈ L, p.1.length ≤ 40) ∧ X = rsort L ∧ (∀ q ∈ X, q.1.length ≤ 40)) := Lib.hid ⟨hL, hLk, hX, hXk⟩
  have HY : Hid (Y = prsS s back X ∧ com s back [(treeOf L, [], false)] = Y ∧ m = Y.length) := Lib.hid ⟨hY, hcom, hm⟩
  have HS0 := Lib.hid hs
  have hgood := root_good L hLk
  have hwt := root_wt L hLk hLl
  have HG := Lib.hid hgood
  have hm9 : m ≤ 40 := by omega
  obtain ⟨sf, stt, so⟩ := s0
  obtain ⟨zf, zt, zo⟩ := s
  simp only at hsf
  clear h hL hLk hX hXk hY hcom hm hk hs hgood hn52 hs5 h5l hn5 hC5 hYl
  go_enter Try.func8, Try.ntmps8
  repeat' (first | go_at_call 15 | go_skip | go_guarded | go_step)
  obtain ⟨wa, hwa⟩ : ∃ wa, wa = w.alloc (.cells #[str sf, str stt, .bool so] 32) := ⟨_, rfl⟩
  obtain ⟨gb, hgb⟩ : ∃ gb, gb = w.heap.size := ⟨_, rfl⟩
  have hEa : Ext w wa := by rw [hwa]; exact (Ext.refl _).alloc (Nat.le_refl _) _
  have hba := heap_new w (.cells #[str sf, str stt, .bool so] 32)
  rw [← hwa, ← hgb] at hba
  have hwa' := hwa.symm
  first | rw [hwa', ← hgb] | rw [← hgb]
  have HA : Hid (Ext w wa ∧ wa.heap[gb]? = some (.cells #[str sf, str stt, .bool so] 32 (0, 0)) ∧ w.heap.size ≤ gb) := Lib.hid ⟨hEa, hba, by omega⟩
  clear hwa hgb hEa hba hwa'
  refine (awake_c wa).mono ?_
  rintro e w1 ⟨rfl, f1⟩
  replace HA := Lib.hid (And.intro (Ext.trans HA.out.1 f1) (And.intro (box_ext HA.out.2.1 f1) HA.out.2.2))
  clear f1
  go_simp
  repeat' (first | go_at_call 16 | go_skip | go_guarded | go_step)
  refine (tree3_c w1 v l (HP.out.1.below HA.out.1)).mono ?_
  rintro e w2 ⟨g, v2, rfl, f2, r2, p2⟩
  rw [← HL.out.1] at r2 p2
  rw [← HL.out.2.2.1] at p2
  have H2 : Hid (Ext w w2 ∧ Rep NT w2 g (treeOf L) ∧ w2.ownsRow w1.heap.size 40 2 v2 X.length (flat X) ∧ w2.heap[gb]? = some (.cells #[str sf, str stt, .bool so] 32 (0, 0)) ∧ w.heap.size ≤ gb) := Lib.hid ⟨Ext.trans HA.out.1 f2, r2, p2, box_ext HA.out.2.1 f2, HA.out.2.2⟩
  clear f2 r2 p2
  obtain ⟨b0, b1, b2⟩ := box3 H2.out.2.2.2.1
  go_simp
  repeat' (first | go_at_call 24 | go_skip | go_guarded | go_step)
  refine (short_c w2 ⟨sf, stt, so⟩).mono ?_
  rintro e w3 ⟨rfl, f3⟩
  rw [← HS0.out]
  have hb3 := box_ext H2.out.2.2.2.1 f3
  clear b0 b1 b2
  obtain ⟨b0, b1, b2⟩ := box3 hb3
  have bf := box_free hb3
  have H3 : Hid (Ext w2 w3 ∧ w3.heap[gb]? = some (.cells #[str sf, str stt, .bool so] 32 (0, 0))) := Lib.hid ⟨f3, hb3⟩
  have hgbl := heap_lt hb3
  clear f3 hb3
  go_simp
  repeat' (go_not_at_region 5; (first | go_skip | go_guarded | go_step))
  obtain ⟨w4, hw4⟩ : ∃ w4, w4 = ((w3.setCell ⟨gb, 0, none⟩ (str zf)).setCell ⟨gb, 1, none⟩ (str zt)).setCell ⟨gb, 2, none⟩ (.bool zo) := ⟨_, rfl⟩
  have hw4' : ((w3.setCell ⟨gb, 0, none⟩ (Value.string (bs zf))).setCell ⟨gb, 1, none⟩ (Value.string (bs zt))).setCell ⟨gb, 2, none⟩ (.bool zo) = w4 := hw4.symm
  rw [hw4']
  have hw34 : ∀ j, j ≠ gb → w4.heap[j]? = w3.heap[j]? := fun j hj => by rw [hw4]; exact (Below.heap_setCell _ _ _ j hj).trans ((Below.heap_setCell _ _ _ j hj).trans (Below.heap_setCell _ _ _ j hj))
  have hb4 : w4.heap[gb]? = some (.cells #[str zf, str zt, .bool zo] 32 (0, 0)) := by rw [hw4]; exact heap_set (heap_set (heap_set H3.out.2 0 _) 1 _) 2 _
  have hE4 : Ext w w4 := by rw [hw4]; exact (((Ext.trans H2.out.1 H3.out.1).setCell H2.out.2.2.2.2 _).setCell H2.out.2.2.2.2 _).setCell H2.out.2.2.2.2 _
  have H4 : Hid (Ext w w4 ∧ Rep NT w4 g (treeOf L) ∧ PS w4 v2 X) := Lib.hid ⟨hE4, Rep.away H3.out.2 hw34 (H2.out.2.1.ext H3.out.1), PS.of_own (row_away (row_ext H2.out.2.2.1 H3.out.1) H3.out.2 (by decide) hw34)⟩
  clear b0 b1 b2 bf
  obtain ⟨b0, b1, b2⟩ := box3 hb4
  have HB4 := Lib.hid hb4
  clear hw4 hw4' hw34 hb4 hE4
  repeat' (first | go_at_call 25 | go_skip | go_guarded | go_step)
  refine (rpairs_c w4 v2 X ⟨zf, zt, zo⟩ back H4.out.2.2 (by omega) (fun q hq => by have := HL.out.2.2.2 q hq; omega)).mono ?_
  rintro e w5 ⟨v13, rfl, p5, f5⟩
  rw [← HY.out.1] at p5
  have hb5 := box_ext HB4.out f5
  obtain ⟨A13, C13, rfl, q1, q2, q3, q4⟩ := p5
  have H5' : Hid (Ext w w5 ∧ Rep NT w5 g (treeOf L) ∧ PS w5 (.slice A13 m C13) Y) := Lib.hid ⟨Ext.trans H4.out.1 f5, H4.out.2.1.ext f5, by rw [HY.out.2.2]; exact ⟨_, _, rfl, q1, q2, q3, q4⟩⟩
  have HPSX : Hid (PS w5 v2 X) := Lib.hid (H4.out.2.2.below f5)
  rw [← HY.out.2.2]
  clear b0 b1 b2
  obtain ⟨b0, b1, b2⟩ := box3 hb5
  clear q1 q2 q3 q4 f5 hb5
  go_simp
  repeat' (first | go_at_call 23 | go_skip | go_guarded | go_step)
  refine (new_c w5 g (treeOf L) ⟨zf, zt, zo⟩ back H5'.out.2.1).mono ?_
  rintro e w6 ⟨c0, V0, rfl, hC⟩
  have HC := Lib.hid hC
  clear hC b0 b1 b2
  go_simp
  repeat' (go_not_at_region 9; (first | go_skip | go_guarded | go_step))
  have HW0 : Hid (Ext w w5 ∧ Rep NT w5 g (treeOf L) ∧ PS w5 (.slice A13 m C13) Y ∧ PS w5 v2 X) := Lib.hid ⟨H5'.out.1, H5'.out.2.1, H5'.out.2.2, HPSX.out⟩
  go_loopg [50] k (fun gk v50 wr => ∃ (i : Nat) (V1 : Value) (cs1 : List Wk) (r1 : List Wn), v50 = .int .i64 i ∧ i ≤ k ∧ k - i ≤ gk ∧ wt r1 ≤ 1000000 ∧ Hid (CurAt w5 wr c0 V1 cs1 r1.reverse ⟨zf, zt, zo⟩ back ∧ Good r1 ∧ com ⟨zf, zt, zo⟩ back r1 = Y.drop i))
  case atStart => exact ⟨0, V0, _, [(treeOf L, [], false)], rfl, Nat.zero_le _, by omega, hwt, Lib.hid ⟨HC.out, HG.out, by rw [HY.out.2.1]; rfl⟩⟩
  case round =>
    obtain ⟨i, V1, cs1, r1, rfl, hik, hgk, hr9, HI⟩ := hrel
    rcases Nat.lt_or_ge i k with hlt | hge
    · have d1 : decide (i < k) = true := by simp [hlt]
      repeat' (first | go_at_call 29 | go_skip | go_guarded | go_step)
      refine (next_c w5 wr c0 V1 cs1 r1 ⟨zf, zt, zo⟩ back HI.out.1 HI.out.2.1 hr9 (by show zf.length ≤ 1000; omega)).mono ?_
      rintro e w7 ⟨V2, cs2, r2, hC2, hG2, hw2, hT2, hN2, hcase⟩
      have hdr : com ⟨zf, zt, zo⟩ back r2 = Y.drop (i + 1) := by
        have hc := HI.out.2.2
        rcases hcase with ⟨e1, _, e2⟩ | ⟨p, e1, _⟩
        · rw [e1] at hc
          rw [e2, ← List.drop_drop, ← hc]; rfl
        · rw [e1] at hc
          rw [← List.drop_drop, ← hc]; rfl
      have H7 : Hid (CurAt w5 w7 c0 V2 cs2 r2.reverse ⟨zf, zt, zo⟩ back ∧ Good r2 ∧ com ⟨zf, zt, zo⟩ back r2 = Y.drop (i + 1)) := Lib.hid ⟨hC2, hG2, hdr⟩
      clear hC2 hG2 hT2 hN2 hdr
      rcases hcase with ⟨_, rfl, _⟩ | ⟨p, _, rfl⟩
      · go_simp
        repeat' (first | go_skip | go_guarded | go_step)
        go_roundg (k - (i + 1))
        case measure => omega
        case rel => exact ⟨i + 1, V2, cs2, r2, by go_num, by omega, Nat.le_refl _, by omega, H7⟩
      · go_simp
        repeat' (first | go_skip | go_guarded | go_step)
        go_roundg (k - (i + 1))
        case measure => omega
        case rel => exact ⟨i + 1, V2, cs2, r2, by go_num, by omega, Nat.le_refl _, by omega, H7⟩
    · obtain rfl : i = k := by omega
      have d1 : decide (i < i) = false := by simp
      have hcs9 : cs1.length ≤ 1000000 := by
        have h1 := HI.out.1.wks.1
        have h2 := wt_len r1
        simp at h1
        omega
      have hVb := World.ownsRow.lt HI.out.1.row
      have HVB := Lib.hid hVb
      clear hVb hgk
      repeat' (first | go_at_call 30 | go_skip | go_guarded | go_step)
      refine (copy_c w5 wr c0 V1 cs1 _ ⟨zf, zt, zo⟩ back HI.out.1 hcs9).mono ?_
      rintro e w8 ⟨d0, V2, rfl, hC2, f8, hd8⟩
      have hcd : c0 < d0 := by have := heap_lt HI.out.1.cell; omega
      have H8 : Hid (CurAt w5 w8 c0 V1 cs1 r1.reverse ⟨zf, zt, zo⟩ back ∧ CurAt w5 w8 d0 V2 cs1 r1.reverse ⟨zf, zt, zo⟩ back ∧ Ext w5 w8 ∧ (∀ b, V1.ownBlock = some b → b < d0) ∧ Good r1 ∧ com ⟨zf, zt, zo⟩ back r1 = Y.drop i) := Lib.hid ⟨HI.out.1.keep f8, hC2, hC2.ext, fun b hb => by have := (HVB.out b hb).2; omega, HI.out.2.1, HI.out.2.2⟩
      clear hC2 f8 hd8
      have hok := treeOf_ok L HL.out.2.1
      have HOK := Lib.hid hok.2.1
      clear hok
      go_simp
      repeat' (go_not_at_region 14; (first | go_skip | go_guarded | go_step))
      go_loopg [11, 59] n5 (fun gk v11 v59 wx => ∃ (j g' : Nat) (t' : RT), v11 = ptr g' ∧ v59 = .int .i64 j ∧ j ≤ n5 ∧ n5 - j ≤ gk ∧ Hid (Ext w8 wx ∧ Rep NT wx g' t' ∧ Kd 40 t'.kids))
      case atStart => exact ⟨0, g, treeOf L, rfl, rfl, Nat.zero_le _, by omega, Lib.hid ⟨Ext.refl _, HW0.out.2.1.ext H8.out.2.2.1, HOK.out⟩⟩
      case round =>
        obtain ⟨j, g', t', rfl, rfl, hjn, hgk2, HJ⟩ := hrel
        rcases Nat.lt_or_ge j n5 with hlt | hge
        · have d2 : decide (j < n5) = true := by simp [hlt]
          obtain ⟨p, hp⟩ := get_of_lt more (show j < more.length by have := H5.out.1; omega)
          obtain ⟨b, o, rfl, hq1, hq2⟩ := seg_pair (H5.out.2.below (Ext.trans HW0.out.1 (Ext.trans H8.out.2.2.1 HJ.out.1))) hp
          have hi1 : (j : Int) < (n5 : Int) := by omega
          clear hp
          by_cases h20 : j < 20
          · have d3 : decide (j < 20) = true := by simp [h20]
            have d4 : decide ((j : Int) < 20) = true := decide_eq_true (by omega)
            repeat' (first | go_at_call 17 | go_skip | go_guarded | go_step)
            refine (fewp_c _ p).mono ?_
            rintro e x1 ⟨rfl, f1⟩
            have F1 := Lib.hid (Ext.trans ((Ext.refl wr).alloc (Nat.le_refl _) (.cells #[str p.1, str p.2] 29)) f1)
            clear f1
            go_simp
            repeat' (first | go_at_call 32 | go_skip | go_guarded | go_step)
            have hql : (cutP p).1.length ≤ 40 := by simp [cutP]; omega
            refine (putR_c x1 40 g' t' (cutP p) (HJ.out.2.1.ext F1.out) HJ.out.2.2 hql (by decide)).mono ?_
            rintro e x2 ⟨g3, rfl, f2, r2, _, _⟩
            have hk2 := (tput_ok (cutP p).1.length 40 t' (cutP p).1 (cutP p).2 (Nat.le_refl _) HJ.out.2.2 hql).kd
            have H2' : Hid (Ext w8 x2 ∧ _ ∧ _) := Lib.hid ⟨Ext.trans HJ.out.1 (Ext.trans F1.out f2), r2, hk2⟩
            clear f2 r2 hk2
            go_simp
            repeat' (first | go_skip | go_guarded | go_step)
            go_roundg (n5 - (j + 1))
            case measure => omega
            case rel => exact ⟨j + 1, g3, _, rfl, by go_num, by omega, Nat.le_refl _, H2'⟩
          · have d3 : decide (j < 20) = false := by simp; omega
            have d4 : decide ((j : Int) < 20) = false := decide_eq_false (by omega)
            repeat' (first | go_skip | go_guarded | go_step)
            go_roundg (n5 - (j + 1))
            case measure => omega
            case rel => exact ⟨j + 1, g', t', rfl, by go_num, by omega, Nat.le_refl _, Lib.hid ⟨HJ.out.1.alloc HJ.out.1.size _, HJ.out.2.1.ext ((Ext.refl _).alloc (Nat.le_refl _) _), HJ.out.2.2⟩⟩
        · obtain rfl : j = n5 := by omega
          have d2 : decide (j < j) = false := by simp
          obtain ⟨AX, CX, rfl, hxl, hxn, hxc, hxs⟩ := HW0.out.2.2.2
          obtain ⟨nX, hnX⟩ : ∃ nX, nX = X.length := ⟨_, rfl⟩
          rw [← hnX] at hxn ⊢
          have hnX9 : nX ≤ 40 := by omega
          have HXX : Hid (nX = X.length ∧ Seg w5 AX (flat X)) := Lib.hid ⟨hnX, hxs⟩
          clear hxl hxc hxs hnX
          repeat' (go_not_at_region 20; (first | go_skip | go_guarded | go_step))
          go_loopg [11, 76] nX (fun gk v11 v76 wx => ∃ (q g2 : Nat) (t2 : RT), v11 = ptr g2 ∧ v76 = .int .i64 q ∧ q ≤ nX ∧ nX - q ≤ gk ∧ Hid (Ext w8 wx ∧ Rep NT wx g2 t2 ∧ Kd 40 t2.kids))
          case atStart => exact ⟨0, g', t', rfl, rfl, Nat.zero_le _, by omega, HJ⟩
          case round =>
            obtain ⟨q, g2, t2, rfl, rfl, hqn, hgk3, HQ⟩ := hrel
            rcases Nat.lt_or_ge q nX with hlt | hge
            · have d3 : decide (q < nX) = true := by simp [hlt]
              obtain ⟨p, hp⟩ := get_of_lt X (show q < X.length by have := HXX.out.1; omega)
              obtain ⟨b, o, rfl, hq1, hq2⟩ := seg_pair (HXX.out.2.below (Ext.trans H8.out.2.2.1 HQ.out.1)) hp
              have hi1 : (q : Int) < (nX : Int) := by omega
              have hpl := HL.out.2.2.2 p (List.mem_of_getElem? hp)
              clear hp
              repeat' (first | go_at_call 33 | go_skip | go_guarded | go_step)
              refine (dropR_c _ 40 g2 t2 p.1 (HQ.out.2.1.ext ((Ext.refl _).alloc (Nat.le_refl _) _)) HQ.out.2.2 (by omega) (by decide)).mono ?_
              rintro e x2 ⟨g3, rfl, f2, r2, _⟩
              have hk2 := (tdrop_ok p.1.length 40 t2 p.1 (Nat.le_refl _) HQ.out.2.2).kd
              have H2' : Hid (Ext w8 x2 ∧ _ ∧ _) := Lib.hid ⟨Ext.trans (HQ.out.1.alloc HQ.out.1.size _) f2, r2, hk2⟩
              clear f2 r2 hk2
              go_simp
              repeat' (first | go_skip | go_guarded | go_step)
              go_roundg (nX - (q + 1))
              case measure => omega
              case rel => exact ⟨q + 1, g3, _, rfl, by go_num, by omega, Nat.le_refl _, H2'⟩
            · obtain rfl : q = nX := by omega
              have d3 : decide (q < q) = false := by simp
              have HE := Lib.hid HQ.out.1
              repeat' (go_not_at_region 24; (first | go_skip | go_guarded | go_step))
              refine res_r24 w5 wr c0 d0 m C13 i A13 Y V1 V2 cs1 cs1 r1 ⟨zf, zt, zo⟩ back hkm (by show zf.length ≤ 1000; omega) hr9 (Lib.hid ⟨HW0.out.2.2.1, H8.out.2.2.2.2.2, H8.out.2.2.2.2.1, H8.out.1.keep HE.out, H8.out.2.1.keep HE.out, hcd, H8.out.2.2.2.1⟩) _ _ _ _ _ _ _ _ _ _ _ _ _ _ _ _ _ _ _ _ _ _ _ _ _ _ _ _ _ _ _ _ _ _ _ _ _ _ _ _ _ _ _ _ _ _ _ _ _ _ _ _ _ _ _ _ _ _ _ _ _ _ _ _ _ _ _ _ _ _ _ _ _ _ _ _ _ _ _ _ _ _ _ _ _ _ _ _ _ _ _ _ _ _ _ _ _ _ (by kernel_rfl) ?_
              intro u88 u89 u90 u91 u92 u93 u94 u95 u96 u97 u98 u99 wz hE
              have HZ := Lib.hid (Ext.trans HW0.out.1 hE)
              clear hE
              repeat' (first | go_skip | go_guarded | go_step)
              go_ret
              exact ⟨rfl, HZ.out⟩
end Go.Proofs.Ytaehdkgmkjhmgaa
