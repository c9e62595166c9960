/- Contract: SpanNests. -/
import Derived.Test.YtbplddiopajocaaGe
import Derived.Test.YtbplddiopajocaaGp
import Derived.Test.YtbplddiopajocaaGt
import Derived.Test.YtbplddiopajocaaDk
import Derived.Test.YtbplddiopajocaaSc
set_option linter.unusedVariables false
set_option linter.unusedSimpArgs false
namespace Go.Proofs.Ytbplddiopajocaa
open Go Go.RowKit Go.QS
set_option linter.unusedVariables false

theorem conv_one (w : World) (b : Nat) (hb : b < 256) : (convert 64 9 (.slice (some ⟨w.heap.size, 0, none⟩) 1 1)).run Try.prog (w.alloc (.cells #[.int .u8 (b : Int)] 5)) = .ok (str [UInt8.ofNat b]) (w.alloc (.cells #[.int .u8 (b : Int)] 5)) := by
  have h : BS (w.alloc (.cells #[.int .u8 (b : Int)] 5)) (.slice (some ⟨w.heap.size, 0, none⟩) 1 1) [UInt8.ofNat b] := by
    have e : encB [UInt8.ofNat b] = [.int .u8 (b : Int)] := by
      simp only [encB, List.map_cons, List.map_nil]
      have : (UInt8.ofNat b).toNat = b := by show b % 256 = b; omega
      rw [this]
    refine ⟨_, _, rfl, by simp [encB], by simp, by decide, ?_⟩
    rw [e]
    exact Seg.new w [_] _ rfl
  exact conv_bs Try.underlying64 Try.underlying5 Try.underlying9 h

set_option maxRecDepth 100000 in
set_option maxHeartbeats 4000000 in
theorem spanNests_c (w : World) (v : Value) (l : List Pr) (sp sm : List UInt8) (h : PS w v l) :
    Calls Try.prog 7 #[v, str sp, str sm] w fun e w' => e = .returned (.bool true) ∧ Ext w w' := by
  have HP : Hid (PS w v l) := Lib.hid h
  obtain ⟨L, hL⟩ : ∃ L, L = (l.take 40).map cutP := ⟨_, rfl⟩
  have hLk : ∀ p ∈ L, p.1.length ≤ 40 := by
    intro p hp
    rw [hL] at hp
    obtain ⟨q, _, rfl⟩ := List.mem_map.1 hp
    simp [cutP]; omega
  have hLl : L.length ≤ 40 := by rw [hL]; simp; omega
  have hXl := rsort_length L
  have hXr := rsort_rise L
  obtain ⟨X, hX⟩ : ∃ X, X = rsort L := ⟨_, rfl⟩
  rw [← hX] at hXl hXr
  obtain ⟨p40, hp40⟩ : ∃ p40, p40 = sp.take 40 := ⟨_, rfl⟩
  obtain ⟨m40, hm40⟩ : ∃ m40, m40 = sm.take 40 := ⟨_, rfl⟩
  obtain ⟨kp, hkp⟩ : ∃ kp, kp = min sp.length 20 := ⟨_, rfl⟩
  obtain ⟨km, hkm⟩ : ∃ km, km = min sm.length 20 := ⟨_, rfl⟩
  obtain ⟨pp, hpp⟩ : ∃ pp, pp = p40.take kp := ⟨_, rfl⟩
  obtain ⟨mm, hmm⟩ : ∃ mm, mm = m40.take km := ⟨_, rfl⟩
  have hminp : min (sp.length : Int) 20 = (kp : Int) := by rw [hkp]; omega
  have hminm : min (sm.length : Int) 20 = (km : Int) := by rw [hkm]; omega
  have hkpl : kp ≤ p40.length := by rw [hp40, List.length_take, hkp]; omega
  have hkml : km ≤ m40.length := by rw [hm40, List.length_take, hkm]; omega
  have hppl : pp.length ≤ 20 := by rw [hpp, List.length_take, hkp]; omega
  have hmml : mm.length ≤ 20 := by rw [hmm, List.length_take, hkm]; omega
  obtain ⟨pm, hpm⟩ : ∃ pm, pm = pp ++ mm := ⟨_, rfl⟩
  have hpml : pm.length ≤ 40 := by rw [hpm, List.length_append]; omega
  have hcat : bs pp ++ bs mm = bs pm := by rw [bs_append, hpm]
  have hclt : (9223372036854775807 < pp.length + mm.length) = False := by simp; omega
  have hclm : (maxLen < pp.length + mm.length) = False := by unfold maxLen; simp; omega
  have HCOM : Hid (∀ (k : List UInt8), bgn X k = com (Sp.pfx k) false [(treeOf L, [], false)]) := Lib.hid (fun k => by
    rw [root_com L hLk, ← hX]
    unfold bgn
    simp only [Bool.false_eq_true, if_false]
    congr 1
    funext q
    exact (pfx_has k q.1).symm)
  have HBL : Hid (∀ k, (bgn X k).length ≤ 40) := Lib.hid (fun k => Nat.le_trans (List.length_filter_le _ _) (by omega))
  have HL : Hid (L = (l.take 40).map cutP ∧ (∀ p ∈ L, p.1.length ≤ 40) ∧ X = rsort L ∧ Rise X) := Lib.hid ⟨hL, hLk, hX, hXr⟩
  have HPM := Lib.hid hpm
  have HPP := Lib.hid (And.intro hp40 hm40)
  have hgood := root_good L hLk
  have hwt := root_wt L hLk hLl
  have HG := Lib.hid hgood
  obtain ⟨s1, hs1⟩ : ∃ s1, s1 = Sp.pfx pp := ⟨_, rfl⟩
  obtain ⟨s2, hs2⟩ : ∃ s2, s2 = Sp.pfx pm := ⟨_, rfl⟩
  have HS : Hid (s1 = Sp.pfx pp ∧ s2 = Sp.pfx pm) := Lib.hid ⟨hs1, hs2⟩
  have hs1f : s1.f.length ≤ 1000 := by rw [hs1]; show pp.length ≤ 1000; omega
  have hs2f : s2.f.length ≤ 1000 := by rw [hs2]; show pm.length ≤ 1000; omega
  have hcutp : p40.take kp = pp := hpp.symm
  have hcutm : m40.take km = mm := hmm.symm
  have HPX1 : Hid (∀ x, Calls Try.prog 32 #[str pp] x fun e w' => e = .returned s1.v ∧ Ext x w') := Lib.hid (fun x => by rw [hs1]; exact prefix_c x pp (by omega))
  have HPX2 : Hid (∀ x, Calls Try.prog 32 #[str pm] x fun e w' => e = .returned s2.v ∧ Ext x w') := Lib.hid (fun x => by rw [hs2]; exact prefix_c x pm (by omega))
  obtain ⟨f1, t1, o1⟩ := s1
  obtain ⟨f2, t2, o2⟩ := s2
  simp only at hs1f hs2f
  clear h hL hLk hX hXr hgood hpm hp40 hm40 hkp hkm hpp hmm hs1 hs2
  go_enter Try.func7, Try.ntmps7
  repeat' (first | go_at_call 18 | go_skip | go_guarded | go_step)
  refine (awake_c w).mono ?_
  rintro e w1 ⟨rfl, g1⟩
  have HA := Lib.hid g1
  clear g1
  go_simp
  repeat' (first | go_at_call 19 | go_skip | go_guarded | go_step)
  refine (tree3_c w1 v l (HP.out.below HA.out)).mono ?_
  rintro e w2 ⟨g, v2, rfl, g2, r2, p2⟩
  rw [← HL.out.1] at r2
  replace HA := Lib.hid (And.intro (Ext.trans HA.out g2) r2)
  clear g2 r2 p2
  go_simp
  repeat' (go_not_at_region 4; (first | go_skip | go_guarded | go_step))
  have hfield := fun a x w => field0 a x w
  go_cut [1, 2] (fun v1 v2 wx => Hid (v1 = str pp ∧ v2 = str mm ∧ Ext w2 wx))
  case first =>
   as_aux_lemma =>
    go_region_held3 (fun x => True)
      (first | exact trivial)
      (first
       | (go_at_call 29; refine (few1_c _ _).mono ?_; rintro e x1 ⟨he, q1⟩; (first | rw [← HPP.out.1] at he | rw [← HPP.out.2] at he); subst he; (first | (have k2 : Hid (Ext w2 x1) := Lib.hid (Ext.trans k1.out q1)) | (have k1 : Hid (Ext w2 x1) := Lib.hid (Ext.trans (below_drewN (Ext.refl _) 1) q1))); clear q1))
    all_goals (repeat' go_step)
    all_goals go_meet
    all_goals (exact Lib.hid ⟨rfl, rfl, k2.out⟩)
  case rest =>
  obtain ⟨rfl, rfl, q2⟩ := hcut.out
  replace HA := Lib.hid (And.intro (Ext.trans HA.out.1 q2) (HA.out.2.ext q2))
  clear q2 hcut
  repeat' (first | go_at_call 32 | go_skip | go_guarded | (go_not_at_region 6; go_step))
  refine (HPX1.out _).mono ?_
  rintro e x3 ⟨rfl, q3⟩
  replace q3 := Lib.hid q3
  go_simp
  repeat' (first | go_at_call 32 | go_skip | go_guarded | (go_not_at_region 6; go_step))
  refine (HPX2.out _).mono ?_
  rintro e x4 ⟨rfl, q4⟩
  replace q4 := Lib.hid q4
  go_simp
  repeat' (go_not_at_region 6; (first | go_skip | go_guarded | go_step))
  obtain ⟨wb, hwb⟩ : ∃ wb, wb = (x4.alloc (.cells #[Value.string (bs f1), Value.string (bs t1), .bool o1] 42)).alloc (.cells #[Value.string (bs f2), Value.string (bs t2), .bool o2] 42) := ⟨_, rfl⟩
  obtain ⟨g9, hg9⟩ : ∃ g9, g9 = x4.heap.size := ⟨_, rfl⟩
  have e1 : Ext x4 (x4.alloc (.cells #[Value.string (bs f1), Value.string (bs t1), .bool o1] 42)) := (Ext.refl _).alloc (Nat.le_refl _) _
  have hE : Ext x4 wb := by rw [hwb]; exact e1.alloc e1.size _
  have hb1 := box_extG (heap_newG x4 (.cells #[Value.string (bs f1), Value.string (bs t1), .bool o1] 42)) ((Ext.refl _).alloc (Nat.le_refl _) (.cells #[Value.string (bs f2), Value.string (bs t2), .bool o2] 42))
  have hb2 := heap_newG (x4.alloc (.cells #[Value.string (bs f1), Value.string (bs t1), .bool o1] 42)) (.cells #[Value.string (bs f2), Value.string (bs t2), .bool o2] 42)
  rw [World.size_alloc] at hb2
  rw [← hwb, ← hg9] at hb1 hb2
  have hwb' := hwb.symm
  rw [hwb', ← hg9]
  have HB : Hid (Ext w wb ∧ Rep NT wb g (treeOf L) ∧ wb.heap[g9]? = some (.cells #[str f1, str t1, .bool o1] 42 (0, 0)) ∧ wb.heap[g9 + 1]? = some (.cells #[str f2, str t2, .bool o2] 42 (0, 0))) :=
    Lib.hid ⟨Ext.trans HA.out.1 (Ext.trans q3.out (Ext.trans q4.out hE)), HA.out.2.ext (Ext.trans q3.out (Ext.trans q4.out hE)), hb1, hb2⟩
  clear hwb hwb' hg9 hE hb1 hb2 e1 q3 q4 HA
  have HC1 : Hid (bgn X pp = com ⟨f1, t1, o1⟩ false [(treeOf L, [], false)]) := Lib.hid (by rw [HS.out.1]; exact HCOM.out pp)
  have HC2 : Hid (bgn X pm = com ⟨f2, t2, o2⟩ false [(treeOf L, [], false)]) := Lib.hid (by rw [HS.out.2]; exact HCOM.out pm)
  have hle12 : (bgn X pm).length ≤ (bgn X pp).length := by rw [HPM.out]; exact bgn_app
  have HHAS : Hid (∀ (i : Nat) (p : Pr), (bgn X pm)[i]? = some p → (Sp.mk f1 t1 o1).has p.1 = true) := Lib.hid (fun i p hp => by
    rw [HS.out.1, pfx_has]
    obtain ⟨_, r, e⟩ := mem_bgn.1 (List.mem_of_getElem? hp)
    exact begins_iff.2 ⟨mm ++ r, by rw [e, HPM.out]; simp⟩)
  obtain ⟨n1, hn1⟩ : ∃ n1, n1 = (bgn X pm).length := ⟨_, rfl⟩
  obtain ⟨n2, hn2⟩ : ∃ n2, n2 = (bgn X pp).length := ⟨_, rfl⟩
  have HN : Hid (n1 = (bgn X pm).length ∧ n2 = (bgn X pp).length) := Lib.hid ⟨hn1, hn2⟩
  have hn12 : n1 ≤ n2 := by omega
  have hn29 : n2 ≤ 40 := by rw [hn2]; exact HBL.out _
  clear hn1 hn2 hle12
  obtain ⟨b0, b1, b2⟩ := box3 HB.out.2.2.2
  repeat' (first | go_at_call 25 | go_skip | go_guarded | go_step)
  refine (spairs_c wb (some ⟨g, 0, none⟩) _ ⟨f2, t2, o2⟩ (bgn X pm) (.root HB.out.2.1) HG.out hwt hs2f HC2.out (by have := HBL.out pm; omega)).mono ?_
  rintro e wc ⟨v48, rfl, r48, q48⟩
  rw [← HN.out.1] at r48
  obtain ⟨P48, C48, rfl⟩ := own_slice r48
  have hsg := PS.of_own r48
  obtain ⟨P48', C48', e48, _, _, _, hs48⟩ := hsg
  have H48 : Hid (Ext wb wc ∧ Seg wc P48 (flat (bgn X pm))) := Lib.hid ⟨q48, by injection e48 with h1; rw [h1]; exact hs48⟩
  clear r48 q48 hs48 e48 b0 b1 b2
  go_simp
  repeat' (go_not_at_region 7; (first | go_skip | go_guarded | go_step))
  go_loopg [50] n1 (fun gk v50 wr => ∃ (i : Nat), v50 = .int .i64 i ∧ i ≤ n1 ∧ n1 - i ≤ gk ∧ Hid (Ext wc wr))
  case atStart => exact ⟨0, rfl, Nat.zero_le _, by omega, Lib.hid (Ext.refl _)⟩
  case round =>
    obtain ⟨i, rfl, him, hgk, HI⟩ := hrel
    rcases Nat.lt_or_ge i n1 with hlt | hge
    · as_aux_lemma =>
       have d1 : decide (i < n1) = true := by simp [hlt]
       obtain ⟨p, hp⟩ := get_of_lt (bgn X pm) (show i < (bgn X pm).length by have := HN.out.1; omega)
       obtain ⟨b, o, rfl, hq1, hq2⟩ := seg_pair (H48.out.2.below HI.out) hp
       have hi1 : (i : Int) < (n1 : Int) := by omega
       have hhas := HHAS.out i p hp
       have HHI := Lib.hid hhas
       have hxa : Ext wr (wr.alloc (.cells #[str p.1, str p.2] 24)) := (Ext.refl _).alloc (Nat.le_refl _) _
       obtain ⟨b0, b1, b2⟩ := box3 (box_extG HB.out.2.2.1 (Ext.trans H48.out.1 (Ext.trans HI.out hxa)))
       clear hp hhas hxa
       repeat' (first | go_at_call 30 | go_skip | go_guarded | go_step)
       refine (shas_c _ ⟨f1, t1, o1⟩ p.1).mono ?_
       rintro e x5 ⟨he, q5⟩
       rw [HHI.out] at he
       subst he
       have H5 : Hid (Ext wc x5) := Lib.hid (Ext.trans HI.out (Ext.trans ((Ext.refl _).alloc (Nat.le_refl _) _) q5))
       clear q5 b0 b1 b2
       go_simp
       repeat' (first | go_skip | go_guarded | go_step)
       go_roundg (n1 - (i + 1))
       case measure => omega
       case rel => exact ⟨i + 1, by go_num, by omega, Nat.le_refl _, H5⟩
    · obtain rfl : i = n1 := by omega
      have d1 : decide (i < i) = false := by simp
      have HW : Hid (Ext wb wr) := Lib.hid (Ext.trans H48.out.1 HI.out)
      clear hgk HI H48
      obtain ⟨b0, b1, b2⟩ := box3 (box_extG HB.out.2.2.1 HW.out)
      repeat' (first | go_at_call 25 | go_skip | go_guarded | go_step)
      refine (spairs_c wr (some ⟨g, 0, none⟩) _ ⟨f1, t1, o1⟩ (bgn X pp) (.root (HB.out.2.1.ext HW.out)) HG.out hwt hs1f HC1.out (by have := HBL.out pp; omega)).mono ?_
      rintro e wd ⟨v62, rfl, r62, q62⟩
      rw [← HN.out.2] at r62
      obtain ⟨P62, C62, rfl⟩ := own_slice r62
      obtain ⟨P62', C62', e62, _, _, _, hs62⟩ := PS.of_own r62
      have H62 : Hid (Ext wb wd ∧ Seg wd P62 (flat (bgn X pp))) := Lib.hid ⟨Ext.trans HW.out q62, by injection e62 with h1; rw [h1]; exact hs62⟩
      clear r62 q62 hs62 e62 b0 b1 b2 HW
      go_simp
      repeat' (go_not_at_region 14; (first | go_skip | go_guarded | go_step))
      go_loopg [13, 64] n2 (fun gk v13 v64 wx => ∃ (j n : Nat), v64 = .int .i64 j ∧ j ≤ n2 ∧ n2 - j ≤ gk ∧ n ≤ j ∧ Hid (Ext wd wx ∧ wx.ownsRow wd.heap.size 24 2 v13 n (flat (((bgn X pp).take j).filter fun q => decide (q.1 = pp)))))
      case atStart => exact ⟨0, 0, rfl, Nat.zero_le _, by omega, Nat.le_refl _, Lib.hid ⟨Ext.refl _, World.ownsRow_nil _ _ _ _⟩⟩
      case round =>
        obtain ⟨j, n, rfl, hjm, hgk2, hnj, HJ⟩ := hrel
        rcases Nat.lt_or_ge j n2 with hlt | hge
        · as_aux_lemma =>
           have d2 : decide (j < n2) = true := by simp [hlt]
           obtain ⟨p, hp⟩ := get_of_lt (bgn X pp) (show j < (bgn X pp).length by have := HN.out.2; omega)
           obtain ⟨b, o, rfl, hq1, hq2⟩ := seg_pair (H62.out.2.below HJ.out.1) hp
           have hi1 : (j : Int) < (n2 : Int) := by omega
           have hfs := filt_snoc (fun q : Pr => decide (q.1 = pp)) hp
           have HFS := Lib.hid hfs
           clear hp hfs
           by_cases hpe : p.1 = pp
           · have HPE := Lib.hid hpe
             clear hpe
             have d3 : decide (bs p.1 = bs pp) = true := by rw [HPE.out]; simp
             have d4 : (p.1 == pp) = true := by rw [HPE.out]; simp
             repeat' (first
               | (at_builtin; refine wpList_appE (W := wd) rfl (.tmp 72) (.tmp 74) _ rfl 24 2 32 Try.underlying22 infoPr (by decide) _ n _ rfl (row_extG HJ.out.2 (((Ext.refl _).alloc (Nat.le_refl _) _).alloc (by simp) _)) ((HJ.out.1.alloc HJ.out.1.size _).alloc (by have := HJ.out.1.size; simp; omega) _) _ 1 1 [str p.1, str p.2] rfl rfl (Seg.new _ [_, _] _ (by simp)) (by intro u hu; simp at hu; rcases hu with rfl | rfl <;> rfl) (by unfold maxLen; omega) (by omega) ?_; intro v9 w9 hown9 hb9; have H9 := Lib.hid (And.intro hb9 hown9); clear hb9 hown9)
               | go_skip | go_guarded | go_step)
             go_roundg (n2 - (j + 1))
             case measure => omega
             case rel =>
               refine ⟨j + 1, n + 1, by go_num, by omega, Nat.le_refl _, by omega, Lib.hid ⟨H9.out.1, ?_⟩⟩
               rw [HFS.out, if_pos (by simp [HPE.out]), flat_append, flat_cons, flat_nil]
               exact H9.out.2
           · have HPE := Lib.hid hpe
             clear hpe
             have d3 : decide (bs p.1 = bs pp) = false := by rw [decide_eq_false_iff_not]; exact fun e => HPE.out (bs_inj e)
             have d4 : (p.1 == pp) = false := by rw [beq_eq_false_iff_ne]; exact HPE.out
             repeat' (first | go_skip | go_guarded | go_step)
             go_roundg (n2 - (j + 1))
             case measure => omega
             case rel =>
               refine ⟨j + 1, n, by go_num, by omega, Nat.le_refl _, by omega, Lib.hid ⟨HJ.out.1.alloc HJ.out.1.size _, ?_⟩⟩
               rw [HFS.out, if_neg (by simp [HPE.out]), List.append_nil]
               exact row_extG HJ.out.2 ((Ext.refl _).alloc (Nat.le_refl _) _)
        · obtain rfl : j = n2 := by omega
          have d2 : decide (j < j) = false := by simp
          repeat' (go_not_at_region 20; (first | go_skip | go_guarded | go_step))
          have hEt : (bgn X pp).take j = bgn X pp := List.take_of_length_le (by have := HN.out.2; omega)
          have HJ0 : Hid (Ext wd wr ∧ wr.ownsRow wd.heap.size 24 2 u13 n (flat ((bgn X pp).filter fun q => decide (q.1 = pp)))) := Lib.hid ⟨HJ.out.1, by have := HJ.out.2; rwa [hEt] at this⟩
          clear hEt HJ hgk2
          go_loopg [13, 77] 256 (fun gk v13 v77 wy => ∃ (c n' : Nat), v77 = .int .i64 c ∧ c ≤ 256 ∧ 256 - c ≤ gk ∧ n' ≤ 40 + 40 * c ∧ Hid (Ext wd wy ∧ wy.ownsRow wd.heap.size 24 2 v13 n' (flat (((bgn X pp).filter fun q => decide (q.1 = pp)) ++ gos X pp c))))
          case atStart => exact ⟨0, n, rfl, Nat.zero_le _, by omega, by omega, Lib.hid ⟨HJ0.out.1, by simp only [gos, List.append_nil]; exact HJ0.out.2⟩⟩
          case round =>
            obtain ⟨c, n', rfl, hc256, hgk3, hn', HC⟩ := hrel
            rcases Nat.lt_or_ge c 256 with hlt | hge
            · as_aux_lemma =>
               have d3 : decide (c < 256) = true := by simp [hlt]
               have hi1 : (c : Int) < 256 := by omega
               have hcv := fun w => conv_one w c hlt
               have hbb : bs pp ++ bs [UInt8.ofNat c] = bs (pp ++ [UInt8.ofNat c]) := bs_append _ _
               have hl1 : (9223372036854775807 < pp.length + 1) = False := by simp; omega
               have hl2 : (maxLen < pp.length + 1) = False := by unfold maxLen; simp; omega
               obtain ⟨pc, hpc⟩ : ∃ pc, pc = pp ++ [UInt8.ofNat c] := ⟨_, rfl⟩
               rw [← hpc] at hbb
               have HPC := Lib.hid hpc
               have hpcl : pc.length ≤ 1000 := by rw [hpc]; simp; omega
               clear hpc
               repeat' (first | go_at_call 32 | go_skip | go_guarded | go_step)
               refine (prefix_c _ pc (by omega)).mono ?_
               rintro e x5 ⟨rfl, q5⟩
               obtain ⟨sx, hsx⟩ : ∃ sx, sx = Sp.pfx pc := ⟨_, rfl⟩
               rw [← hsx]
               have HSX := Lib.hid hsx
               have hsxf : sx.f.length ≤ 1000 := by rw [hsx]; show pc.length ≤ 1000; omega
               have H5 : Hid (Ext wd x5) := Lib.hid (Ext.trans (HC.out.1.alloc HC.out.1.size _) q5)
               have H5w : Hid (Ext wr x5) := Lib.hid (Ext.trans ((Ext.refl _).alloc (Nat.le_refl _) _) q5)
               have HCX : Hid (bgn X pc = com sx false [(treeOf L, [], false)]) := Lib.hid (by rw [hsx]; exact HCOM.out pc)
               obtain ⟨fx, tx, ox⟩ := sx
               clear q5 hsx
               go_simp
               repeat' (first | go_at_call 25 | go_skip | go_guarded | go_step)
               refine (spairs_c x5 (some ⟨g, 0, none⟩) _ ⟨fx, tx, ox⟩ (bgn X pc) (.root (HB.out.2.1.ext (Ext.trans H62.out.1 H5.out))) HG.out hwt hsxf HCX.out (by have := HBL.out pc; omega)).mono ?_
               rintro e x6 ⟨v89, rfl, r89, q89⟩
               obtain ⟨m9, hm9⟩ : ∃ m9, m9 = (bgn X pc).length := ⟨_, rfl⟩
               have hm940 : m9 ≤ 40 := by rw [hm9]; exact HBL.out pc
               have HM9 := Lib.hid hm9
               rw [← hm9] at r89
               obtain ⟨P89, C89, rfl⟩ := own_slice r89
               obtain ⟨P89', C89', e89, _, _, _, hs89⟩ := PS.of_own r89
               have H6 : Hid (Ext wd x6 ∧ Seg x6 P89 (flat (bgn X pc)) ∧ Ext wr x6) := Lib.hid ⟨Ext.trans H5.out q89, by injection e89 with h1; rw [h1]; exact hs89, Ext.trans H5w.out q89⟩
               clear r89 q89 hs89 e89 hm9
               go_simp
               repeat' (first
                 | (at_builtin; refine wpList_appE (W := wd) rfl (.tmp 80) (.tmp 89) _ rfl 24 2 32 Try.underlying22 infoPr (by decide) _ n' _ rfl (row_extG HC.out.2 H6.out.2.2) H6.out.1 P89 m9 C89 (flat (bgn X pc)) rfl (by rw [flat_length, HM9.out]) H6.out.2.1 (flat_one _) (by unfold maxLen; omega) (by omega) ?_; intro v9 w9 hown9 hb9; have H9 := Lib.hid (And.intro hb9 hown9); clear hb9 hown9)
                 | go_skip | go_guarded | go_step)
               go_roundg (256 - (c + 1))
               case measure => omega
               case rel =>
                 refine ⟨c + 1, n' + m9, by go_num, by omega, Nat.le_refl _, by omega, Lib.hid ⟨H9.out.1, ?_⟩⟩
                 have := H9.out.2
                 rw [HPC.out, ← flat_append, List.append_assoc] at this
                 exact this
            · obtain rfl : c = 256 := by omega
              have d3 : decide (256 < 256) = false := by simp
              repeat' (go_not_at_region 24; (first | go_skip | go_guarded | go_step))
              have hrow := HC.out.2
              have hEE : ((bgn X pp).filter fun q => decide (q.1 = pp)) = X.filter fun q => decide (q.1 = pp) := by
                unfold bgn
                rw [List.filter_filter]
                refine List.filter_congr fun q _ => ?_
                by_cases hq : q.1 = pp
                · simp [hq, begins]
                · simp [hq]
              rw [hEE, nests_all HL.out.2.2.2 pp] at hrow
              have HR : Hid (PS wr u13 (bgn X pp)) := Lib.hid (PS.of_own hrow)
              have HW : Hid (Ext wb wr) := Lib.hid (Ext.trans H62.out.1 HC.out.1)
              have HK7 : Hid (∀ x, Ext wr x → (x.cell? ⟨g9, 0, none⟩ = some (str f1) ∧ x.cell? ⟨g9, 1, none⟩ = some (str t1) ∧ x.cell? ⟨g9, 2, none⟩ = some (.bool o1)) ∧ (x.cell? ⟨g9 + 1, 0, none⟩ = some (str f2) ∧ x.cell? ⟨g9 + 1, 1, none⟩ = some (str t2) ∧ x.cell? ⟨g9 + 1, 2, none⟩ = some (.bool o2))) := Lib.hid (fun x hx => ⟨box3 (box_extG HB.out.2.2.1 (Ext.trans HW.out hx)), box3 (box_extG HB.out.2.2.2 (Ext.trans HW.out hx))⟩)
              clear hrow hEE hgk3 HC
              obtain ⟨⟨b0, b1, b2⟩, b3, b4, b5⟩ := HK7.out wr (Ext.refl _)
              have hge : (i : Int) ≤ (j : Int) := by omega
              go_region_held3 (fun x => (x.cell? ⟨g9, 0, none⟩ = some (str f1) ∧ x.cell? ⟨g9, 1, none⟩ = some (str t1) ∧ x.cell? ⟨g9, 2, none⟩ = some (.bool o1)) ∧ (x.cell? ⟨g9 + 1, 0, none⟩ = some (str f2) ∧ x.cell? ⟨g9 + 1, 1, none⟩ = some (str t2) ∧ x.cell? ⟨g9 + 1, 2, none⟩ = some (.bool o2)))
                (first | exact HK7.out _ k4.out | exact HK7.out _ k3.out | exact HK7.out _ k2.out | exact HK7.out _ k1.out | exact HK7.out _ (below_drewN (Ext.refl _) 1) | exact HK7.out _ (Ext.refl _))
                (first
                  | (go_at_call 25; refine (spairs_c _ (some ⟨g, 0, none⟩) _ ⟨f1, t1, o1⟩ (bgn X pp) (.root (HB.out.2.1.ext (Ext.trans HW.out (below_drewN (Ext.refl _) 1)))) HG.out hwt hs1f HC1.out (by have := HBL.out pp; omega)).mono ?_; rintro e y1 ⟨v95, rfl, r95, q95⟩; have k1 : Hid (Ext wr y1) := Lib.hid (Ext.trans (below_drewN (Ext.refl _) 1) q95); have K1 := Lib.hid (PS.of_own r95); clear r95 q95)
                  | (go_at_call 31; refine (sameG_c y1 u13 v95 (bgn X pp) (bgn X pp) (HR.out.below k1.out) K1.out (by have := HBL.out pp; omega) (by have := HBL.out pp; omega)).mono ?_; rintro e y2 ⟨he, q2⟩; rw [show decide (bgn X pp = bgn X pp) = true by simp] at he; subst he; have k2 : Hid (Ext wr y2) := Lib.hid (Ext.trans k1.out q2); clear q2)
                  | (go_at_call 24; first
                      | (have hk := k3.out; refine (scount_c y3 (some ⟨g, 0, none⟩) _ ⟨f2, t2, o2⟩ (bgn X pm) (.root (HB.out.2.1.ext (Ext.trans HW.out k3.out))) HG.out hwt hs2f HC2.out (by have := HBL.out pm; omega)).mono ?_; rintro e y4 ⟨he, q4⟩; rw [← HN.out.1] at he; subst he; have k4 : Hid (Ext wr y4) := Lib.hid (Ext.trans k3.out q4); clear q4)
                      | (refine (scount_c y2 (some ⟨g, 0, none⟩) _ ⟨f1, t1, o1⟩ (bgn X pp) (.root (HB.out.2.1.ext (Ext.trans HW.out k2.out))) HG.out hwt hs1f HC1.out (by have := HBL.out pp; omega)).mono ?_; rintro e y3 ⟨he, q3⟩; rw [← HN.out.2] at he; subst he; have k3 : Hid (Ext wr y3) := Lib.hid (Ext.trans k2.out q3); clear q3)))
              repeat' (first | go_skip | go_guarded | go_step)
              go_ret
              exact ⟨rfl, Ext.trans HB.out.1 (Ext.trans HW.out k4.out)⟩
end Go.Proofs.Ytbplddiopajocaa
