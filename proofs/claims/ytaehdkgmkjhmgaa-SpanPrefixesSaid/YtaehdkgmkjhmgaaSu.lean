/- Contract: SpanPrefixes. -/
import Derived.Test.YtaehdkgmkjhmgaaSt6
namespace Go.Proofs.Ytaehdkgmkjhmgaa
open Go.RowKit Go.QS
set_option linter.unusedVariables false

theorem treeL_keys (l : List Pr) : ∀ p ∈ (l.take 40).map cutP, p.1.length ≤ 40 := by
  intro p hp
  obtain ⟨q, _, rfl⟩ := List.mem_map.1 hp
  simp [cutP]; omega
theorem treeL_len (l : List Pr) : ((l.take 40).map cutP).length ≤ 40 := by
  rw [List.length_map, List.length_take]; omega
theorem filter_snoc {α : Type} {l : List α} {i : Nat} {q : α} (f : α → Bool) (h : l[i]? = some q) : (l.take (i + 1)).filter f = (l.take i).filter f ++ if f q then [q] else [] := by
  rw [take_snoc h, List.filter_append]
  cases hf : f q <;> simp [hf]

set_option maxRecDepth 100000 in
set_option maxHeartbeats 2000000 in
theorem spanPrefixes_c (w : World) (v : Value) (l : List Pr) (pp kk : List UInt8) (h : PS w v l) : Calls Try.prog 3 #[v, str pp, str kk] w fun e w' => e = .returned (.bool true) ∧ Ext w w' := by
  have H0 := Lib.hid h
  obtain ⟨A, c, rfl, hl, hn, hc, hs⟩ := h
  clear hl hn hc hs
  obtain ⟨L, hL⟩ : ∃ L, L = (l.take 40).map cutP := ⟨_, rfl⟩
  have hLk : ∀ p ∈ L, p.1.length ≤ 40 := by rw [hL]; exact treeL_keys l
  have hLl : L.length ≤ 40 := by rw [hL]; exact treeL_len l
  have HL := Lib.hid hL
  have HLK := Lib.hid hLk
  have hXl := rsort_length L
  obtain ⟨X, hX⟩ : ∃ X, X = rsort L := ⟨_, rfl⟩
  have HX := Lib.hid hX
  rw [← hX] at hXl
  have hkeys : ∀ q ∈ X, q.1.length ≤ 40 := by
    intro q hq
    rw [hX] at hq
    exact hLk q (lastK_mem ((mem_rsort L q).1 hq)).1
  have HKS := Lib.hid hkeys
  obtain ⟨p, hp⟩ : ∃ p, p = pp.take 40 := ⟨_, rfl⟩
  obtain ⟨k, hk⟩ : ∃ k, k = kk.take 40 := ⟨_, rfl⟩
  have hpl : p.length ≤ 40 := by rw [hp, List.length_take]; omega
  have hkl : k.length ≤ 40 := by rw [hk, List.length_take]; omega
  have HP := Lib.hid hp
  have HK := Lib.hid hk
  clear hL hLk hX hkeys hp hk
  go_enter Try.func3, Try.ntmps3
  repeat' (first | go_at_call 15 | go_skip | go_guarded | go_step)
  refine (awake_c _).mono ?_
  rintro e w1 ⟨rfl, f1⟩
  replace H0 := Lib.hid (And.intro f1 (H0.out.below f1))
  clear f1
  go_simp
  repeat' (first | go_at_call 16 | go_skip | go_guarded | go_step)
  refine (tree_c _ _ l H0.out.2).mono ?_
  rintro e w2 ⟨g, v2, rfl, f2, r2, p2⟩
  rw [← HL.out] at r2 p2
  rw [← HX.out] at p2
  have H2 : Hid (Ext w w2 ∧ Rep NT w2 g (treeOf L) ∧ PS w2 v2 X) := Lib.hid ⟨Ext.trans H0.out.1 f2, r2, p2⟩
  clear f2 r2 p2
  have hfld := field0
  go_simp
  repeat' (first | go_at_call 17 | go_skip | go_guarded | go_step)
  refine (few1_c _ pp).mono ?_
  rintro e w3 ⟨rfl, f3⟩
  rw [← HP.out]
  replace H2 := Lib.hid (And.intro (Ext.trans H2.out.1 f3) (And.intro (H2.out.2.1.ext f3) (H2.out.2.2.below f3)))
  clear f3
  go_simp
  repeat' (first | go_at_call 17 | go_skip | go_guarded | go_step)
  refine (few1_c _ kk).mono ?_
  rintro e w4 ⟨rfl, f4⟩
  rw [← HK.out]
  replace H2 := Lib.hid (And.intro (Ext.trans H2.out.1 f4) (And.intro (H2.out.2.1.ext f4) (H2.out.2.2.below f4)))
  clear f4
  go_simp
  repeat' (first | go_at_call 18 | go_skip | go_guarded | go_step)
  refine (prefix_c _ p (by omega)).mono ?_
  rintro e w5 ⟨rfl, f5⟩
  replace H2 := Lib.hid (And.intro (Ext.trans H2.out.1 f5) (And.intro (H2.out.2.1.ext f5) (H2.out.2.2.below f5)))
  clear f5
  obtain ⟨z, hz⟩ : ∃ z, z = Sp.pfx p := ⟨_, rfl⟩
  have hzf : z.f = p := by rw [hz]; rfl
  have HZ := Lib.hid hz
  rw [← hz]
  obtain ⟨zf, zt, zo⟩ := z
  simp only at hzf
  have HZF := Lib.hid hzf
  clear hz hzf
  go_simp
  repeat' (go_not_at_region 6; (first | go_skip | go_guarded | go_step))
  obtain ⟨g5, hg5⟩ : ∃ g5, g5 = w5.heap.size := ⟨_, rfl⟩
  have b5 := heap_new w5 (.cells #[str zf, str zt, .bool zo] 32)
  have hE5 := (Ext.refl w5).alloc (Nat.le_refl _) (.cells #[str zf, str zt, .bool zo] 32)
  obtain ⟨w6, hw6⟩ : ∃ w6, w6 = w5.alloc (.cells #[str zf, str zt, .bool zo] 32) := ⟨_, rfl⟩
  have hw6' : w5.alloc (.cells #[Value.string (bs zf), Value.string (bs zt), Value.bool zo] 32) = w6 := hw6.symm
  rw [← hw6, ← hg5] at b5
  rw [← hw6] at hE5
  rw [hw6', ← hg5]
  have H6 : Hid (Ext w w6 ∧ Rep NT w6 g (treeOf L) ∧ PS w6 v2 X ∧ w6.heap[g5]? = some (.cells #[str zf, str zt, .bool zo] 32 (0, 0))) := Lib.hid ⟨Ext.trans H2.out.1 hE5, H2.out.2.1.ext hE5, H2.out.2.2.below hE5, b5⟩
  clear b5 hE5 hw6 hw6' hg5
  go_cut [50] (fun vv wx => Hid (vv = .bool false ∧ Ext w wx ∧ Rep NT wx g (treeOf L) ∧ PS wx v2 X ∧ wx.heap[g5]? = some (.cells #[str zf, str zt, .bool zo] 32 (0, 0))))
  case first =>
    refine sp6 w w6 g g5 L X v2 zf zt p k zo _ _ _ _ _ _ _ _ _ _ _ _ _ _ _ _ _ _ _ _ _ _ _ _ _ _ _ _ _ _ _ _ _ _ _ _ _ _ _ _ _ _ _ _ _ _ _ _ _ _ _ _ _ _ _ _ _ _ _ _ _ _ _ _ _ _ _ _ hLl hpl hkl HX HLK HZ H6 (by kernel_rfl) ?_
    intro vv u30 u31 u32 u33 u34 u35 u36 u37 u38 u39 u40 u41 u42 u43 u44 u45 u46 u47 u48 u49 wx h
    rename_i J K' hJ hK
    refine hK _ _ (Met.intro (hJ _ _ ?_))
    (repeat apply Exists.intro)
    refine ⟨Lib.hid h, rfl⟩
  case rest =>
  obtain ⟨hvv, hw0⟩ := hcut.out
  subst hvv
  replace H6 := Lib.hid hw0
  clear hcut hw0
  have HXS := Lib.hid H6.out.2.2.1
  have hvx : ∃ A c, v2 = .slice A X.length c := by obtain ⟨A, c, e, _⟩ := H6.out.2.2.1; exact ⟨A, c, e⟩
  obtain ⟨AX, cX, rfl⟩ := hvx
  obtain ⟨n, hn⟩ : ∃ n, n = X.length := ⟨_, rfl⟩
  rw [← hn]
  have Hn := Lib.hid hn
  have hn40 : n ≤ 40 := by omega
  have hsX : Seg wc AX (flat X) := by
    obtain ⟨A', c', e, h1, h2, h3, h4⟩ := H6.out.2.2.1
    cases e; exact h4
  have HSX := Lib.hid hsX
  clear hn hsX
  repeat' (go_not_at_region 10; (first | go_skip | go_guarded | go_step))
  go_loopg [10, 53] n (fun gk v10 v53 wr => ∃ i : Nat, v53 = .int .i64 i ∧ i ≤ n ∧ n - i ≤ gk ∧ Ext wc wr ∧ Hid (wr.ownsRow wc.heap.size 40 2 v10 ((X.take i).filter fun q => begins q.1 p).length (flat ((X.take i).filter fun q => begins q.1 p))))
  case atStart => exact ⟨0, rfl, Nat.zero_le _, by omega, Ext.refl _, Lib.hid (World.ownsRow_nil _ _ _ _)⟩
  case round => as_aux_lemma =>
    obtain ⟨i, rfl, hin, hgk, hE, HO⟩ := hrel
    have hfl : ((X.take i).filter fun q => begins q.1 p).length ≤ 40 := Nat.le_trans (List.length_filter_le _ _) (by rw [List.length_take]; omega)
    rcases Nat.lt_or_ge i n with hlt | hge
    · have d1 : decide (i < n) = true := by simp [hlt]
      obtain ⟨q, hq⟩ := get_of_lt X (show i < X.length by have := Hn.out; omega)
      obtain ⟨b, o, rfl, hq1, hq2⟩ := seg_pair (HSX.out.below hE) hq
      have hi1 : (i : Int) < (n : Int) := by omega
      have hql := HKS.out q (List.mem_of_getElem? hq)
      have HQ := Lib.hid hq
      clear hq
      repeat' (first | go_at_call 20 | go_skip | go_guarded | go_step)
      obtain ⟨gq, hgq⟩ : ∃ gq, gq = wr.heap.size := ⟨_, rfl⟩
      refine (rbegins_c _ q.1 p (by omega) (by omega)).mono ?_
      rintro e x1 ⟨rfl, y1⟩
      have b1 := box_ext (heap_new wr (.cells #[str q.1, str q.2] 40)) y1
      have hEx : Ext wr x1 := Ext.trans ((Ext.refl wr).alloc (Nat.le_refl _) _) y1
      rw [← hgq] at b1 ⊢
      obtain ⟨k0, k1⟩ := box_cells b1
      have hgl := heap_lt b1
      have hE1 : Ext wc x1 := Ext.trans hE hEx
      have hown := row_ext HO.out hEx
      have hsn := filter_snoc (fun q : Pr => begins q.1 p) HQ.out
      clear b1 y1 hgq hEx
      cases hbq : begins q.1 p with
      | false =>
        simp only [hbq, Bool.false_eq_true, if_false, List.append_nil] at hsn
        have HS := Lib.hid (And.intro hsn hown)
        clear hsn hown
        go_simp
        repeat' (first | go_skip | go_guarded | go_step)
        go_roundg (n - (i + 1))
        case measure => omega
        case rel => exact ⟨i + 1, by go_num, by omega, Nat.le_refl _, hE1, Lib.hid (by rw [HS.out.1]; exact HS.out.2)⟩
      | true =>
        simp only [hbq, if_true] at hsn
        have HS := Lib.hid hsn
        clear hsn
        go_simp
        repeat' (first | (at_builtin; refine wpList_appE (W := wc) rfl (.tmp 61) (.tmp 63) _ rfl 40 2 32 Try.underlying25 infoR (by decide) _ _ _ rfl (hown.alloc _) (hE1.alloc hE1.size _) _ 1 1 [str q.1, str q.2] rfl rfl (Seg.new _ [_, _] _ (by simp)) (by intro u hu; simp at hu; rcases hu with rfl | rfl <;> rfl) (by unfold maxLen; omega) (by omega) ?_; intro v5 w5' hown5 hb5) | go_step)
        go_roundg (n - (i + 1))
        case measure => omega
        case rel => exact ⟨i + 1, by go_num, by omega, Nat.le_refl _, hb5, Lib.hid (by rw [HS.out, List.length_append, flat_append]; exact hown5)⟩
    · obtain rfl : i = n := by omega
      have d1 : decide (i < i) = false := by simp
      have ht : X.take i = X := List.take_of_length_le (by have := Hn.out; omega)
      have hown := HO.out
      rw [ht] at hown
      have HW := Lib.hid (PS.of_own hown)
      have HE : Hid (Ext w wr ∧ Rep NT wr g (treeOf L) ∧ wr.heap[g5]? = some (.cells #[str zf, str zt, .bool zo] 32 (0, 0))) := Lib.hid ⟨Ext.trans H6.out.1 hE, H6.out.2.1.ext hE, box_ext H6.out.2.2.2 hE⟩
      obtain ⟨e0, e1, e2⟩ := box3 HE.out.2.2
      clear ht hown hfl
      repeat' (first | go_at_call 23 | go_skip | go_guarded | go_step)
      refine (new_c _ g (treeOf L) ⟨zf, zt, zo⟩ false HE.out.2.1).mono ?_
      rintro e wD ⟨cD, VD, rfl, hCD⟩
      have HCD := Lib.hid hCD
      clear hCD e0 e1 e2
      go_simp
      repeat' (first | go_at_call 22 | go_skip | go_guarded | go_step)
      refine (goes_c _ wD cD VD _ [(treeOf L, [], false)] ⟨zf, zt, zo⟩ false _ _ HCD.out (root_good L HLK.out) (root_wt L HLK.out hLl) (by show zf.length ≤ 1000; rw [HZF.out]; omega) HW.out).mono ?_
      rintro e wE ⟨rfl, fE⟩
      have hgo : decide (com ⟨zf, zt, zo⟩ false [(treeOf L, [], false)] = X.filter fun q => begins q.1 p) = true := by
        rw [root_com L HLK.out, ← HX.out]
        simp only [Bool.false_eq_true, if_false]
        rw [decide_eq_true_eq]
        congr 1
        funext q
        rw [HZ.out]
        exact pfx_has p q.1
      rw [hgo]
      have HFE := Lib.hid fE
      clear fE hgo
      go_simp
      repeat' (first | go_skip | go_guarded | go_step)
      go_ret
      exact ⟨rfl, Ext.trans HE.out.1 HFE.out⟩
end Go.Proofs.Ytaehdkgmkjhmgaa
