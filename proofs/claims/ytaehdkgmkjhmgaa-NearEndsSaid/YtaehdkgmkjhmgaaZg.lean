/- Contract: NearEnds. -/
import Derived.Test.YtaehdkgmkjhmgaaZr
namespace Go.Proofs.Ytaehdkgmkjhmgaa
open Go.RowKit Go.QS
set_option linter.unusedVariables false

set_option maxRecDepth 100000 in
set_option maxHeartbeats 2000000 in
theorem nearEnds_c (w : World) (v : Value) (l : List Pr) (i : Int) (h : PS w v l) : Calls Try.prog 11 #[v, .int .i64 i] w fun e w' => e = .returned (.bool true) ∧ Ext w w' := by
  have HP := Lib.hid h
  obtain ⟨L, hL⟩ : ∃ L, L = (l.take 40).map cutP := ⟨_, rfl⟩
  have hLk : ∀ p ∈ L, p.1.length ≤ 40 := by
    intro p hp
    rw [hL] at hp
    obtain ⟨q, _, rfl⟩ := List.mem_map.1 hp
    simp [cutP]; omega
  have hLl : L.length ≤ 40 := by rw [hL]; simp; omega
  obtain ⟨hlab, hkd, hprs⟩ := treeOf_ok L hLk
  obtain ⟨X, hX⟩ : ∃ X, X = rsort L := ⟨_, rfl⟩
  have hXl : X.length ≤ 40 := by rw [hX]; have := rsort_length L; omega
  have hXr : Rise X := by rw [hX]; exact rsort_rise L
  have hXk : ∀ p ∈ X, p.1.length ≤ 40 := by
    intro p hp
    rw [hX] at hp
    exact hLk p (lastK_mem ((mem_rsort L p).1 hp)).1
  rw [← hX] at hprs
  obtain ⟨T, hT⟩ : ∃ T, T = treeOf L := ⟨_, rfl⟩
  rw [← hT] at hprs hkd hlab
  have HT : Hid (Rise X ∧ (∀ p ∈ X, p.1.length ≤ 40) ∧ T.prs = X ∧ Kd 40 T.kids ∧ T.lab = [] ∧ T.prs.length ≤ 1000000 ∧ Rise T.prs) := Lib.hid ⟨hXr, hXk, hprs, hkd, hlab, by rw [hprs]; omega, by rw [hprs]; exact hXr⟩
  have HL := Lib.hid hL
  have HX := Lib.hid hX
  have HTT := Lib.hid hT
  have hfld := fieldN
  clear h hL hLk hlab hkd hprs hX hXr hXk hT
  go_enter Try.func11, Try.ntmps11
  repeat' (first | go_at_call 34 | go_skip | go_guarded | go_step)
  refine (awakeN_c w).mono ?_
  rintro e w0 ⟨rfl, f0⟩
  have H0 := Lib.hid f0
  clear f0
  go_simp
  repeat' (first | go_at_call 35 | go_skip | go_guarded | go_step)
  refine (tree_c w0 v l (HP.out.below H0.out)).mono ?_
  rintro e w1 ⟨g, v2, rfl, f1, r1, p1⟩
  rw [← HL.out, ← HX.out] at p1
  rw [← HL.out, ← HTT.out] at r1
  have H1 : Hid (Ext w w1 ∧ (∀ x, Ext w1 x → RepO x (ptr g) T) ∧ (∀ x, Ext w1 x → PS x v2 X)) := Lib.hid ⟨Ext.trans H0.out f1, fun x hx => .of (r1.ext hx), fun x hx => p1.below hx⟩
  obtain ⟨A, C, rfl, hXlen, hn, hc, hs⟩ := p1
  obtain ⟨n, hn2⟩ : ∃ n, n = X.length := ⟨_, rfl⟩
  rw [← hn2] at hn hXl H1 ⊢
  have Hn := Lib.hid hn2
  have HS := Lib.hid hs
  clear f1 r1 hs hXlen hn2
  go_simp
  obtain ⟨a7, v7, c7, h7⟩ := optR_lit (atI X 0)
  obtain ⟨a9, v9, c9, h9⟩ := optR_lit (atI X ((n : Int) - 1))
  obtain ⟨a11, v11, c11, h11⟩ := optR_lit (atI X i)
  have L7 := Lib.hid h7
  have L9 := Lib.hid h9
  have L11 := Lib.hid h11
  have HMIN : Hid (pick false X = atI X 0) := Lib.hid (by rw [pick_first]; rfl)
  have HMAX : Hid (pick true X = atI X ((n : Int) - 1)) := Lib.hid (by rw [pick_last, Hn.out])
  clear h7 h9 h11
  repeat' (first | go_at_call 36 | go_skip | go_guarded | go_step)
  refine (min_c w1 (ptr g) T 40 (H1.out.2.1 w1 (Ext.refl _)) HT.out.2.2.2.1 HT.out.2.2.2.2.1 (by decide)).mono ?_
  rintro e x1 ⟨rfl, f1⟩
  rw [HT.out.2.2.1, HMIN.out, L7.out]
  have F1 := Lib.hid (Ext.trans (Ext.refl w1) f1)
  have G1 := Lib.hid f1
  clear f1
  go_simp
  repeat' (go_not_at_region 5; (first | go_skip | go_guarded | go_step))
  obtain ⟨y1, hy1⟩ : ∃ y, y = x1.alloc (.cells #[str a7, str v7] 29) := ⟨_, rfl⟩
  obtain ⟨b7, hb7⟩ : ∃ b, b = x1.heap.size := ⟨_, rfl⟩
  have hE1 : Ext x1 y1 := by rw [hy1]; exact (Ext.refl _).alloc (Nat.le_refl _) _
  have hbx1 := heap_new x1 (.cells #[str a7, str v7] 29)
  rw [← hy1, ← hb7] at hbx1
  have hy1' := hy1.symm
  rw [hy1', ← hb7]
  have Y1 : Hid (Ext w1 y1 ∧ y1.heap[b7]? = some (.cells #[str a7, str v7] 29 (0, 0))) := Lib.hid ⟨Ext.trans F1.out hE1, hbx1⟩
  replace G1 := Lib.hid (Ext.trans G1.out hE1)
  clear hy1 hb7 hE1 hbx1 hy1'
  repeat' (first | go_at_call 38 | go_skip | go_guarded | go_step)
  refine (max_c y1 (ptr g) T 40 (H1.out.2.1 y1 Y1.out.1) HT.out.2.2.2.1 HT.out.2.2.2.2.1 (by decide)).mono ?_
  rintro e x2 ⟨rfl, f2⟩
  rw [HT.out.2.2.1, HMAX.out, L9.out]
  have F2 := Lib.hid (Ext.trans Y1.out.1 f2)
  have G2 := Lib.hid f2
  clear f2
  go_simp
  repeat' (go_not_at_region 6; (first | go_skip | go_guarded | go_step))
  obtain ⟨y2, hy2⟩ : ∃ y, y = x2.alloc (.cells #[str a9, str v9] 29) := ⟨_, rfl⟩
  obtain ⟨b9, hb9⟩ : ∃ b, b = x2.heap.size := ⟨_, rfl⟩
  have hE2 : Ext x2 y2 := by rw [hy2]; exact (Ext.refl _).alloc (Nat.le_refl _) _
  have hbx2 := heap_new x2 (.cells #[str a9, str v9] 29)
  rw [← hy2, ← hb9] at hbx2
  have hy2' := hy2.symm
  rw [hy2', ← hb9]
  have Y2 : Hid (Ext w1 y2 ∧ y2.heap[b9]? = some (.cells #[str a9, str v9] 29 (0, 0))) := Lib.hid ⟨Ext.trans F2.out hE2, hbx2⟩
  replace G2 := Lib.hid (Ext.trans G2.out hE2)
  clear hy2 hb9 hE2 hbx2 hy2'
  repeat' (first | go_at_call 42 | go_skip | go_guarded | go_step)
  refine (nth_c y2 (ptr g) T 40 i (H1.out.2.1 y2 Y2.out.1) HT.out.2.2.2.1 HT.out.2.2.2.2.1 (by decide) HT.out.2.2.2.2.2.1).mono ?_
  rintro e x3 ⟨rfl, f3⟩
  rw [HT.out.2.2.1, L11.out]
  have F3 := Lib.hid (Ext.trans Y2.out.1 f3)
  have G3 := Lib.hid f3
  clear f3
  go_simp
  repeat' (go_not_at_region 7; (first | go_skip | go_guarded | go_step))
  obtain ⟨y3, hy3⟩ : ∃ y, y = x3.alloc (.cells #[str a11, str v11] 29) := ⟨_, rfl⟩
  obtain ⟨b11, hb11⟩ : ∃ b, b = x3.heap.size := ⟨_, rfl⟩
  have hE3 : Ext x3 y3 := by rw [hy3]; exact (Ext.refl _).alloc (Nat.le_refl _) _
  have hbx3 := heap_new x3 (.cells #[str a11, str v11] 29)
  rw [← hy3, ← hb11] at hbx3
  have hy3' := hy3.symm
  rw [hy3', ← hb11]
  have Y3 : Hid (Ext w1 y3 ∧ y3.heap[b11]? = some (.cells #[str a11, str v11] 29 (0, 0))) := Lib.hid ⟨Ext.trans F3.out hE3, hbx3⟩
  replace G3 := Lib.hid (Ext.trans G3.out hE3)
  clear hy3 hb11 hE3 hbx3 hy3'
  repeat' (first | go_at_call 43 | go_skip | go_guarded | go_step)
  refine (at_c y3 _ X 0 (H1.out.2.2 y3 Y3.out.1)).mono ?_
  rintro e x4 ⟨rfl, f4⟩
  rw [L7.out]
  have F4 := Lib.hid (Ext.trans Y3.out.1 f4)
  have G4 := Lib.hid f4
  clear f4
  go_simp
  repeat' (go_not_at_region 8; (first | go_skip | go_guarded | go_step))
  obtain ⟨y4, hy4⟩ : ∃ y, y = x4.alloc (.cells #[str a7, str v7] 40) := ⟨_, rfl⟩
  obtain ⟨b13, hb13⟩ : ∃ b, b = x4.heap.size := ⟨_, rfl⟩
  have hE4 : Ext x4 y4 := by rw [hy4]; exact (Ext.refl _).alloc (Nat.le_refl _) _
  have hbx4 := heap_new x4 (.cells #[str a7, str v7] 40)
  rw [← hy4, ← hb13] at hbx4
  have hy4' := hy4.symm
  rw [hy4', ← hb13]
  have Y4 : Hid (Ext w1 y4 ∧ y4.heap[b13]? = some (.cells #[str a7, str v7] 40 (0, 0))) := Lib.hid ⟨Ext.trans F4.out hE4, hbx4⟩
  replace G4 := Lib.hid (Ext.trans G4.out hE4)
  clear hy4 hb13 hE4 hbx4 hy4'
  repeat' (first | go_at_call 43 | go_skip | go_guarded | go_step)
  refine (at_c y4 _ X ((n : Int) - 1) (H1.out.2.2 y4 Y4.out.1)).mono ?_
  rintro e x5 ⟨rfl, f5⟩
  rw [L9.out]
  have F5 := Lib.hid (Ext.trans Y4.out.1 f5)
  have G5 := Lib.hid f5
  clear f5
  go_simp
  repeat' (go_not_at_region 9; (first | go_skip | go_guarded | go_step))
  obtain ⟨y5, hy5⟩ : ∃ y, y = x5.alloc (.cells #[str a9, str v9] 40) := ⟨_, rfl⟩
  obtain ⟨b15, hb15⟩ : ∃ b, b = x5.heap.size := ⟨_, rfl⟩
  have hE5 : Ext x5 y5 := by rw [hy5]; exact (Ext.refl _).alloc (Nat.le_refl _) _
  have hbx5 := heap_new x5 (.cells #[str a9, str v9] 40)
  rw [← hy5, ← hb15] at hbx5
  have hy5' := hy5.symm
  rw [hy5', ← hb15]
  have Y5 : Hid (Ext w1 y5 ∧ y5.heap[b15]? = some (.cells #[str a9, str v9] 40 (0, 0))) := Lib.hid ⟨Ext.trans F5.out hE5, hbx5⟩
  replace G5 := Lib.hid (Ext.trans G5.out hE5)
  clear hy5 hb15 hE5 hbx5 hy5'
  repeat' (first | go_at_call 43 | go_skip | go_guarded | go_step)
  refine (at_c y5 _ X i (H1.out.2.2 y5 Y5.out.1)).mono ?_
  rintro e x6 ⟨rfl, f6⟩
  rw [L11.out]
  have F6 := Lib.hid (Ext.trans Y5.out.1 f6)
  have G6 := Lib.hid f6
  clear f6
  go_simp
  repeat' (go_not_at_region 10; (first | go_skip | go_guarded | go_step))
  obtain ⟨y6, hy6⟩ : ∃ y, y = x6.alloc (.cells #[str a11, str v11] 40) := ⟨_, rfl⟩
  obtain ⟨b17, hb17⟩ : ∃ b, b = x6.heap.size := ⟨_, rfl⟩
  have hE6 : Ext x6 y6 := by rw [hy6]; exact (Ext.refl _).alloc (Nat.le_refl _) _
  have hbx6 := heap_new x6 (.cells #[str a11, str v11] 40)
  rw [← hy6, ← hb17] at hbx6
  have hy6' := hy6.symm
  rw [hy6', ← hb17]
  have Y6 : Hid (Ext w1 y6 ∧ y6.heap[b17]? = some (.cells #[str a11, str v11] 40 (0, 0))) := Lib.hid ⟨Ext.trans F6.out hE6, hbx6⟩
  replace G6 := Lib.hid (Ext.trans G6.out hE6)
  clear hy6 hb17 hE6 hbx6 hy6'
  refine ends_r10 y6 b7 b9 b11 b13 b15 b17 a7 v7 a9 v9 a11 v11 c7 c9 c11 (Lib.hid ?_) _ _ _ _ _ _ _ _ _ _ _ _ _ _ _ _ _ _ _ _ _ _ _ _ _ _ _ _ _ _ _ _ _ _ _ _ _ _ _ _ _ _ _ _ _ _ _ _ _ _ _ _ _ _ _ _ _ _ _ _ _ _ _ _ _ _ _ _ _ _ _ _ _ _ _ _ _ _ _ _ _ _ _ _ _ _ _ _ _ _ _ _ _ _ _ _ _ _ _ _ _ _ _ _ (by kernel_rfl) ?_
  · have e56 : Ext y5 y6 := G6.out
    have e46 : Ext y4 y6 := Ext.trans G5.out e56
    have e36 : Ext y3 y6 := Ext.trans G4.out e46
    have e26 : Ext y2 y6 := Ext.trans G3.out e36
    have e16 : Ext y1 y6 := Ext.trans G2.out e26
    exact ⟨⟨bx_ext Y1.out.2 e16, bx_ext Y4.out.2 e46⟩, ⟨bx_ext Y2.out.2 e26, bx_ext Y5.out.2 e56⟩, ⟨bx_ext Y3.out.2 e36, Y6.out.2⟩⟩
  intro u64 u65 u66 u67 u68 u69 u70 u71 u72 u73 u74 u75 u76 u77 u78 u79 u80 u81 u82 u83 u84 wx hE
  have HX1 := Lib.hid (Ext.trans Y6.out.1 hE)
  clear hE G2 G3 G4 G5 G6 Y1 Y2 Y3 Y4 Y5 Y6
  repeat' (go_not_at_region 13; (first | go_skip | go_guarded | go_step))
  go_loopg [88] n (fun gk v88 wr => ∃ j : Nat, v88 = .int .i64 j ∧ j ≤ n ∧ n - j ≤ gk ∧ Hid (Ext w1 wr))
  case atStart => exact ⟨0, rfl, Nat.zero_le _, by omega, HX1⟩
  case round =>
    obtain ⟨j, rfl, hjn, hgk, HI⟩ := hrel
    rcases Nat.lt_or_ge j n with hlt | hge
    · have d1 : decide (j < n) = true := by simp [hlt]
      obtain ⟨q, hq⟩ := get_of_lt X (show j < X.length by have := Hn.out; omega)
      have HQ0 := Lib.hid hq
      clear hq
      repeat' (first | go_at_call 42 | go_skip | go_guarded | go_step)
      refine (nth_c wr (ptr g) T 40 (j : Int) (H1.out.2.1 wr HI.out) HT.out.2.2.2.1 HT.out.2.2.2.2.1 (by decide) HT.out.2.2.2.2.2.1).mono ?_
      rintro e x8 ⟨rfl, f8⟩
      rw [HT.out.2.2.1, atI_nat, HQ0.out]
      simp only [optR]
      have F8 := Lib.hid (Ext.trans HI.out f8)
      clear f8
      go_simp
      repeat' (go_not_at_region 16; (first | go_skip | go_guarded | go_step))
      obtain ⟨y8, hy8⟩ : ∃ y, y = x8.alloc (.cells #[str q.1, str q.2] 29) := ⟨_, rfl⟩
      obtain ⟨db, hdb⟩ : ∃ b, b = x8.heap.size := ⟨_, rfl⟩
      have hE8 : Ext x8 y8 := by rw [hy8]; exact (Ext.refl _).alloc (Nat.le_refl _) _
      have hbx8 := heap_new x8 (.cells #[str q.1, str q.2] 29)
      rw [← hy8, ← hdb] at hbx8
      have hy8' := hy8.symm
      rw [hy8', ← hdb]
      have Y8 : Hid (Ext w1 y8 ∧ y8.heap[db]? = some (.cells #[str q.1, str q.2] 29 (0, 0))) := Lib.hid ⟨Ext.trans F8.out hE8, hbx8⟩
      clear hy8 hdb hE8 hbx8 hy8'
      refine ends_r16 y8 g n C j db A X T q HT hlt hXl (Lib.hid ⟨HQ0.out, Y8.out.2, fun x hx => H1.out.2.1 x (Ext.trans Y8.out.1 hx), HS.out.below Y8.out.1⟩) _ _ _ _ _ _ _ _ _ _ _ _ _ _ _ _ _ _ _ _ _ _ _ _ _ _ _ _ _ _ _ _ _ _ _ _ _ _ _ _ _ _ _ _ _ _ _ _ _ _ _ _ _ _ _ _ _ _ _ _ _ _ _ _ _ _ _ _ _ _ _ _ _ _ _ _ _ _ _ _ _ _ _ _ _ _ _ _ _ _ _ _ _ _ _ _ _ _ _ _ _ _ _ _ _ _ _ _ _ _ _ (by kernel_rfl) ?_
      intro u97 u98 u99 u100 u101 u102 u103 u104 u105 u106 u107 u108 u109 u110 u111 wx hE
      have HX2 := Lib.hid (Ext.trans Y8.out.1 hE)
      clear hE
      repeat' (first | go_skip | go_guarded | go_step)
      go_roundg (n - (j + 1))
      case measure => omega
      case rel => exact ⟨j + 1, by go_num, by omega, Nat.le_refl _, HX2⟩
    · obtain rfl : j = n := by omega
      have d1 : decide (j < j) = false := by simp
      repeat' (first | go_skip | go_guarded | go_step)
      go_ret
      exact ⟨rfl, Ext.trans H1.out.1 HI.out⟩
end Go.Proofs.Ytaehdkgmkjhmgaa
