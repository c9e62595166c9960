/- Contract: NearSides. -/
import Derived.Test.YtaehdkgmkjhmgaaZy
import Derived.Test.YtaehdkgmkjhmgaaZz
import Derived.Test.YtaehdkgmkjhmgaaZu
import Derived.Test.YtaehdkgmkjhmgaaZv
import Derived.Test.YtaehdkgmkjhmgaaZw
import Derived.Test.YtaehdkgmkjhmgaaZx
import Derived.Test.YtaehdkgmkjhmgaaYr
import Derived.Test.YtaehdkgmkjhmgaaYs
namespace Go.Proofs.Ytaehdkgmkjhmgaa
open Go.RowKit Go.QS
set_option linter.unusedVariables false

set_option maxRecDepth 100000 in
set_option maxHeartbeats 2000000 in
theorem nearSides_c (w : World) (v : Value) (l : List Pr) (kk : List UInt8) (h : PS w v l) : Calls Try.prog 12 #[v, str kk] w fun e w' => e = .returned (.bool true) ∧ Ext w w' := by
  have HP := Lib.hid h
  obtain ⟨k, hk⟩ : ∃ k, k = kk.take 40 := ⟨_, rfl⟩
  have hkl : k.length ≤ 40 := by rw [hk, List.length_take]; omega
  have HK := Lib.hid hk
  clear hk
  obtain ⟨L, hL⟩ : ∃ L, L = (l.take 40).map cutP := ⟨_, rfl⟩
  have hLk : ∀ p ∈ L, p.1.length ≤ 40 := by
    intro p hp
    rw [hL] at hp
    obtain ⟨q, _, rfl⟩ := List.mem_map.1 hp
    simp [cutP]; omega
  have hLl : L.length ≤ 40 := by rw [hL]; simp; omega
  obtain ⟨hlab, hkd, hprs⟩ := treeOf_ok L hLk
  obtain ⟨X, hX⟩ : ∃ X, X = rsort L := ⟨_, rfl⟩
  have hXl : X.length ≤ 40 := by rw [hX]; have := rsort_length L; omega
  have hXr : Rise X := by rw [hX]; exact rsort_rise L
  have hXk : ∀ p ∈ X, p.1.length ≤ 40 := by
    intro p hp
    rw [hX] at hp
    exact hLk p (lastK_mem ((mem_rsort L p).1 hp)).1
  rw [← hX] at hprs
  obtain ⟨T, hT⟩ : ∃ T, T = treeOf L := ⟨_, rfl⟩
  rw [← hT] at hprs hkd hlab
  have HT : Hid (Rise X ∧ (∀ p ∈ X, p.1.length ≤ 40) ∧ T.prs = X ∧ Kd 40 T.kids ∧ T.lab = [] ∧ T.prs.length ≤ 1000000 ∧ Rise T.prs) := Lib.hid ⟨hXr, hXk, hprs, hkd, hlab, by rw [hprs]; omega, by rw [hprs]; exact hXr⟩
  have HL := Lib.hid hL
  have HX := Lib.hid hX
  have HTT := Lib.hid hT
  have hfld := fieldN
  clear h hL hLk hlab hkd hprs hX hXr hXk hT
  go_enter Try.func12, Try.ntmps12
  repeat' (first | go_at_call 34 | go_skip | go_guarded | go_step)
  refine (awakeN_c w).mono ?_
  rintro e w0 ⟨rfl, f0⟩
  have H0 := Lib.hid f0
  clear f0
  go_simp
  repeat' (first | go_at_call 35 | go_skip | go_guarded | go_step)
  refine (tree_c w0 v l (HP.out.below H0.out)).mono ?_
  rintro e w1 ⟨g, v2, rfl, f1, r1, p1⟩
  rw [← HL.out, ← HX.out] at p1
  rw [← HL.out, ← HTT.out] at r1
  have H1 : Hid (Ext w w1 ∧ (∀ x, Ext w1 x → RepO x (ptr g) T) ∧ (∀ x, Ext w1 x → PS x v2 X)) := Lib.hid ⟨Ext.trans H0.out f1, fun x hx => .of (r1.ext hx), fun x hx => p1.below hx⟩
  obtain ⟨A, C, rfl, hXlen, hn, hc, hs⟩ := p1
  obtain ⟨n, hn2⟩ : ∃ n, n = X.length := ⟨_, rfl⟩
  rw [← hn2] at hn hXl H1 ⊢
  have Hn := Lib.hid hn2
  have HS := Lib.hid hs
  clear f1 r1 hs hXlen hn2
  go_simp
  repeat' (first | go_at_call 40 | go_skip | go_guarded | go_step)
  refine (fewN_c _ kk).mono ?_
  rintro e w2 ⟨rfl, f2⟩
  rw [← HK.out]
  have H2 := Lib.hid f2
  clear f2
  go_simp
  obtain ⟨a7, v7, c7, h7⟩ := optR_lit (nearL true true k X)
  obtain ⟨a9, v9, c9, h9⟩ := optR_lit (nearL false true k X)
  obtain ⟨a11, v11, c11, h11⟩ := optR_lit (nearL true false k X)
  obtain ⟨a13, v13, c13, h13⟩ := optR_lit (nearL false false k X)
  have L7 := Lib.hid h7
  have L9 := Lib.hid h9
  have L11 := Lib.hid h11
  have L13 := Lib.hid h13
  have hsf := sides_facts HT.out.1 k
  have hlen : a11.length ≤ 1000 := by
    cases ho : nearL true false k X with
    | none => rw [ho] at h11; rw [(lit_none h11).1]; simp
    | some p => rw [ho] at h11; rw [(lit_some h11).1]; have := HT.out.2.1 p (nearL_mem ho); omega
  obtain ⟨th, hth⟩ : ∃ th, th = hasK X k := ⟨_, rfl⟩
  have HF : Hid ((th = true → a7 = k ∧ a9 = a7 ∧ v9 = v7) ∧ (th = false → (c7 = c11 ∧ a7 = a11 ∧ v7 = v11) ∧ (c9 = c13 ∧ a9 = a13 ∧ v9 = v13))) := Lib.hid (by
    refine ⟨fun e => ?_, fun e => ?_⟩
    · rw [hth] at e
      obtain ⟨u, e1, e2⟩ := hsf.1 e
      rw [e1] at h7
      rw [e2] at h9
      obtain ⟨i1, i2, _⟩ := lit_some h7
      obtain ⟨j1, j2, _⟩ := lit_some h9
      exact ⟨i1, by rw [i1, j1], by rw [i2, j2]⟩
    · rw [hth] at e
      obtain ⟨e1, e2⟩ := hsf.2.1 e
      rw [e1, h11] at h7
      rw [e2, h13] at h9
      obtain ⟨i1, i2, i3⟩ := lit_inj h7
      obtain ⟨j1, j2, j3⟩ := lit_inj h9
      exact ⟨⟨i3.symm, i1.symm, i2.symm⟩, ⟨j3.symm, j1.symm, j2.symm⟩⟩)
  have HN : Hid (nearL true false k X = atI X ((rankL k X : Int) - 1) ∧ nearL false false k X = atI X ((rankL k X : Int) + ((if th = true then 1 else 0 : Nat) : Int))) := Lib.hid ⟨hsf.2.2.1, by rw [hth]; exact hsf.2.2.2⟩
  have HTH := Lib.hid hth
  clear h7 h9 h11 h13 hsf hth
  repeat' (first | go_at_call 46 | go_skip | go_guarded | go_step)
  refine (floor_c w2 (ptr g) T 40 (H1.out.2.1 w2 H2.out) HT.out.2.2.2.1 HT.out.2.2.2.2.1 (by decide) k (by omega)).mono ?_
  rintro e x1 ⟨rfl, f1⟩
  rw [HT.out.2.2.1, L7.out]
  have F1 := Lib.hid (Ext.trans H2.out f1)
  have G1 := Lib.hid f1
  clear f1
  go_simp
  repeat' (go_not_at_region 6; (first | go_skip | go_guarded | go_step))
  obtain ⟨y1, hy1⟩ : ∃ y, y = x1.alloc (.cells #[str a7, str v7] 29) := ⟨_, rfl⟩
  obtain ⟨b7, hb7⟩ : ∃ b, b = x1.heap.size := ⟨_, rfl⟩
  have hE1 : Ext x1 y1 := by rw [hy1]; exact (Ext.refl _).alloc (Nat.le_refl _) _
  have hbx1 := heap_new x1 (.cells #[str a7, str v7] 29)
  rw [← hy1, ← hb7] at hbx1
  have hy1' := hy1.symm
  rw [hy1', ← hb7]
  have Y1 : Hid (Ext w1 y1 ∧ y1.heap[b7]? = some (.cells #[str a7, str v7] 29 (0, 0))) := Lib.hid ⟨Ext.trans F1.out hE1, hbx1⟩
  replace G1 := Lib.hid (Ext.trans G1.out hE1)
  clear hy1 hb7 hE1 hbx1 hy1'
  repeat' (first | go_at_call 47 | go_skip | go_guarded | go_step)
  refine (ceil_c y1 (ptr g) T 40 (H1.out.2.1 y1 Y1.out.1) HT.out.2.2.2.1 HT.out.2.2.2.2.1 (by decide) k (by omega)).mono ?_
  rintro e x2 ⟨rfl, f2⟩
  rw [HT.out.2.2.1, L9.out]
  have F2 := Lib.hid (Ext.trans Y1.out.1 f2)
  have G2 := Lib.hid f2
  clear f2
  go_simp
  repeat' (go_not_at_region 7; (first | go_skip | go_guarded | go_step))
  obtain ⟨y2, hy2⟩ : ∃ y, y = x2.alloc (.cells #[str a9, str v9] 29) := ⟨_, rfl⟩
  obtain ⟨b9, hb9⟩ : ∃ b, b = x2.heap.size := ⟨_, rfl⟩
  have hE2 : Ext x2 y2 := by rw [hy2]; exact (Ext.refl _).alloc (Nat.le_refl _) _
  have hbx2 := heap_new x2 (.cells #[str a9, str v9] 29)
  rw [← hy2, ← hb9] at hbx2
  have hy2' := hy2.symm
  rw [hy2', ← hb9]
  have Y2 : Hid (Ext w1 y2 ∧ y2.heap[b9]? = some (.cells #[str a9, str v9] 29 (0, 0))) := Lib.hid ⟨Ext.trans F2.out hE2, hbx2⟩
  replace G2 := Lib.hid (Ext.trans G2.out hE2)
  clear hy2 hb9 hE2 hbx2 hy2'
  repeat' (first | go_at_call 39 | go_skip | go_guarded | go_step)
  refine (below_c y2 (ptr g) T 40 (H1.out.2.1 y2 Y2.out.1) HT.out.2.2.2.1 HT.out.2.2.2.2.1 (by decide) k (by omega)).mono ?_
  rintro e x3 ⟨rfl, f3⟩
  rw [HT.out.2.2.1, L11.out]
  have F3 := Lib.hid (Ext.trans Y2.out.1 f3)
  have G3 := Lib.hid f3
  clear f3
  go_simp
  repeat' (go_not_at_region 8; (first | go_skip | go_guarded | go_step))
  obtain ⟨y3, hy3⟩ : ∃ y, y = x3.alloc (.cells #[str a11, str v11] 29) := ⟨_, rfl⟩
  obtain ⟨b11, hb11⟩ : ∃ b, b = x3.heap.size := ⟨_, rfl⟩
  have hE3 : Ext x3 y3 := by rw [hy3]; exact (Ext.refl _).alloc (Nat.le_refl _) _
  have hbx3 := heap_new x3 (.cells #[str a11, str v11] 29)
  rw [← hy3, ← hb11] at hbx3
  have hy3' := hy3.symm
  rw [hy3', ← hb11]
  have Y3 : Hid (Ext w1 y3 ∧ y3.heap[b11]? = some (.cells #[str a11, str v11] 29 (0, 0))) := Lib.hid ⟨Ext.trans F3.out hE3, hbx3⟩
  replace G3 := Lib.hid (Ext.trans G3.out hE3)
  clear hy3 hb11 hE3 hbx3 hy3'
  repeat' (first | go_at_call 37 | go_skip | go_guarded | go_step)
  refine (above_c y3 (ptr g) T 40 (H1.out.2.1 y3 Y3.out.1) HT.out.2.2.2.1 HT.out.2.2.2.2.1 (by decide) k (by omega)).mono ?_
  rintro e x4 ⟨rfl, f4⟩
  rw [HT.out.2.2.1, L13.out]
  have F4 := Lib.hid (Ext.trans Y3.out.1 f4)
  have G4 := Lib.hid f4
  clear f4
  go_simp
  repeat' (go_not_at_region 9; (first | go_skip | go_guarded | go_step))
  obtain ⟨y4, hy4⟩ : ∃ y, y = x4.alloc (.cells #[str a13, str v13] 29) := ⟨_, rfl⟩
  obtain ⟨b13, hb13⟩ : ∃ b, b = x4.heap.size := ⟨_, rfl⟩
  have hE4 : Ext x4 y4 := by rw [hy4]; exact (Ext.refl _).alloc (Nat.le_refl _) _
  have hbx4 := heap_new x4 (.cells #[str a13, str v13] 29)
  rw [← hy4, ← hb13] at hbx4
  have hy4' := hy4.symm
  rw [hy4', ← hb13]
  have Y4 : Hid (Ext w1 y4 ∧ y4.heap[b13]? = some (.cells #[str a13, str v13] 29 (0, 0))) := Lib.hid ⟨Ext.trans F4.out hE4, hbx4⟩
  replace G4 := Lib.hid (Ext.trans G4.out hE4)
  clear hy4 hb13 hE4 hbx4 hy4'
  repeat' (first | go_at_call 48 | go_skip | go_guarded | go_step)
  refine (rgetN_c y4 _ X k (H1.out.2.2 y4 Y4.out.1) HT.out.1 (by have := Hn.out; omega) (fun p hp => by have := HT.out.2.1 p hp; omega)).mono ?_
  rintro e x5 ⟨⟨u0, rfl⟩, f5⟩
  rw [← HTH.out]
  have HB5 : Hid ((x5.heap[b7]? = some (.cells #[str a7, str v7] 29 (0, 0)) ∧ x5.heap[b9]? = some (.cells #[str a9, str v9] 29 (0, 0))) ∧ (x5.heap[b11]? = some (.cells #[str a11, str v11] 29 (0, 0)) ∧ x5.heap[b13]? = some (.cells #[str a13, str v13] 29 (0, 0))) ∧ Ext w1 x5) := Lib.hid (by
    have e4 : Ext y4 x5 := f5
    have e3 : Ext y3 x5 := Ext.trans G4.out e4
    have e2 : Ext y2 x5 := Ext.trans G3.out e3
    have e1 : Ext y1 x5 := Ext.trans G2.out e2
    exact ⟨⟨bx_ext Y1.out.2 e1, bx_ext Y2.out.2 e2⟩, ⟨bx_ext Y3.out.2 e3, bx_ext Y4.out.2 e4⟩, Ext.trans Y4.out.1 e4⟩)
  clear f5 G1 G2 G3 G4 Y1 Y2 Y3 Y4 F1 F2 F3 F4
  go_simp
  repeat' (go_not_at_region 10; (first | go_skip | go_guarded | go_step))
  refine sides_r10 x5 k b7 b9 b11 b13 a7 v7 a9 v9 a11 v11 a13 v13 c7 c9 c11 c13 th HF.out.1 HF.out.2 (Lib.hid ⟨HB5.out.1.1, HB5.out.1.2, HB5.out.2.1.1, HB5.out.2.1.2⟩) _ _ _ _ _ _ _ _ _ _ _ _ _ _ _ _ _ _ _ _ _ _ _ _ _ _ _ _ _ _ _ _ _ _ _ _ _ _ _ _ _ _ _ _ _ _ _ _ _ _ _ _ _ _ _ _ _ _ _ _ _ _ _ _ _ _ _ _ _ _ _ _ _ _ _ _ _ _ _ _ _ _ _ _ _ _ _ _ _ _ _ _ _ _ _ _ _ _ _ _ _ _ _ _ _ _ _ _ _ _ _ _ _ _ _ _ _ _ _ _ _ _ _ _ _ _ _ _ _ _ _ _ _ _ _ _ _ _ _ _ _ _ _ _ _ _ _ _ _ _ _ _ _ _ _ _ _ _ _ _ _ _ _ _ _ _ _ _ (by kernel_rfl) ?_
  intro u66 u67 u68 u69 u70 u71 u72 u73 u74 u75 u76 u77 u78 u79 u80 u81 u82 u83 u84 u85 u86 u87 u88 u89 u90 u91 u92 u93 u94 u95 u96 u97 u98 u99 u100 wx hwx
  subst hwx
  repeat' (go_not_at_region 13; (first | go_skip | go_guarded | go_step))
  have hxx := Ext.refl wx
  have HXX := Lib.hid hxx
  clear hxx
  go_loopg [104] n (fun gk v104 wr => ∃ j : Nat, v104 = .int .i64 j ∧ j ≤ n ∧ n - j ≤ gk ∧ Hid (Ext wx wr))
  case atStart => exact ⟨0, rfl, Nat.zero_le _, by omega, HXX⟩
  case round =>
    obtain ⟨j, rfl, hjn, hgk, HI⟩ := hrel
    rcases Nat.lt_or_ge j n with hlt | hge
    · have d1 : decide (j < n) = true := by simp [hlt]
      obtain ⟨q, hq⟩ := get_of_lt X (show j < X.length by have := Hn.out; omega)
      obtain ⟨b, o, rfl, hq1, hq2⟩ := seg_pair (HS.out.below (Ext.trans HB5.out.2.2 HI.out)) hq
      have hi1 : (j : Int) < (n : Int) := by omega
      have hqm := List.mem_of_getElem? hq
      have hql := HT.out.2.1 q hqm
      have hab : c13 = true → ¬ (k < q.1 ∧ q.1 < a13) := fun e => by
        have := L13.out
        rw [e] at this
        exact above_least HT.out.1 (lit_true this) hqm
      have hbe : c11 = true → ¬ (a11 < q.1 ∧ q.1 < k) := fun e => by
        have := L11.out
        rw [e] at this
        exact below_most HT.out.1 (lit_true this) hqm
      have HAB := Lib.hid hab
      have HBE := Lib.hid hbe
      clear hq hqm hab hbe
      repeat' (go_not_at_region 15; (first | go_skip | go_guarded | go_step))
      obtain ⟨y8, hy8⟩ : ∃ y, y = wr.alloc (.cells #[str q.1, str q.2] 40) := ⟨_, rfl⟩
      obtain ⟨qb, hqb⟩ : ∃ b, b = wr.heap.size := ⟨_, rfl⟩
      have hE8 : Ext wr y8 := by rw [hy8]; exact (Ext.refl _).alloc (Nat.le_refl _) _
      have hbx8 := heap_new wr (.cells #[str q.1, str q.2] 40)
      rw [← hy8, ← hqb] at hbx8
      have hy8' := hy8.symm
      rw [hy8', ← hqb]
      have Y8 : Hid (Ext wx y8 ∧ y8.heap[b11]? = some (.cells #[str a11, str v11] 29 (0, 0)) ∧ y8.heap[b13]? = some (.cells #[str a13, str v13] 29 (0, 0)) ∧ y8.heap[qb]? = some (.cells #[str q.1, str q.2] 40 (0, 0))) := Lib.hid (by
        have e8 := Ext.trans HI.out hE8
        exact ⟨e8, bx_ext HB5.out.2.1.1 e8, bx_ext HB5.out.2.1.2 e8, hbx8⟩)
      clear hy8 hqb hE8 hbx8 hy8' hq1 hq2
      cases c11 with
      | false =>
        refine sides_r15a y8 k a11 v11 a13 v13 q.1 q.2 b11 b13 qb c13 (by omega) hlen (by omega) HAB.out (Lib.hid ⟨Y8.out.2.1, Y8.out.2.2.1, Y8.out.2.2.2⟩) _ _ _ _ _ _ _ _ _ _ _ _ _ _ _ _ _ _ _ _ _ _ _ _ _ _ _ _ _ _ _ _ _ _ _ _ _ _ _ _ _ _ _ _ _ _ _ _ _ _ _ _ _ _ _ _ _ _ _ _ _ _ _ _ _ _ _ _ _ _ _ _ _ _ _ _ _ _ _ _ _ _ _ _ _ _ _ _ _ _ _ _ _ _ _ _ _ _ _ _ _ _ _ _ _ _ _ _ _ _ _ _ _ _ _ _ _ _ _ _ _ _ _ _ _ _ _ _ _ _ _ _ _ _ _ _ _ _ _ _ _ _ _ _ _ _ _ _ _ _ _ _ _ _ _ _ _ _ _ _ _ _ _ _ _ _ _ _ _ _ _ _ (by kernel_rfl) ?_
        intro u108 u109 u110 u111 u112 u113 u114 u115 u116 u117 u118 u119 u120 u121 u122 u123 u124 u125 u126 u127 u128 u129 u130 u131 u132 u133 u134 u135 u136 wz hE
        have HX2 := Lib.hid (Ext.trans Y8.out.1 hE)
        clear hE
        repeat' (first | go_skip | go_guarded | go_step)
        go_roundg (n - (j + 1))
        case measure => omega
        case rel => exact ⟨j + 1, by go_num, by omega, Nat.le_refl _, HX2⟩
      | true =>
        by_cases h1 : a11 < q.1
        · have h3 : ¬ q.1 < k := fun h => HBE.out rfl ⟨h1, h⟩
          refine sides_r15c y8 k a11 v11 a13 v13 q.1 q.2 b11 b13 qb c13 (by omega) hlen (by omega) h1 h3 HAB.out (Lib.hid ⟨Y8.out.2.1, Y8.out.2.2.1, Y8.out.2.2.2⟩) _ _ _ _ _ _ _ _ _ _ _ _ _ _ _ _ _ _ _ _ _ _ _ _ _ _ _ _ _ _ _ _ _ _ _ _ _ _ _ _ _ _ _ _ _ _ _ _ _ _ _ _ _ _ _ _ _ _ _ _ _ _ _ _ _ _ _ _ _ _ _ _ _ _ _ _ _ _ _ _ _ _ _ _ _ _ _ _ _ _ _ _ _ _ _ _ _ _ _ _ _ _ _ _ _ _ _ _ _ _ _ _ _ _ _ _ _ _ _ _ _ _ _ _ _ _ _ _ _ _ _ _ _ _ _ _ _ _ _ _ _ _ _ _ _ _ _ _ _ _ _ _ _ _ _ _ _ _ _ _ _ _ _ _ _ _ _ _ _ _ _ _ (by kernel_rfl) ?_
          intro u108 u109 u110 u111 u112 u113 u114 u115 u116 u117 u118 u119 u120 u121 u122 u123 u124 u125 u126 u127 u128 u129 u130 u131 u132 u133 u134 u135 u136 wz hE
          have HX2 := Lib.hid (Ext.trans Y8.out.1 hE)
          clear hE
          repeat' (first | go_skip | go_guarded | go_step)
          go_roundg (n - (j + 1))
          case measure => omega
          case rel => exact ⟨j + 1, by go_num, by omega, Nat.le_refl _, HX2⟩
        · skip
          refine sides_r15b y8 k a11 v11 a13 v13 q.1 q.2 b11 b13 qb c13 (by omega) hlen (by omega) h1 HAB.out (Lib.hid ⟨Y8.out.2.1, Y8.out.2.2.1, Y8.out.2.2.2⟩) _ _ _ _ _ _ _ _ _ _ _ _ _ _ _ _ _ _ _ _ _ _ _ _ _ _ _ _ _ _ _ _ _ _ _ _ _ _ _ _ _ _ _ _ _ _ _ _ _ _ _ _ _ _ _ _ _ _ _ _ _ _ _ _ _ _ _ _ _ _ _ _ _ _ _ _ _ _ _ _ _ _ _ _ _ _ _ _ _ _ _ _ _ _ _ _ _ _ _ _ _ _ _ _ _ _ _ _ _ _ _ _ _ _ _ _ _ _ _ _ _ _ _ _ _ _ _ _ _ _ _ _ _ _ _ _ _ _ _ _ _ _ _ _ _ _ _ _ _ _ _ _ _ _ _ _ _ _ _ _ _ _ _ _ _ _ _ _ _ _ _ _ (by kernel_rfl) ?_
          intro u108 u109 u110 u111 u112 u113 u114 u115 u116 u117 u118 u119 u120 u121 u122 u123 u124 u125 u126 u127 u128 u129 u130 u131 u132 u133 u134 u135 u136 wz hE
          have HX2 := Lib.hid (Ext.trans Y8.out.1 hE)
          clear hE
          repeat' (first | go_skip | go_guarded | go_step)
          go_roundg (n - (j + 1))
          case measure => omega
          case rel => exact ⟨j + 1, by go_num, by omega, Nat.le_refl _, HX2⟩
    · obtain rfl : j = n := by omega
      have d1 : decide (j < j) = false := by simp
      repeat' (go_not_at_region 18; (first | go_skip | go_guarded | go_step))
      rename_i K hK
      refine sides_tail w1 wx wr g j b11 b13 a11 v11 a13 v13 c11 c13 th X T k hkl hXl Hn HT (Lib.hid ⟨trivial, H1.out.2.1, trivial⟩) HI (Lib.hid ⟨trivial, HB5.out.2.1, HB5.out.2.2⟩) HN L11 L13 _ _ K _ _ _ _ _ _ _ _ _ _ _ _ _ _ _ _ _ _ _ _ _ _ _ _ _ _ _ _ _ _ _ _ _ _ _ _ _ _ _ _ _ _ _ _ _ _ _ _ _ _ _ _ _ _ _ _ _ _ _ _ _ _ _ _ _ _ _ _ _ _ _ _ _ _ _ _ _ _ _ _ _ _ _ _ _ _ _ _ _ _ _ _ _ _ _ _ _ _ _ _ _ _ _ _ _ _ _ _ _ _ _ _ _ _ _ _ _ _ _ _ _ _ _ _ _ _ _ _ _ _ _ _ _ _ _ _ _ _ _ _ _ _ _ _ _ _ _ _ _ _ _ _ _ _ _ _ _ _ _ _ _ _ _ _ _ _ _ _ _ _ (by kernel_rfl) (by kernel_rfl) hK ?_
      intro a wz hd ht hE
      (try simp only [Exit.inBlock, Exit.then])
      repeat' go_step
      refine bodyPost_ret (results_tmp rfl _ _ _) hd ?_
      exact ⟨by rw [ht], Ext.trans H1.out.1 hE⟩
end Go.Proofs.Ytaehdkgmkjhmgaa
