/- WalkResumes: its walk, up to its cursors. -/
import Derived.Test.YtkfiinmoecibcaaM34
import Derived.Deep.RegionHeld3
import Derived.Deep.DeepCutAuto
set_option linter.unusedVariables false
set_option linter.unusedSimpArgs false
namespace Go.Proofs.Ytkfiinmoecibcaa
open Go.RowKit Go.QS Go.QS.Nk
set_option linter.unusedVariables false

theorem wt_root (H : List UInt8 → Nat) (X : List Pr) (hX : X.length ≤ 40) : wtB [((trieOf H 13 X).ps, (trieOf H 13 X).ks)] ≤ 2000 := by
  have h1 := cnt_trie H 13 X
  have h2 := cntT_eq (trieOf H 13 X)
  simp only [wtB]
  omega

set_option maxRecDepth 100000 in
set_option maxHeartbeats 2000000 in
theorem walkResumes_c (w : World) (h : Hs) (hk : h.Ok) (v1 v3 : Value) (at' : UInt8) (l more : List Pr) (hP : PS w v1 l) (hM : PS w v3 more) :
    Calls Try.prog 5 #[hsV h, v1, .int .u8 (at'.toNat : Int), v3] w fun e w' => e = .returned (.bool true) ∧ Ext w w' := by
  have HP := Lib.hid (And.intro hP hM)
  obtain ⟨nm, hnm⟩ : ∃ n, n = more.length := ⟨_, rfl⟩
  obtain ⟨Am, Cm, rfl, _, hnm1, hcm, hsm⟩ := hM
  rw [← hnm] at hnm1 ⊢
  have hnm9 : nm ≤ 9223372036854775807 := by unfold maxLen at hcm; omega
  have HM := Lib.hid (And.intro hnm hsm)
  clear hP hnm hsm
  go_enter Try.func5, Try.ntmps5
  repeat' (go_not_at_region 1; (first | go_skip | go_guarded | go_step))
  obtain ⟨gh, hgh⟩ : ∃ g, g = w.heap.size := ⟨_, rfl⟩
  rw [← hgh]
  refine wp_named (fun w' => HsAt w' gh h ∧ Ext w w') ⟨by rw [hgh]; exact heap_new w _, (Ext.refl w).alloc (Nat.le_refl _) _⟩ ?_
  clear hgh
  intro wa HW
  repeat' (first | go_at_call 11 | go_skip | go_guarded | go_step)
  refine (awake08_c wa).mono ?_
  rintro e w1 ⟨rfl, f1⟩
  have H1 : Hid (HsAt w1 gh h ∧ Ext w w1) := Lib.hid ⟨HW.out.1.ext f1, HW.out.2.trans f1⟩
  clear f1 HW
  obtain ⟨c0, c1, c2⟩ := H1.out.1.cells
  go_simp
  repeat' (first | go_at_call 12 | go_skip | go_guarded | go_step)
  refine (trie08_c h hk w1 v1 l (HP.out.1.below H1.out.2)).mono ?_
  rintro e w2 ⟨g, vx, vs, rfl, f2, t2, p2, s2⟩
  obtain ⟨X, hX⟩ : ∃ X, X = xOf l := ⟨_, rfl⟩
  obtain ⟨hXr, hXl, hXk⟩ := xOf_ok l
  rw [← hX] at t2 p2 s2 hXr hXl hXk
  obtain ⟨L, hL⟩ : ∃ L, L = walkT (trieOf h.hash 13 X) 1 := ⟨_, rfl⟩
  rw [← hL] at s2
  have hLl : L.length = X.length := by rw [hL]; exact walk_len _ _ _ _
  have hLk : ∀ s ∈ L, s.1 ∈ X := fun s hs => by
    have := (walk_perm h.hash 13 X 1).mem_iff.1 (List.mem_map.2 ⟨s, (by rw [← hL]; exact hs), rfl⟩)
    exact this
  obtain ⟨As, Cs, rfl, _, hns, hcs, hss⟩ := s2
  obtain ⟨n, hn⟩ : ∃ n, n = L.length := ⟨_, rfl⟩
  rw [← hn] at hns hLl ⊢
  have hn40 : n ≤ 40 := by omega
  have hX40 : X.length ≤ 40 := hXl
  clear hXl hLl
  have HX := Lib.hid (And.intro hXr (And.intro hXk (And.intro hL (And.intro hn hLk))))
  have H2 : Hid (HsAt w2 gh h ∧ Ext w w2 ∧ TR ND h.hash w2 13 g X ∧ Seg w2 As (flatS L)) := Lib.hid ⟨H1.out.1.ext f2, H1.out.2.trans f2, t2, hss⟩
  clear f2 t2 p2 hss hX hXr hXk hL hn hLk c0 c1 c2
  have hroot : RootW w2 (ptr g) (trieOf h.hash 13 X) := .inr ⟨g, rfl, TR.rep 13 H2.out.2.2.1 (by omega)⟩
  have HRT := Lib.hid hroot
  clear hroot
  go_simp
  repeat' (first | go_at_call 15 | go_skip | go_guarded | go_step)
  refine (wnew_c w2 _ _ HRT.out).mono ?_
  rintro e w3 ⟨c, V, m, rfl, hC, f3⟩
  have hcom := com_one (trieOf h.hash 13 X)
  have hwt := wt_root h.hash X (by omega)
  obtain ⟨st, hst⟩ : ∃ st, st = [((trieOf h.hash 13 X).ps, (trieOf h.hash 13 X).ks)] := ⟨_, rfl⟩
  rw [← hst] at hC hcom hwt
  rw [← HX.out.2.2.1] at hcom
  have H3 : Hid (Cur w2 w3 c V [m] st 0 ∧ comB st 1 = L ∧ HsAt w3 gh h) := Lib.hid ⟨hC, hcom, H2.out.1.ext f3⟩
  have hcw2 : w2.heap.size ≤ c := hC.le
  clear hC hcom hst f3 HRT
  obtain ⟨k, hkk⟩ : ∃ k, k = at'.toNat % (n + 1) := ⟨_, rfl⟩
  have hk9 : k ≤ n := by rw [hkk]; have := Nat.mod_lt at'.toNat (show 0 < n + 1 by omega); omega
  have hau : at'.toNat < 256 := at'.toNat_lt
  obtain ⟨au, hau2⟩ : ∃ a, a = at'.toNat := ⟨_, rfl⟩
  rw [← hau2] at hkk hau ⊢
  have hmod : (au : Int) % ((n : Int) + 1) = (k : Int) := by rw [hkk]; simp
  have htm : (au : Int).tmod ((n : Int) + 1) = (k : Int) := by rw [Int.tmod_eq_emod_of_nonneg (by omega)]; exact hmod
  clear hkk hau2 hmod
  go_simp
  repeat' (go_not_at_region 7; (first | go_skip | go_guarded | go_step))
  go_loopg [38] k (fun gk v38 wr => ∃ (i : Nat) (V1 : Value) (ms1 : List Fm) (st1 : List Fp) (d1 : Nat), v38 = .int .i64 i ∧ i ≤ k ∧ k - i ≤ gk ∧ wtB st1 ≤ wtB st ∧ Hid (Cur w2 wr c V1 ms1 st1 d1 ∧ comB st1 1 = L.drop i ∧ TwoW c V w3 wr ∧ NewW w3 V V1 ∧ (i = 0 → d1 = 0) ∧ ∀ j s, i = j + 1 → L[j]? = some s → d1 = s.2))
  case atStart => exact ⟨0, V, [m], st, 0, rfl, Nat.zero_le _, by omega, Nat.le_refl _, Lib.hid ⟨H3.out.1, by rw [List.drop_zero]; exact H3.out.2.1, Only.refl _, NewW.refl _ _, fun _ => rfl, fun j s e => by omega⟩⟩
  case round =>
    obtain ⟨i, V1, ms1, st1, d1, rfl, hi, hgk, hwt1, HI⟩ := hrel
    rcases Nat.lt_or_ge i k with hlt | hge
    · have e1 : decide (i < k) = true := by simp [hlt]
      have hi1 : (i : Int) < (k : Int) := by omega
      obtain ⟨s, hs⟩ := get_of_lt L (show i < L.length by have := HX.out.2.2.2.1; omega)
      have HD : Hid (L.drop i = s :: L.drop (i + 1)) := Lib.hid (drop_cons hs)
      have HG := Lib.hid hs
      have HNX := Lib.hid (wnext_c w2 wr c V1 ms1 st1 d1 HI.out.1 (by omega))
      clear hs
      repeat' (first | go_at_call 16 | go_skip | go_guarded | go_step)
      refine HNX.out.mono ?_
      rintro e w4 ⟨V2, ms2, st2, d2, hC2, hwt2, hT2, hN2, ⟨hz, _⟩ | ⟨p', hcom, rfl⟩⟩
      · rw [HI.out.2.1, HD.out] at hz; cases hz
      · rw [HI.out.2.1, HD.out] at hcom
        have hcc : s = (p', d2) ∧ L.drop (i + 1) = comB st2 1 := by
          injection hcom with h1 h2
          exact ⟨h1, h2⟩
        have H4 : Hid (Cur w2 w4 c V2 ms2 st2 d2 ∧ comB st2 1 = L.drop (i + 1) ∧ TwoW c V w3 w4 ∧ NewW w3 V V2 ∧ (i + 1 = 0 → d2 = 0) ∧ ∀ j s', i + 1 = j + 1 → L[j]? = some s' → d2 = s'.2) := Lib.hid ⟨hC2, hcc.2.symm, HI.out.2.2.1.trans hT2 HI.out.2.2.2.1, HI.out.2.2.2.1.trans hN2 HI.out.2.2.1.size, fun e => by omega, fun j s' e hj => by
          have hji : j = i := by omega
          subst hji
          rw [HG.out] at hj
          cases hj
          rw [hcc.1]⟩
        clear hcom hcc hC2 hT2 hN2 HNX
        go_simp
        repeat' (first | go_skip | go_guarded | go_step)
        go_roundg (k - (i + 1))
        case measure => omega
        case rel => exact ⟨i + 1, V2, ms2, st2, d2, by go_num, by omega, Nat.le_refl _, by omega, H4⟩
    · obtain rfl : i = k := by omega
      have e1 : decide (i < i) = false := by simp
      have hst9 := wtB_len st1
      have HCP := Lib.hid (wcopy_c HI.out.1 (by omega))
      repeat' (first | go_at_call 22 | go_skip | go_guarded | go_step)
      refine HCP.out.mono ?_
      rintro e w4 ⟨c2, V2, rfl, hC2, f4, hc2, hV2⟩
      have hE3 : Ext w3 wr ∨ True := .inr trivial
      have hgh2 : gh < w2.heap.size := heap_lt H2.out.1
      have hE24 : Ext w2 w4 := hC2.ext
      have HC : Hid (Cur w2 w4 c V1 ms1 st1 d1 ∧ Cur w2 w4 c2 V2 ms1 st1 d1 ∧ comB st1 1 = L.drop i ∧ c2 ≠ c ∧ V1.ownBlock ≠ some c2 ∧ (∀ b, V2.ownBlock = some b → b ≠ c ∧ V1.ownBlock ≠ some b) ∧ (i = 0 → d1 = 0) ∧ ∀ j s, i = j + 1 → L[j]? = some s → d1 = s.2) := Lib.hid ⟨HI.out.1.keep f4, hC2, HI.out.2.1, by have := heap_lt HI.out.1.cell; omega, fun e => by have := (World.ownsRow.lt HI.out.1.row c2 e).2; omega, fun b hb => ⟨by have := heap_lt HI.out.1.cell; have := hV2 b hb; omega, fun e => by have := (World.ownsRow.lt HI.out.1.row b e).2; have := hV2 b hb; omega⟩, HI.out.2.2.2.2.1, HI.out.2.2.2.2.2⟩
      have H4 : Hid (HsAt w4 gh h ∧ Ext w2 w4 ∧ TR ND h.hash w4 13 g X) := Lib.hid ⟨H2.out.1.ext hE24, hE24, TR.ext hE24 13 H2.out.2.2.1⟩
      clear hE3 hgh2 hE24 hC2 f4 hc2 hV2 HCP HI hgk H3 hcw2
      go_simp
      repeat' (go_not_at_region 12; (first | go_skip | go_guarded | go_step))
      go_loopg [9, 15, 16, 47] nm (fun gk v9 v15 v16 v47 wx => ∃ (j g' : Nat) (Y : List Pr), v9 = ptr g' ∧ v47 = .int .i64 j ∧ j ≤ nm ∧ nm - j ≤ gk ∧ Y.length ≤ 40 + j ∧ Y.length ≤ 60 ∧ Hid (HsAt wx gh h ∧ Ext w4 wx ∧ TR ND h.hash wx 13 g' Y ∧ Rise Y ∧ ∀ q ∈ Y, q.1.length ≤ 40))
      case atStart => exact ⟨0, g, X, rfl, rfl, Nat.zero_le _, by omega, by omega, by omega, Lib.hid ⟨H4.out.1, Ext.refl _, H4.out.2.2, HX.out.1, fun q hq => (HX.out.2.1 q hq).1⟩⟩
      case round =>
        obtain ⟨j, g', Y, rfl, rfl, hj, hgk, hYl, hY6, HI⟩ := hrel
        rcases Nat.lt_or_ge j nm with hlt | hge
        · have e2 : decide (j < nm) = true := by simp [hlt]
          have hj1 : (j : Int) < (nm : Int) := by omega
          obtain ⟨p, hp⟩ := get_of_lt more (show j < more.length by have := HM.out.1; omega)
          obtain ⟨b, o, rfl, q0, q1⟩ := seg_pair (HM.out.2.below (Ext.trans H2.out.2.1 (Ext.trans H4.out.2.1 HI.out.2.1))) hp
          clear hp
          repeat' (go_not_at_region 14; (first | go_skip | go_guarded | go_step))
          obtain ⟨gp, hgp⟩ : ∃ g, g = wr.heap.size := ⟨_, rfl⟩
          rw [← hgp]
          refine wp_named (fun w' => PrAt w' gp p ∧ HsAt w' gh h ∧ Ext w4 w' ∧ TR ND h.hash w' 13 g' Y) ⟨by rw [hgp]; exact heap_new wr _, HI.out.1.ext ((Ext.refl _).alloc (Nat.le_refl _) _), Ext.trans HI.out.2.1 ((Ext.refl _).alloc (Nat.le_refl _) _), TR.ext ((Ext.refl _).alloc (Nat.le_refl _) _) 13 HI.out.2.2.1⟩ ?_
          clear hgp q0 q1
          intro x1 H5
          by_cases h20 : j < 20
          · have e3 : decide (j < 20) = true := by simp [h20]
            obtain ⟨p0, p1⟩ := H5.out.1.cells
            obtain ⟨s0, s1, s2⟩ := H5.out.2.1.cells
            obtain ⟨q, hq⟩ : ∃ q, q = cutP p := ⟨_, rfl⟩
            have hql : q.1.length ≤ 40 := by rw [hq]; exact (cutP_short p).1
            have HF : Hid (∀ W, Calls Try.prog 18 #[prV p] W fun e w' => e = .returned (prV q) ∧ Ext W w') := Lib.hid (fun W => by rw [hq]; exact few08_c W p)
            clear hq
            repeat' (go_not_at_region 15; (first | go_skip | go_guarded | go_step))
            go_region_held3 (fun w' => w'.cell? ⟨gp, 0, none⟩ = some (str p.1) ∧ w'.cell? ⟨gp, 1, none⟩ = some (str p.2) ∧ w'.cell? ⟨gh, 0, none⟩ = some (.int .u64 h.k0) ∧ w'.cell? ⟨gh, 1, none⟩ = some (.int .u64 h.k1) ∧ w'.cell? ⟨gh, 2, none⟩ = some (.int .u64 h.mask))
              (first | exact ⟨(H5.out.1.ext k3.out).cells.1, (H5.out.1.ext k3.out).cells.2, (H5.out.2.1.ext k3.out).cells⟩ | exact ⟨(H5.out.1.ext k2.out).cells.1, (H5.out.1.ext k2.out).cells.2, (H5.out.2.1.ext k2.out).cells⟩ | exact ⟨(H5.out.1.ext (ext_drew (Ext.refl _))).cells.1, (H5.out.1.ext (ext_drew (Ext.refl _))).cells.2, (H5.out.2.1.ext (ext_drew (Ext.refl _))).cells⟩)
              (first
                | (go_at_call 18; refine (HF.out x1.drew).mono ?_; rintro e x2 ⟨rfl, f2⟩; have k2 : Hid (Ext x1 x2) := Lib.hid (Ext.trans (ext_drew (Ext.refl x1)) f2); clear f2)
                | (go_at_call 14; refine (cput_c h hk x2 (ptr g') Y q (Rot.of (TR.ext k2.out 13 H5.out.2.2.2)) HI.out.2.2.2.1 (by omega) (fun y hy => by have := HI.out.2.2.2.2 y hy; omega) (by omega)).mono ?_; rintro e x3 ⟨g3, rfl, t3, f3, _⟩; have k3 : Hid (Ext x1 x3) := Lib.hid (Ext.trans k2.out f3); have K3 := Lib.hid t3; clear f3 t3))
            have hrl : (rput Y q).length ≤ Y.length + 1 := rput_length Y q
            have H6 : Hid (HsAt x3 gh h ∧ Ext w4 x3 ∧ TR ND h.hash x3 13 g3 (rput Y q) ∧ Rise (rput Y q) ∧ ∀ y ∈ rput Y q, y.1.length ≤ 40) := Lib.hid ⟨H5.out.2.1.ext k3.out, Ext.trans H5.out.2.2.1 k3.out, K3.out, rput_rise HI.out.2.2.2.1 q, fun y hy => by
              rcases mem_rput.1 hy with rfl | ⟨hy, _⟩
              · exact hql
              · exact HI.out.2.2.2.2 y hy⟩
            clear p0 p1 s0 s1 s2
            repeat' (first | go_skip | go_guarded | go_step)
            go_roundg (nm - (j + 1))
            case measure => omega
            case rel => exact ⟨j + 1, g3, rput Y q, rfl, by go_num, by omega, Nat.le_refl _, by omega, by omega, H6⟩
          · have e3 : decide (j < 20) = false := by simp; omega
            repeat' (first | go_skip | go_guarded | go_step)
            go_roundg (nm - (j + 1))
            case measure => omega
            case rel => exact ⟨j + 1, g', Y, rfl, by go_num, by omega, Nat.le_refl _, by omega, by omega, Lib.hid ⟨H5.out.2.1, H5.out.2.2.1, H5.out.2.2.2, HI.out.2.2.2.1, HI.out.2.2.2.2⟩⟩
        · obtain rfl : j = nm := by omega
          have e2 : decide (j < j) = false := by simp
          have H7 : Hid (HsAt wr gh h ∧ Ext w4 wr ∧ TR ND h.hash wr 13 g' Y ∧ Rise Y ∧ ∀ q ∈ Y, q.1.length ≤ 40) := HI
          clear HI hgk
          repeat' (go_not_at_region 18; (first | go_skip | go_guarded | go_step))
          go_loopg [9, 18, 65] n (fun gk v9 v18 v65 wx => ∃ (z g2 : Nat) (Z : List Pr), v9 = ptr g2 ∧ v65 = .int .i64 z ∧ z ≤ n ∧ n - z ≤ gk ∧ Z.length ≤ 60 ∧ Hid (HsAt wx gh h ∧ Ext w4 wx ∧ TR ND h.hash wx 13 g2 Z ∧ Rise Z))
          case atStart => exact ⟨0, g', Y, rfl, rfl, Nat.zero_le _, by omega, hY6, Lib.hid ⟨H7.out.1, H7.out.2.1, H7.out.2.2.1, H7.out.2.2.2.1⟩⟩
          case round =>
            obtain ⟨z, g2, Z, rfl, rfl, hz, hgk, hZl, HI⟩ := hrel
            rcases Nat.lt_or_ge z n with hlt | hge
            · have e3 : decide (z < n) = true := by simp [hlt]
              have hz1 : (z : Int) < (n : Int) := by omega
              obtain ⟨s, hs⟩ := get_of_lt L (show z < L.length by have := HX.out.2.2.2.1; omega)
              have hsk : s.1.1.length ≤ 40 := (HX.out.2.1 s.1 (HX.out.2.2.2.2 s (List.mem_of_getElem? hs))).1
              obtain ⟨b, o, rfl, q0, q1, q2⟩ := seg_step (H2.out.2.2.2.below (Ext.trans H4.out.2.1 HI.out.2.1)) hs
              clear hs
              repeat' (go_not_at_region 20; (first | go_skip | go_guarded | go_step))
              obtain ⟨gs, hgs⟩ : ∃ g, g = wr.heap.size := ⟨_, rfl⟩
              rw [← hgs]
              refine wp_named (fun w' => w'.heap[gs]? = some (.cells #[str s.1.1, str s.1.2, .int .i64 (s.2 : Int)] ST8 (0, 0)) ∧ HsAt w' gh h ∧ Ext w4 w' ∧ TR ND h.hash w' 13 g2 Z) ⟨by rw [hgs]; exact heap_new wr _, HI.out.1.ext ((Ext.refl _).alloc (Nat.le_refl _) _), Ext.trans HI.out.2.1 ((Ext.refl _).alloc (Nat.le_refl _) _), TR.ext ((Ext.refl _).alloc (Nat.le_refl _) _) 13 HI.out.2.2.1⟩ ?_
              clear hgs q0 q1 q2
              intro x1 H5
              have y0 : x1.cell? ⟨gs, 0, none⟩ = some (str s.1.1) := by have := H5.out.1; simp [World.cell?, this]
              obtain ⟨s0, s1, s2⟩ := H5.out.2.1.cells
              have HDR := Lib.hid (cdrop_c h hk x1 (ptr g2) Z s.1.1 (Rot.of H5.out.2.2.2) HI.out.2.2.2 (by omega) (by omega))
              repeat' (first | go_at_call 23 | go_skip | go_guarded | go_step)
              refine HDR.out.mono ?_
              rintro e x2 ⟨g3, rfl, t2, f2, _⟩
              have hdl : (rdrop Z s.1.1).length ≤ Z.length := List.length_filter_le _ _
              have H6 : Hid (HsAt x2 gh h ∧ Ext w4 x2 ∧ TR ND h.hash x2 13 g3 (rdrop Z s.1.1) ∧ Rise (rdrop Z s.1.1)) := Lib.hid ⟨H5.out.2.1.ext f2, Ext.trans H5.out.2.2.1 f2, t2, rdrop_rise HI.out.2.2.2 _⟩
              clear t2 f2 y0 s0 s1 s2 HDR
              go_simp
              repeat' (first | go_skip | go_guarded | go_step)
              go_roundg (n - (z + 1))
              case measure => omega
              case rel => exact ⟨z + 1, g3, rdrop Z s.1.1, rfl, by go_num, by omega, Nat.le_refl _, by omega, H6⟩
            · obtain rfl : z = n := by omega
              have e3 : decide (z < z) = false := by simp
              obtain ⟨wq, hwq⟩ : ∃ x, x = wr := ⟨_, rfl⟩
              have HQ : Hid (Ext w4 wq ∧ True) := Lib.hid ⟨by rw [hwq]; exact HI.out.2.1, trivial⟩
              rw [← hwq]
              clear hwq HI hgk
              rcases Nat.eq_zero_or_pos i with hi0 | hi0
              · subst hi0
                have hd0 : d1 = 0 := HC.out.2.2.2.2.2.2.1 rfl
                subst hd0
                repeat' (go_not_at_region 25; (first | go_skip | go_guarded | go_step))
                refine res8_25 w2 wq c c2 z Cs 0 0 0 As V1 V2 ms1 st1 L hk9 (by omega) hns hcs (by omega) (Lib.hid ⟨HC.out.1.keep HQ.out.1, HC.out.2.1.keep HQ.out.1, HC.out.2.2.1, H2.out.2.2.2, HX.out.2.2.2.1, HC.out.2.2.2.1, HC.out.2.2.2.2.1, HC.out.2.2.2.2.2.1⟩) _ _ _ _ _ _ _ _ _ _ _ _ _ _ _ _ _ _ _ _ _ _ _ _ _ _ _ _ _ _ _ _ _ _ _ _ _ _ _ _ _ _ _ _ _ _ _ _ _ _ _ _ _ _ _ _ _ _ _ _ _ _ _ _ _ _ _ _ _ _ _ _ _ _ _ _ _ _ _ _ _ _ _ _ _ _ _ _ _ _ _ _ _ _ _ _ _ _ _ _ _ _ _ _ _ _ _ _ (by kernel_rfl) ?_
                intro u87 u88 u89 u90 u91 u92 u93 u94 u95 u96 u97 u98 u99 u100 u101 u102 u103 u104 u105 u106 u107 u108 u109 u110 wx hE
                have HE := Lib.hid hE
                clear hE
                (try simp only [Exit.inBlock, Exit.then])
                repeat' (first | go_skip | go_guarded | go_step)
                go_ret
                exact ⟨rfl, Ext.trans H2.out.2.1 HE.out⟩
              · obtain ⟨i', rfl⟩ : ∃ i', i = i' + 1 := ⟨i - 1, by omega⟩
                obtain ⟨s, hs⟩ := get_of_lt L (show i' < L.length by have := HX.out.2.2.2.1; omega)
                obtain rfl : d1 = s.2 := HC.out.2.2.2.2.2.2.2 i' s rfl hs
                obtain ⟨b, o, rfl, q0, q1, q2⟩ := seg_step (H2.out.2.2.2.below (Ext.trans H4.out.2.1 HQ.out.1)) hs
                have hp1 : (0 : Int) < ((i' + 1 : Nat) : Int) := by omega
                have hpd : decide (0 < i' + 1) = true := by simp
                have hs1 : (((i' + 1 : Nat) : Int) - 1) = (i' : Int) := by omega
                have hs2 : ((i' : Int) + 1 - 1) = (i' : Int) := by omega
                have hi2 : (i' : Int) < (z : Int) := by omega
                clear hs
                repeat' (go_not_at_region 25; (first | go_skip | go_guarded | go_step))
                refine res8_25 w2 wq c c2 z Cs (i' + 1) s.2 s.2 (some ⟨b, o, none⟩) V1 V2 ms1 st1 L hk9 (by omega) hns hcs (by omega) (Lib.hid ⟨HC.out.1.keep HQ.out.1, HC.out.2.1.keep HQ.out.1, HC.out.2.2.1, H2.out.2.2.2, HX.out.2.2.2.1, HC.out.2.2.2.1, HC.out.2.2.2.2.1, HC.out.2.2.2.2.2.1⟩) _ _ _ _ _ _ _ _ _ _ _ _ _ _ _ _ _ _ _ _ _ _ _ _ _ _ _ _ _ _ _ _ _ _ _ _ _ _ _ _ _ _ _ _ _ _ _ _ _ _ _ _ _ _ _ _ _ _ _ _ _ _ _ _ _ _ _ _ _ _ _ _ _ _ _ _ _ _ _ _ _ _ _ _ _ _ _ _ _ _ _ _ _ _ _ _ _ _ _ _ _ _ _ _ _ _ _ _ (by kernel_rfl) ?_
                intro u87 u88 u89 u90 u91 u92 u93 u94 u95 u96 u97 u98 u99 u100 u101 u102 u103 u104 u105 u106 u107 u108 u109 u110 wx hE
                have HE := Lib.hid hE
                clear hE
                (try simp only [Exit.inBlock, Exit.then])
                repeat' (first | go_skip | go_guarded | go_step)
                go_ret
                exact ⟨rfl, Ext.trans H2.out.2.1 HE.out⟩
end Go.Proofs.Ytkfiinmoecibcaa
