/- ShapeRaw: built: its walk. -/
import Derived.Test.YtclcgelbcbnekaaDoorM44
import Derived.Test.YtclcgelbcbnekaaDoorM36
import Derived.Deep.RegionHeld3
import Derived.Deep.LoopGhost
set_option linter.unusedVariables false
set_option linter.unusedSimpArgs false
namespace Go.Proofs.YtclcgelbcbnekaaDoor
open Go Go.RowKit Go.QS Go.QS.Nk
set_option linter.unusedVariables false
variable [Zero (Nat → Prop)]
set_option linter.unusedSectionVars false

/-- An act: what it does, where, a pair, a row of pairs. -/
structure Ra7 where
  d : UInt8
  i : UInt8
  p : Pr
  v : Value
  l : List Pr
def encR (a : Ra7) : List Value := [.int .u8 a.d.toNat, .int .u8 a.i.toNat, str a.p.1, str a.p.2, a.v]
theorem encR_len (a : Ra7) : (encR a).length = 5 := rfl
theorem RwE.mono {w0 wx : World} {g q n m n' m' : Nat} (h : RwE w0 wx g q n m) (h1 : n ≤ n') (h2 : m ≤ m') : RwE w0 wx g q n' m' := by
  obtain ⟨F, is, p, k, A, r⟩ := h
  exact ⟨F, is, p, k, A, ⟨r.ext, r.hq, r.sz, r.bk, r.sl, r.ent, r.nf, r.fl, r.ql, r.rn, r.ok.mono h1 h2⟩⟩
theorem RwE.up {w0 wx wy : World} {g q n m : Nat} (h : RwE w0 wx g q n m) (f : Ext wx wy) : RwE w0 wy g q n m := by
  obtain ⟨F, is, p, k, A, r⟩ := h
  exact ⟨F, is, p, k, A, r.up f⟩
theorem RwE.ext {w0 wx : World} {g q n m : Nat} (h : RwE w0 wx g q n m) : Ext w0 wx := by
  obtain ⟨F, is, p, k, A, r⟩ := h
  exact r.ext
theorem RwE.ql {w0 wx : World} {g q n m : Nat} (h : RwE w0 wx g q n m) : q < wx.heap.size := by
  obtain ⟨F, is, p, k, A, r⟩ := h
  exact heap_lt r.hq
theorem seg_ra {w : World} {A : Option Addr} {l : List Ra7} (hs : Seg w A (flatE encR l)) {i : Nat} {a : Ra7} (h : l[i]? = some a) : ∃ b o, A = some ⟨b, o, none⟩ ∧ w.cell? ⟨b, o + i * 5, none⟩ = some (.int .u8 a.d.toNat) ∧ w.cell? ⟨b, o + i * 5 + 1, none⟩ = some (.int .u8 a.i.toNat) ∧ w.cell? ⟨b, o + i * 5 + 2, none⟩ = some (str a.p.1) ∧ w.cell? ⟨b, o + i * 5 + 3, none⟩ = some (str a.p.2) ∧ w.cell? ⟨b, o + i * 5 + 4, none⟩ = some a.v := by
  obtain ⟨b, o, hA, hq⟩ := seg_el encR_len (by decide) hs h
  exact ⟨b, o, hA, by have := hq 0 _ rfl; rwa [Nat.add_zero] at this, hq 1 _ rfl, hq 2 _ rfl, hq 3 _ rfl, hq 4 _ rfl⟩
/-- An act's box. -/
def RaAt (w : World) (g : Nat) (a : Ra7) : Prop := w.heap[g]? = some (.cells #[.int .u8 a.d.toNat, .int .u8 a.i.toNat, str a.p.1, str a.p.2, a.v] 75 (0, 0))
theorem RaAt.ext {w w' : World} {g : Nat} {a : Ra7} (h : RaAt w g a) (f : Ext w w') : RaAt w' g a := (f.block g (heap_lt h)).trans h
theorem RaAt.cells {w : World} {g : Nat} {a : Ra7} (h : RaAt w g a) : w.cell? ⟨g, 0, none⟩ = some (.int .u8 a.d.toNat) ∧ w.cell? ⟨g, 1, none⟩ = some (.int .u8 a.i.toNat) ∧ w.cell? ⟨g, 2, none⟩ = some (str a.p.1) ∧ w.cell? ⟨g, 3, none⟩ = some (str a.p.2) ∧ w.cell? ⟨g, 4, none⟩ = some a.v := by
  unfold RaAt at h
  simp [World.cell?, h]
set_option maxRecDepth 100000 in
set_option maxHeartbeats 4000000 in
theorem built_c (w : World) (va : Value) (L : List Ra7) (ha : Sl w 5 va L.length (flatE encR L)) (hL : ∀ a ∈ L, PS w a.v a.l) :
    Calls Tryd.prog 7 #[va] w fun e w' => ∃ g q, e = .returned (.tuple #[ptr g, ptr q]) ∧ RwE w w' g q 10000 100 := by
  obtain ⟨A, C, rfl, _, hn0, hnC, hnS⟩ := ha
  obtain ⟨n, hn⟩ : ∃ n, n = L.length := ⟨_, rfl⟩
  have hn9 : n ≤ 9223372036854775807 := by unfold maxLen at hnC; omega
  rw [← hn] at hn0 ⊢
  have HN : Hid (n = L.length ∧ Seg w A (flatE encR L) ∧ ∀ a ∈ L, PS w a.v a.l) := Lib.hid ⟨hn, hnS, hL⟩
  clear hn hnS hL
  go_enter Tryd.func7, Tryd.ntmps7
  repeat' (first | go_at_call 20 | go_skip | go_guarded | go_step)
  refine (@inner0_c (SF (fun _ => False)) w (fun _ _ e => e)).mono ?_
  rintro e w1 ⟨g0, rfl, n1, f1, _⟩
  have K1 : Hid (@RN (SF (fun _ => False)) w1 nt0 g0 ∧ Ext w w1) := Lib.hid ⟨@RN.nt0 (SF (fun _ => False)) w1 g0 n1, f1⟩
  clear n1 f1
  go_simp
  repeat' (go_not_at_region 2; (first | go_skip | go_guarded | go_step))
  obtain ⟨q0, hq0⟩ : ∃ q, q = w1.heap.size := ⟨_, rfl⟩
  rw [← hq0]
  refine wp_nameS (fun w' => w'.heap[q0]? = some (.cells Tryd.zeroCells57 TT (0, 0)) ∧ Ext w1 w' ∧ q0 = w1.heap.size) ⟨by rw [hq0]; exact heap_new w1 _, (Ext.refl w1).alloc (Nat.le_refl _) _, hq0⟩ ?_
  clear hq0
  intro w2 H2
  have R0 : Hid (RwE w w2 g0 q0 9 0) := Lib.hid (by
    have hs := K1.out.2.size
    have h2 := H2.out.2.2
    refine ⟨fun _ => False, fun _ => 0, fun _ => ([], []), fun _ => .bk [], Tryd.zeroCells57, ⟨Ext.trans K1.out.2 H2.out.2.1, H2.out.1, zs0.size, zs0.bk, zs0.sl, fun c hc => ⟨zs0.is c (Nat.zero_le _) hc, fun e => (by cases e), fun e => (by cases e)⟩, fun e => e, fun b hb => hb.elim, by omega, ?_, NOk.zero⟩⟩
    refine RN.turn9 (i1 := SF (fun _ => False)) (i2 := SF (FQ (fun _ => False) q0)) (Only.none H2.out.2.1) (fun _ e => e.elim) (fun b hb _ e2 => ?_) (fun b hb e2 => ?_) K1.out.1
    · rcases e2 with e2 | e2
      · exact e2
      · omega
    · rcases e2 with e2 | e2
      · exact e2
      · have := heap_lt H2.out.1; omega)
  repeat' (go_not_at_region 3; (first | go_skip | go_guarded | go_step))
  go_loopg [4, 5, 21] n (fun gk v4 v5 v21 wx => ∃ i g q : Nat, v4 = ptr g ∧ v5 = ptr q ∧ v21 = .int .i64 i ∧ i ≤ n ∧ n - i ≤ gk ∧ i ≤ 24 ∧ Hid (RwE w wx g q (9 + 400 * i) (4 * i)))
  case atStart => exact ⟨0, g0, q0, rfl, rfl, rfl, Nat.zero_le _, by omega, by omega, R0⟩
  case round =>
    obtain ⟨i, g, q, rfl, rfl, rfl, hin, hgk, hi24, HI⟩ := hrel
    rcases Nat.lt_or_ge i n with hlt | hge
    · have d1 : decide (i < n) = true := by simp [hlt]
      have hi1 : (i : Int) < (n : Int) := by omega
      obtain ⟨a, hp⟩ := get_of_lt L (show i < L.length by have := HN.out.1; omega)
      obtain ⟨ad, ai, ap, av, al⟩ := a
      have hps : PS w av al := HN.out.2.2 _ (List.mem_of_getElem? hp)
      have HPL := Lib.hid hps
      obtain ⟨VA, VC, rfl, _⟩ := hps
      obtain ⟨b, o, rfl, p0, p1, p2, p3, p4⟩ := seg_ra (HN.out.2.1.below HI.out.ext) hp
      dsimp only at p0 p1 p2 p3 p4
      clear hp
      repeat' (go_not_at_region 5; (first | go_skip | go_guarded | go_step))
      obtain ⟨ga, hga⟩ : ∃ g, g = wr.heap.size := ⟨_, rfl⟩
      rw [← hga]
      refine wp_nameS (fun w' => RaAt w' ga ⟨ad, ai, ap, .slice VA al.length VC, al⟩ ∧ Ext wr w' ∧ ga = wr.heap.size) ⟨by rw [hga]; exact heap_new wr _, (Ext.refl _).alloc (Nat.le_refl _) _, hga⟩ ?_
      clear hga p0 p1 p2 p3 p4
      intro w4 H4
      by_cases h24 : 24 ≤ i
      · have d2 : decide (24 ≤ i) = true := by simp [h24]
        have d2' : decide ((24 : Int) ≤ (i : Int)) = true := by simp; omega
        repeat' (first | go_skip | go_guarded | go_step)
        go_ret2
        exact ⟨g, q, rfl, (HI.out.up H4.out.2.1).mono (by omega) (by omega)⟩
      · have d2 : decide (24 ≤ i) = false := by simp; omega
        have d2' : decide ((24 : Int) ≤ (i : Int)) = false := by simp; omega
        obtain ⟨c0, c1, c2, c3, c4⟩ := H4.out.1.cells
        dsimp only at c0 c1 c2 c3 c4
        have hd9 := ad.toNat_lt
        have hi9 := ai.toNat_lt
        obtain ⟨dN, hdN⟩ : ∃ x, x = ad.toNat := ⟨_, rfl⟩
        obtain ⟨iN, hiN⟩ : ∃ x, x = ai.toNat := ⟨_, rfl⟩
        rw [← hdN] at c0 hd9
        rw [← hiN] at c1 hi9
        have HDI := Lib.hid (And.intro hdN hiN)
        clear hdN hiN
        repeat' (first | go_at_call 16 | go_skip | go_guarded | go_step)
        refine (few07_c w4 ap).mono ?_
        rintro e w5 ⟨rfl, f5⟩
        obtain ⟨pc, hpc⟩ : ∃ q, q = cutP ap := ⟨_, rfl⟩
        rw [← hpc]
        have hpl : pc.1.length ≤ 40 ∧ pc.2.length ≤ 40 := by rw [hpc]; exact cutP_short ap
        have H5 : Hid (RaAt w5 ga ⟨ad, ai, ap, .slice VA al.length VC, al⟩ ∧ RwE w w5 g q (9 + 400 * i) (4 * i)) := Lib.hid ⟨H4.out.1.ext f5, HI.out.up (Ext.trans H4.out.2.1 f5)⟩
        have hsz5 : q < w5.heap.size := (HI.out.up (Ext.trans H4.out.2.1 f5)).ql
        obtain ⟨e0, e1, e2, e3, e4⟩ := H5.out.1.cells
        dsimp only at e0
        rw [← HDI.out.1] at e0
        clear hpc c0 c1 c2 c3 c4 f5 e1 e2 e3 e4
        go_simp
        repeat' (go_not_at_region 8; (first | go_skip | go_guarded | go_step))
        obtain ⟨g9, hg9⟩ : ∃ g, g = w5.heap.size := ⟨_, rfl⟩
        rw [← hg9]
        refine wp_nameS (fun w' => PrAt w' g9 pc ∧ Ext w5 w' ∧ g9 = w5.heap.size) ⟨by rw [hg9]; exact heap_new w5 _, (Ext.refl _).alloc (Nat.le_refl _) _, hg9⟩ ?_
        clear hg9
        intro w6 H6
        obtain ⟨k, hk⟩ : ∃ k, k = iN % 32 := ⟨_, rfl⟩
        have hk32 : k < 32 := by omega
        have hkI : (iN : Int) % 32 = (k : Int) := by omega
        rw [hkI]
        have hn9q : g9 ≠ q := by have := H6.out.2.2; omega
        have HE := H5.out.2.up H6.out.2.1
        obtain ⟨F, is, pX, kX, AX, HR⟩ := HE
        have HRW := Lib.hid HR
        have HRA : Hid (w6.cell? ⟨ga, 4, none⟩ = some (.slice VA al.length VC) ∧ PS w6 (.slice VA al.length VC) al) := Lib.hid ⟨(H5.out.1.ext H6.out.2.1).cells.2.2.2.2, HPL.out.below (HR.ext)⟩
        have e6 := Ext.cell' H6.out.2.1 e0
        clear hkI hk hi9 e0 HR hsz5 HDI
        have hm : dN % 6 = 0 ∨ dN % 6 = 1 ∨ dN % 6 = 2 ∨ dN % 6 = 3 ∨ dN % 6 = 4 ∨ dN % 6 = 5 := by omega
        rcases hm with em | em | em | em | em | em
        · have d3 : (dN : Int) % 6 = 0 := by omega
          clear em
          repeat' (go_not_at_region 9; (first | go_skip | go_guarded | go_step))
          rename_i K hK
          refine raw_a w w6 g q k (9 + 400 * i) (4 * i) F is pX kX AX hk32 g9 pc hpl (Lib.hid ⟨HRW.out, H6.out.1, hn9q⟩) _ _ K _ _ _ _ _ _ _ _ _ _ _ _ _ _ _ _ _ _ _ _ _ _ _ _ _ _ _ _ _ _ _ _ _ _ _ _ _ _ _ _ _ _ _ _ _ _ _ _ _ _ _ _ _ _ _ _ _ _ _ _ _ _ _ _ _ _ _ _ _ _ _ _ _ _ _ _ _ _ _ _ _ _ _ _ _ _ _ _ _ _ _ _ _ _ _ _ _ _ _ _ _ _ _ _ _ _ _ _ _ _ _ _ _ _ _ _ _ _ _ _ _ _ _ _ _ _ _ _ _ _ _ _ _ _ _ _ _ _ _ _ _ _ _ _ _ _ _ _ _ _ _ (by kernel_rfl) (by kernel_rfl) hK ?_
          intro g1 z38 z39 z40 z41 z42 z43 z44 z45 z46 z47 z48 z49 z50 z51 z52 wx hpo
          have HZ : Hid (RwE w wx g1 q (9 + 400 * (i + 1)) (4 * (i + 1))) := Lib.hid (hpo.mono (by omega) (by omega))
          clear hpo
          repeat' (first | go_skip | go_guarded | go_step)
          go_roundg (n - (i + 1))
          case measure => omega
          case rel => exact ⟨i + 1, g1, q, rfl, rfl, by go_num, by omega, Nat.le_refl _, by omega, HZ⟩
        · have d3 : (dN : Int) % 6 = 1 := by omega
          clear em
          repeat' (go_not_at_region 9; (first | go_skip | go_guarded | go_step))
          rename_i K hK
          refine raw_a w w6 g q k (9 + 400 * i) (4 * i) F is pX kX AX hk32 g9 pc hpl (Lib.hid ⟨HRW.out, H6.out.1, hn9q⟩) _ _ K _ _ _ _ _ _ _ _ _ _ _ _ _ _ _ _ _ _ _ _ _ _ _ _ _ _ _ _ _ _ _ _ _ _ _ _ _ _ _ _ _ _ _ _ _ _ _ _ _ _ _ _ _ _ _ _ _ _ _ _ _ _ _ _ _ _ _ _ _ _ _ _ _ _ _ _ _ _ _ _ _ _ _ _ _ _ _ _ _ _ _ _ _ _ _ _ _ _ _ _ _ _ _ _ _ _ _ _ _ _ _ _ _ _ _ _ _ _ _ _ _ _ _ _ _ _ _ _ _ _ _ _ _ _ _ _ _ _ _ _ _ _ _ _ _ _ _ _ _ _ _ (by kernel_rfl) (by kernel_rfl) hK ?_
          intro g1 z38 z39 z40 z41 z42 z43 z44 z45 z46 z47 z48 z49 z50 z51 z52 wx hpo
          have HZ : Hid (RwE w wx g1 q (9 + 400 * (i + 1)) (4 * (i + 1))) := Lib.hid (hpo.mono (by omega) (by omega))
          clear hpo
          repeat' (first | go_skip | go_guarded | go_step)
          go_roundg (n - (i + 1))
          case measure => omega
          case rel => exact ⟨i + 1, g1, q, rfl, rfl, by go_num, by omega, Nat.le_refl _, by omega, HZ⟩
        · have d3 : (dN : Int) % 6 = 2 := by omega
          clear em
          repeat' (go_not_at_region 9; (first | go_skip | go_guarded | go_step))
          rename_i K hK
          refine raw_a w w6 g q k (9 + 400 * i) (4 * i) F is pX kX AX hk32 g9 pc hpl (Lib.hid ⟨HRW.out, H6.out.1, hn9q⟩) _ _ K _ _ _ _ _ _ _ _ _ _ _ _ _ _ _ _ _ _ _ _ _ _ _ _ _ _ _ _ _ _ _ _ _ _ _ _ _ _ _ _ _ _ _ _ _ _ _ _ _ _ _ _ _ _ _ _ _ _ _ _ _ _ _ _ _ _ _ _ _ _ _ _ _ _ _ _ _ _ _ _ _ _ _ _ _ _ _ _ _ _ _ _ _ _ _ _ _ _ _ _ _ _ _ _ _ _ _ _ _ _ _ _ _ _ _ _ _ _ _ _ _ _ _ _ _ _ _ _ _ _ _ _ _ _ _ _ _ _ _ _ _ _ _ _ _ _ _ _ _ _ _ (by kernel_rfl) (by kernel_rfl) hK ?_
          intro g1 z38 z39 z40 z41 z42 z43 z44 z45 z46 z47 z48 z49 z50 z51 z52 wx hpo
          have HZ : Hid (RwE w wx g1 q (9 + 400 * (i + 1)) (4 * (i + 1))) := Lib.hid (hpo.mono (by omega) (by omega))
          clear hpo
          repeat' (first | go_skip | go_guarded | go_step)
          go_roundg (n - (i + 1))
          case measure => omega
          case rel => exact ⟨i + 1, g1, q, rfl, rfl, by go_num, by omega, Nat.le_refl _, by omega, HZ⟩
        · have d3 : (dN : Int) % 6 = 3 := by omega
          clear em
          repeat' (go_not_at_region 12; (first | go_skip | go_guarded | go_step))
          rename_i K hK
          refine raw_b w w6 g q k (9 + 400 * i) (4 * i) F is pX kX AX hk32 HRW _ _ K _ _ _ _ _ _ _ _ _ _ _ _ _ _ _ _ _ _ _ _ _ _ _ _ _ _ _ _ _ _ _ _ _ _ _ _ _ _ _ _ _ _ _ _ _ _ _ _ _ _ _ _ _ _ _ _ _ _ _ _ _ _ _ _ _ _ _ _ _ _ _ _ _ _ _ _ _ _ _ _ _ _ _ _ _ _ _ _ _ _ _ _ _ _ _ _ _ _ _ _ _ _ _ _ _ _ _ _ _ _ _ _ _ _ _ _ _ _ _ _ _ _ _ _ _ _ _ _ _ _ _ _ _ _ _ _ _ _ _ _ _ _ _ _ _ _ _ _ _ _ _ _ (by kernel_rfl) (by kernel_rfl) hK ?_
          intro g1 q1 z10 z55 z56 z57 z58 z59 z60 z61 z62 z63 z64 z65 z66 z67 z68 z69 z70 z71 z72 wx hpo
          have HZ : Hid (RwE w wx g1 q1 (9 + 400 * (i + 1)) (4 * (i + 1))) := Lib.hid (hpo.mono (by omega) (by omega))
          clear hpo
          repeat' (first | go_skip | go_guarded | go_step)
          go_roundg (n - (i + 1))
          case measure => omega
          case rel => exact ⟨i + 1, g1, q1, rfl, rfl, by go_num, by omega, Nat.le_refl _, by omega, HZ⟩
        · have d3 : (dN : Int) % 6 = 4 := by omega
          clear em
          repeat' (go_not_at_region 17; (first | go_skip | go_guarded | go_step))
          rename_i K hK
          refine raw_d w w6 g q k (9 + 400 * i) (4 * i) F is pX kX AX hk32 ga _ al (Lib.hid ⟨HRW.out, HRA.out⟩) _ _ K _ _ _ _ _ _ _ _ _ _ _ _ _ _ _ _ _ _ _ _ _ _ _ _ _ _ _ _ _ _ _ _ _ _ _ _ _ _ _ _ _ _ _ _ _ _ _ _ _ _ _ _ _ _ _ _ _ _ _ _ _ _ _ _ _ _ _ _ _ _ _ _ _ _ _ _ _ _ _ _ _ _ _ _ _ _ _ _ _ _ _ _ _ _ _ _ _ _ _ _ _ _ _ _ _ _ _ _ _ _ _ _ _ _ _ _ _ _ _ _ _ _ _ _ _ _ _ _ _ _ _ _ _ _ _ _ _ _ _ _ _ _ _ _ _ _ _ _ _ _ _ (by kernel_rfl) (by kernel_rfl) hK ?_
          intro g1 z11 z12 z13 z14 z75 z76 z77 z78 z79 z80 z81 z82 z83 z84 z85 z86 z87 z88 z89 z90 z91 z92 z93 z94 z95 z96 z97 z98 z99 z100 z101 z102 z103 z104 z105 z106 z107 z108 z109 z110 z111 z112 z113 z114 z115 z116 z117 wx hpo
          have HZ : Hid (RwE w wx g1 q (9 + 400 * (i + 1)) (4 * (i + 1))) := Lib.hid (hpo.mono (by omega) (by omega))
          clear hpo
          repeat' (first | go_skip | go_guarded | go_step)
          go_roundg (n - (i + 1))
          case measure => omega
          case rel => exact ⟨i + 1, g1, q, rfl, rfl, by go_num, by omega, Nat.le_refl _, by omega, HZ⟩
        · have d3 : (dN : Int) % 6 = 5 := by omega
          clear em
          repeat' (go_not_at_region 28; (first | go_skip | go_guarded | go_step))
          rename_i K hK
          refine raw_c w w6 g q k (9 + 400 * i) (4 * i) F is pX kX AX hk32 g9 pc hpl (Lib.hid ⟨HRW.out, H6.out.1, hn9q⟩) _ _ K _ _ _ _ _ _ _ _ _ _ _ _ _ _ _ _ _ _ _ _ _ _ _ _ _ _ _ _ _ _ _ _ _ _ _ _ _ _ _ _ _ _ _ _ _ _ _ _ _ _ _ _ _ _ _ _ _ _ _ _ _ _ _ _ _ _ _ _ _ _ _ _ _ _ _ _ _ _ _ _ _ _ _ _ _ _ _ _ _ _ _ _ _ _ _ _ _ _ _ _ _ _ _ _ _ _ _ _ _ _ _ _ _ _ _ _ _ _ _ _ _ _ _ _ _ _ _ _ _ _ _ _ _ _ _ _ _ _ _ _ _ _ _ _ _ _ _ _ _ _ _ (by kernel_rfl) (by kernel_rfl) hK ?_
          intro g1 z15 z120 z121 z122 z123 z124 z125 z126 z127 z128 z129 z130 z131 z132 z133 z134 z135 z136 z137 z138 z139 z140 z141 z142 z143 z144 z145 z146 z147 z148 z149 z150 wx hpo
          have HZ : Hid (RwE w wx g1 q (9 + 400 * (i + 1)) (4 * (i + 1))) := Lib.hid (hpo.mono (by omega) (by omega))
          clear hpo
          repeat' (first | go_skip | go_guarded | go_step)
          go_roundg (n - (i + 1))
          case measure => omega
          case rel => exact ⟨i + 1, g1, q, rfl, rfl, by go_num, by omega, Nat.le_refl _, by omega, HZ⟩
    · obtain rfl : i = n := by omega
      have d1 : decide (i < i) = false := by simp
      repeat' (first | go_skip | go_guarded | go_step)
      go_ret2
      exact ⟨g, q, rfl, HI.out.mono (by omega) (by omega)⟩
end Go.Proofs.YtclcgelbcbnekaaDoor
