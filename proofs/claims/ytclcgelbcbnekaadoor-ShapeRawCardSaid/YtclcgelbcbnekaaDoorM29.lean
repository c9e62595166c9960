/- Texts joined. -/
import Derived.Test.YtclcgelbcbnekaaDoorHr
import Derived.Test.YtclcgelbcbnekaaDoorM02
import Derived.Deep.LoopGhost
import Derived.Test.YtclcgelbcbnekaaDoorM28
import Derived.Test.YtclcgelbcbnekaaDoorM05
import Derived.Test.YtclcgelbcbnekaaDoorM09
set_option linter.unusedVariables false
set_option linter.unusedSimpArgs false
/- Contract: the document's hash of bytes. -/
namespace Go.Proofs.YtclcgelbcbnekaaDoor
open Go.RowKit Go.QS
set_option linter.unusedVariables false
variable [Zero (Nat → Prop)]
set_option linter.unusedSectionVars false

def StR (w : World) (g : Nat) (v : V4) : Prop := w.heap[g]? = some (.cells #[.int .u64 v.a, .int .u64 v.b, .int .u64 v.c, .int .u64 v.d] 153 (0, 0))
theorem StR.cells {w : World} {g : Nat} {v : V4} (h : StR w g v) : w.cell? ⟨g, 0, none⟩ = some (.int .u64 v.a) ∧ w.cell? ⟨g, 1, none⟩ = some (.int .u64 v.b) ∧ w.cell? ⟨g, 2, none⟩ = some (.int .u64 v.c) ∧ w.cell? ⟨g, 3, none⟩ = some (.int .u64 v.d) ∧ ∀ j, w.frozen? ⟨g, j, none⟩ = false := by
  unfold StR at h
  simp [World.cell?, World.frozen?, h]
theorem StR.new {w : World} {g : Nat} (hg : g = w.heap.size) (a b c d : Nat) : StR (w.alloc (.cells #[.int .u64 a, .int .u64 b, .int .u64 c, .int .u64 d] 153)) g ⟨a, b, c, d⟩ := by
  subst hg; simp only [StR, World.alloc]; simp
theorem StR.ext {w w' : World} {g : Nat} {v : V4} (h : StR w g v) (f : Ext w w') : StR w' g v := (f.block g (heap_lt h)).trans h
theorem StR.set4 {w : World} {g : Nat} {v : V4} (h : StR w g v) (u : V4) : StR ((((w.setCell ⟨g, 0, none⟩ (.int .u64 u.a)).setCell ⟨g, 1, none⟩ (.int .u64 u.b)).setCell ⟨g, 2, none⟩ (.int .u64 u.c)).setCell ⟨g, 3, none⟩ (.int .u64 u.d)) g u := heap_set (heap_set (heap_set (heap_set h 0 _) 1 _) 2 _) 3 _
set_option maxRecDepth 100000 in
set_option maxHeartbeats 2000000 in
theorem rsum_c (w : World) (k0 k1 : Nat) (s : List UInt8) (h0 : k0 < 18446744073709551616) (h1 : k1 < 18446744073709551616) (hs : s.length ≤ 1000000000) :
    Calls Tryd.prog 69 #[.int .u64 k0, .int .u64 k1, str s] w fun e w' => e = .returned (.int .u64 (sipN k0 k1 s)) ∧ Ext w w' := by
  have hok := sip0_ok h0 h1
  have x0 : bits BinOp.xor IntKind.u64 (k0 : Int) 8317987319222330741 = (((sip0 k0 k1).a : Nat) : Int) := xor_law k0 8317987319222330741 h0 (by decide)
  have x1 : bits BinOp.xor IntKind.u64 (k1 : Int) 7237128888997146477 = (((sip0 k0 k1).b : Nat) : Int) := xor_law k1 7237128888997146477 h1 (by decide)
  have x2 : bits BinOp.xor IntKind.u64 (k0 : Int) 7816392313619706465 = (((sip0 k0 k1).c : Nat) : Int) := xor_law k0 7816392313619706465 h0 (by decide)
  have x3 : bits BinOp.xor IntKind.u64 (k1 : Int) 8387220255154660723 = (((sip0 k0 k1).d : Nat) : Int) := xor_law k1 8387220255154660723 h1 (by decide)
  obtain ⟨g, hg⟩ : ∃ g, g = w.heap.size := ⟨_, rfl⟩
  have hgw : w.heap.size ≤ g := by omega
  obtain ⟨A, hA⟩ : ∃ A, A = absorb s.length (s.length / 8) (sip0 k0 k1) s := ⟨_, rfl⟩
  have hAf : sipN k0 k1 s = fin A := by rw [hA]; rfl
  have HA := Lib.hid (And.intro hA hAf)
  have hAo : A.Ok := by rw [hA]; exact absorb_ok _ _ hok rfl
  clear hA hAf
  go_enter Tryd.func69, Tryd.ntmps69
  repeat' (go_not_at_region 3; (first | go_skip | go_guarded | go_step))
  rw [← hg]
  refine wp_named (fun w' => StR w' g (sip0 k0 k1) ∧ Ext w w') ⟨StR.new hg _ _ _ _, (Ext.refl w).alloc (Nat.le_refl _) _⟩ ?_
  clear x0 x1 x2 x3 hg
  intro wa HW
  go_loopg [8] (s.length + 9) (fun gk v8 wr => ∃ (p : Nat) (u : V4), v8 = .int .i64 p ∧ p ≤ s.length + 8 ∧ s.length + 9 - p ≤ gk ∧ u.Ok ∧ Hid ((p ≤ s.length → absorb s.length ((s.length - p) / 8) u (s.drop p) = A) ∧ (s.length < p → u = A) ∧ StR wr g u ∧ Ext w wr))
  case atStart => exact ⟨0, sip0 k0 k1, rfl, Nat.zero_le _, by omega, hok, Lib.hid ⟨fun _ => HA.out.1.symm, fun h => by omega, HW.out.1, HW.out.2⟩⟩
  case round =>
    obtain ⟨p, u, rfl, hp9, hgk, hu, HI⟩ := hrel
    rcases Nat.lt_or_ge s.length p with hlt | hge
    · have d1 : decide (p ≤ s.length) = false := by simp; omega
      have e := HI.out.2.1 hlt
      subst e
      obtain ⟨A0, A1, A2, A3⟩ := u
      obtain ⟨l0, l1, l2, l3⟩ := hAo
      simp only at l0 l1 l2 l3
      obtain ⟨q0, q1, q2, q3, qf⟩ := HI.out.2.2.1.cells
      simp only at q0 q1 q2 q3
      have x5 : bits BinOp.xor IntKind.u64 (A2 : Int) 255 = ((A2 ^^^ 255 : Nat) : Int) := xor_law A2 255 l2 (by decide)
      have l5 : A2 ^^^ 255 < 18446744073709551616 := xor_lt l2 (by decide)
      obtain ⟨B2, hB2⟩ : ∃ B, B = A2 ^^^ 255 := ⟨_, rfl⟩
      rw [← hB2] at x5 l5
      have hok4 := rnds_ok 4 (v := ⟨A0, A1, B2, A3⟩) ⟨l0, l1, l5, l3⟩
      have hfin : fin ⟨A0, A1, A2, A3⟩ = (rnds 4 ⟨A0, A1, B2, A3⟩).a ^^^ (rnds 4 ⟨A0, A1, B2, A3⟩).b ^^^ (rnds 4 ⟨A0, A1, B2, A3⟩).c ^^^ (rnds 4 ⟨A0, A1, B2, A3⟩).d := by rw [hB2]; rfl
      have hres := HA.out.2.trans hfin
      have R1 := Lib.hid (fun W => rround_c W ⟨A0, A1, B2, A3⟩ ⟨l0, l1, l5, l3⟩)
      have R2 := Lib.hid (fun W => rround_c W (rnd ⟨A0, A1, B2, A3⟩) (rnds_ok 1 (v := ⟨A0, A1, B2, A3⟩) ⟨l0, l1, l5, l3⟩))
      have R3 := Lib.hid (fun W => rround_c W (rnd (rnd ⟨A0, A1, B2, A3⟩)) (rnds_ok 2 (v := ⟨A0, A1, B2, A3⟩) ⟨l0, l1, l5, l3⟩))
      have R4 := Lib.hid (fun W => rround_c W (rnd (rnd (rnd ⟨A0, A1, B2, A3⟩))) (rnds_ok 3 (v := ⟨A0, A1, B2, A3⟩) ⟨l0, l1, l5, l3⟩))
      have eU : rnd (rnd (rnd (rnd ⟨A0, A1, B2, A3⟩))) = rnds 4 ⟨A0, A1, B2, A3⟩ := rfl
      rw [eU] at R4
      obtain ⟨U, hU⟩ : ∃ U, U = rnds 4 ⟨A0, A1, B2, A3⟩ := ⟨_, rfl⟩
      rw [← hU] at hok4 hres R4
      obtain ⟨v1, hv1⟩ : ∃ v1, v1 = rnd ⟨A0, A1, B2, A3⟩ := ⟨_, rfl⟩
      rw [← hv1] at R1 R2 R3 R4
      obtain ⟨v2, hv2⟩ : ∃ v2, v2 = rnd v1 := ⟨_, rfl⟩
      rw [← hv2] at R2 R3 R4
      obtain ⟨v3, hv3⟩ : ∃ v3, v3 = rnd v2 := ⟨_, rfl⟩
      rw [← hv3] at R3 R4
      have HV := Lib.hid hres
      clear hB2 hfin hres eU hU hv1 hv2 hv3
      repeat' (go_not_at_region 18; (first | go_skip | go_guarded | go_step))
      refine wp_named (fun w' => StR w' g ⟨A0, A1, B2, A3⟩ ∧ Ext w w') ⟨heap_set HI.out.2.2.1 2 (.int .u64 (B2 : Int)), HI.out.2.2.2.setCell hgw _⟩ ?_
      clear q0 q1 q2 q3 qf x5
      intro wb HB
      obtain ⟨q0, q1, q2, q3, qf⟩ := HB.out.1.cells
      simp only at q0 q1 q2 q3
      repeat' (first | go_at_call 92 | go_skip | go_guarded | go_step)
      refine (R1.out _).mono ?_
      rintro e w1 ⟨rfl, f1⟩
      have E1 : Hid (Ext wb w1) := Lib.hid f1
      clear f1
      go_simp
      repeat' (first | go_at_call 92 | go_skip | go_guarded | go_step)
      refine (R2.out _).mono ?_
      rintro e w2 ⟨rfl, f2⟩
      have E2 : Hid (Ext wb w2) := Lib.hid (E1.out.trans f2)
      clear f2
      go_simp
      repeat' (first | go_at_call 92 | go_skip | go_guarded | go_step)
      refine (R3.out _).mono ?_
      rintro e w3 ⟨rfl, f3⟩
      have E3 : Hid (Ext wb w3) := Lib.hid (E2.out.trans f3)
      clear f3
      go_simp
      repeat' (first | go_at_call 92 | go_skip | go_guarded | go_step)
      refine (R4.out _).mono ?_
      rintro e w4 ⟨rfl, f4⟩
      have E4 : Hid (Ext wb w4) := Lib.hid (E3.out.trans f4)
      clear f4 q0 q1 q2 q3 qf
      obtain ⟨U0, U1, U2, U3⟩ := U
      obtain ⟨m0, m1, m2, m3⟩ := hok4
      simp only at m0 m1 m2 m3 HV
      have S4 := Lib.hid (HB.out.1.ext E4.out)
      obtain ⟨q0, q1, q2, q3, qf⟩ := S4.out.cells
      simp only at q0 q1 q2 q3
      go_simp
      repeat' (go_not_at_region 19; (first | go_skip | go_guarded | go_step))
      refine wp_named (fun w' => StR w' g ⟨U0, U1, U2, U3⟩ ∧ Ext w w') ⟨S4.out.set4 ⟨U0, U1, U2, U3⟩, ((((HB.out.2.trans E4.out).setCell hgw _).setCell hgw _).setCell hgw _).setCell hgw _⟩ ?_
      clear q0 q1 q2 q3 qf
      intro wd HD
      obtain ⟨q0, q1, q2, q3, qf⟩ := HD.out.1.cells
      simp only at q0 q1 q2 q3
      have y1 := xor_law U0 U1 m0 m1
      have y2 := xor_law _ U2 (xor_lt m0 m1) m2
      have y3 := xor_law _ U3 (xor_lt (xor_lt m0 m1) m2) m3
      repeat' (first | go_skip | go_guarded | go_step)
      go_ret
      exact ⟨by rw [HV.out]; rfl, HD.out.2⟩
    · have d1 : decide (p ≤ s.length) = true := by simp; omega
      repeat' (go_not_at_region 7; (first | go_skip | go_guarded | go_step))
      go_loopg [9, 10] 9 (fun gk v9 v10 wx => ∃ (j m : Nat), v10 = .int .i64 ((j : Int) - 1) ∧ v9 = .int .u64 m ∧ j ≤ 8 ∧ j ≤ gk ∧ Hid (m = leN ((s.drop (p + j)).take (8 - j))) ∧ wx = wr)
      case atStart => exact ⟨8, 0, rfl, rfl, Nat.le_refl _, by omega, Lib.hid (by simp [leN]), rfl⟩
      case round =>
        obtain ⟨j, m, rfl, rfl, hj8, hjk, HM, rfl⟩ := hrel
        have hm8 : m < 256 ^ (8 - j) := by
          rw [HM.out]
          refine Nat.lt_of_lt_of_le (leN_lt _) (Nat.pow_le_pow_right (by decide) ?_)
          simp; omega
        obtain rfl | ⟨q, rfl⟩ : j = 0 ∨ ∃ q, j = q + 1 := by cases j with | zero => exact .inl rfl | succ q => exact .inr ⟨q, rfl⟩
        · have hj0 : (((0 : Nat) : Int) - 1) = -1 := rfl
          rw [hj0]
          have hM : m = leN ((s.drop p).take 8) := HM.out
          have hml : m < 18446744073709551616 := by
            have h2 : (256 : Nat) ^ 8 = 18446744073709551616 := by decide
            omega
          obtain ⟨e, he⟩ : ∃ e, e = p + 8 := ⟨_, rfl⟩
          have hp8 : ((p : Int) + 8) = (e : Int) := by omega
          have hu2 : s.length < e → tk u (m + s.length % 256 * 72057594037927936) = A := fun h => by
            have h2 := HI.out.1 hge
            rw [show (s.length - p) / 8 = 0 by omega] at h2
            rw [← h2, hM, List.take_of_length_le (by simp; omega)]
            rfl
          have hu3 : e ≤ s.length → absorb s.length ((s.length - e) / 8) (tk u m) (s.drop e) = A := fun h => by
            have h2 := HI.out.1 hge
            rw [show (s.length - p) / 8 = (s.length - e) / 8 + 1 by omega] at h2
            rw [← h2, hM, he, ← List.drop_drop]
            rfl
          have hm7 : s.length < e → m < 72057594037927936 := fun h => by
            rw [hM]; exact leN_lt7 (by simp; omega)
          have HM2 := Lib.hid (And.intro hu2 hu3)
          have HE := Lib.hid he
          clear hM HM hm8 hj8 hjk he hu2 hu3
          repeat' (go_not_at_if 50; (first | go_skip | go_guarded | go_step))
          go_cut [9] (fun v9 wy => Hid (∃ m' : Nat, v9 = .int .u64 m' ∧ m' < 18446744073709551616 ∧ (s.length < e → tk u m' = A) ∧ (e ≤ s.length → absorb s.length ((s.length - e) / 8) (tk u m') (s.drop e) = A) ∧ wy = wr))
          case first =>
            rcases Nat.lt_or_ge s.length e with hlt | hge2
            · have d2 : decide (s.length < e) = true := by simp [hlt]
              have d3 : ((s.length : Int) < (e : Int)) := by omega
              have hm7' := hm7 hlt
              repeat' (first | go_skip | go_guarded | go_step)
              go_meet
              exact Lib.hid ⟨m + s.length % 256 * 72057594037927936, by go_num, by omega, fun _ => HM2.out.1 hlt, fun h => by omega, rfl⟩
            · have d2 : decide (s.length < e) = false := by simp; omega
              have d3 : ¬ ((s.length : Int) < (e : Int)) := by omega
              repeat' (first | go_skip | go_guarded | go_step)
              go_meet
              exact Lib.hid ⟨m, rfl, hml, fun h => by omega, HM2.out.2, rfl⟩
          case rest =>
          obtain ⟨m', rfl, hm', ht1, ht2, rfl⟩ := hcut.out
          have HT := Lib.hid (And.intro ht1 ht2)
          clear ht1 ht2 hcut hm7 hml
          obtain ⟨a0, b0, c0, d0⟩ := u
          obtain ⟨la0, lb0, lc0, ld0⟩ := hu
          simp only at la0 lb0 lc0 ld0
          obtain ⟨q0, q1, q2, q3, qf⟩ := HI.out.2.2.1.cells
          simp only at q0 q1 q2 q3
          have x5 : bits BinOp.xor IntKind.u64 (d0 : Int) (m' : Int) = ((d0 ^^^ m' : Nat) : Int) := xor_law d0 m' ld0 hm'
          obtain ⟨D, hD⟩ : ∃ D, D = d0 ^^^ m' := ⟨_, rfl⟩
          have lD : D < 18446744073709551616 := by rw [hD]; exact xor_lt ld0 hm'
          rw [← hD] at x5
          have hok2 := rnds_ok 2 (v := ⟨a0, b0, c0, D⟩) ⟨la0, lb0, lc0, lD⟩
          have R1 := Lib.hid (fun W => rround_c W ⟨a0, b0, c0, D⟩ ⟨la0, lb0, lc0, lD⟩)
          have R2 := Lib.hid (fun W => rround_c W (rnd ⟨a0, b0, c0, D⟩) (rnds_ok 1 (v := ⟨a0, b0, c0, D⟩) ⟨la0, lb0, lc0, lD⟩))
          have eU : rnd (rnd ⟨a0, b0, c0, D⟩) = rnds 2 ⟨a0, b0, c0, D⟩ := rfl
          rw [eU] at R2
          have hres : tk ⟨a0, b0, c0, d0⟩ m' = xa (rnds 2 ⟨a0, b0, c0, D⟩) m' := by rw [hD]; rfl
          obtain ⟨U, hU⟩ : ∃ U, U = rnds 2 ⟨a0, b0, c0, D⟩ := ⟨_, rfl⟩
          rw [← hU] at hok2 R2 hres
          obtain ⟨v1, hv1⟩ : ∃ v1, v1 = rnd ⟨a0, b0, c0, D⟩ := ⟨_, rfl⟩
          rw [← hv1] at R1 R2
          have HV := Lib.hid hres
          clear hD hres eU hU hv1
          repeat' (go_not_at_region 15; (first | go_skip | go_guarded | go_step))
          refine wp_named (fun w' => StR w' g ⟨a0, b0, c0, D⟩ ∧ Ext w w') ⟨heap_set HI.out.2.2.1 3 (.int .u64 (D : Int)), HI.out.2.2.2.setCell hgw _⟩ ?_
          clear q0 q1 q2 q3 qf x5
          intro wb HB
          obtain ⟨q0, q1, q2, q3, qf⟩ := HB.out.1.cells
          simp only at q0 q1 q2 q3
          repeat' (first | go_at_call 92 | go_skip | go_guarded | go_step)
          refine (R1.out _).mono ?_
          rintro e1 w1 ⟨rfl, f1⟩
          have E1 : Hid (Ext wb w1) := Lib.hid f1
          clear f1
          go_simp
          repeat' (first | go_at_call 92 | go_skip | go_guarded | go_step)
          refine (R2.out _).mono ?_
          rintro e2 w2 ⟨rfl, f2⟩
          have E2 : Hid (Ext wb w2) := Lib.hid (E1.out.trans f2)
          clear f2 q0 q1 q2 q3 qf
          obtain ⟨U0, U1, U2, U3⟩ := U
          obtain ⟨n0, n1, n2, n3⟩ := hok2
          simp only at n0 n1 n2 n3
          have S4 := Lib.hid (HB.out.1.ext E2.out)
          obtain ⟨q0, q1, q2, q3, qf⟩ := S4.out.cells
          simp only at q0 q1 q2 q3
          go_simp
          repeat' (go_not_at_region 16; (first | go_skip | go_guarded | go_step))
          refine wp_named (fun w' => StR w' g ⟨U0, U1, U2, U3⟩ ∧ Ext w w') ⟨S4.out.set4 ⟨U0, U1, U2, U3⟩, ((((HB.out.2.trans E2.out).setCell hgw _).setCell hgw _).setCell hgw _).setCell hgw _⟩ ?_
          clear q0 q1 q2 q3 qf
          intro wd HD
          obtain ⟨q0, q1, q2, q3, qf⟩ := HD.out.1.cells
          simp only at q0 q1 q2 q3
          have x6 : bits BinOp.xor IntKind.u64 (U0 : Int) (m' : Int) = ((U0 ^^^ m' : Nat) : Int) := xor_law U0 m' n0 hm'
          have l6 : U0 ^^^ m' < 18446744073709551616 := xor_lt n0 hm'
          repeat' (first | go_skip | go_guarded | go_step)
          go_roundg (s.length + 9 - e)
          case measure => have := HE.out; omega
          case rel => exact ⟨e, ⟨U0 ^^^ m', U1, U2, U3⟩, by go_num, by have := HE.out; omega, Nat.le_refl _, ⟨l6, n1, n2, n3⟩, Lib.hid ⟨fun h => by rw [← HT.out.2 h, HV.out]; rfl, fun h => by rw [← HT.out.1 h, HV.out]; rfl, heap_set HD.out.1 0 (.int .u64 ((U0 ^^^ m' : Nat) : Int)), HD.out.2.setCell hgw _⟩⟩
        · have hjq : (((q + 1 : Nat) : Int) - 1) = (q : Int) := by omega
          rw [hjq]
          have hm7 : m * 256 < 18446744073709551616 := by
            have h1 : 256 ^ (8 - (q + 1)) ≤ 256 ^ 7 := Nat.pow_le_pow_right (by decide) (by omega)
            have h2 : (256 : Nat) ^ 7 = 72057594037927936 := by decide
            omega
          have hmI : 256 * (m : Int) = ((m * 256 : Nat) : Int) := by omega
          have hpq : ((p : Int) + (q : Int)) = ((p + q : Nat) : Int) := by omega
          have hat := leN_at s (p + q) (8 - (q + 1))
          rw [show 8 - (q + 1) + 1 = 8 - q by omega, show p + q + 1 = p + (q + 1) by omega, ← HM.out] at hat
          have hlt8 : leN ((s.drop (p + q)).take (8 - q)) < 18446744073709551616 := leN_lt8 (by simp; omega)
          obtain ⟨r, hr⟩ : ∃ r, r = p + q := ⟨_, rfl⟩
          rw [← hr] at hpq hat hlt8
          obtain ⟨M, hMM⟩ : ∃ M, M = m * 256 := ⟨_, rfl⟩
          rw [← hMM] at hmI
          have HR := Lib.hid (And.intro hr hMM)
          by_cases hq : r < s.length
          · have d2 : decide (r < s.length) = true := by simp [hq]
            obtain ⟨b, hb⟩ := get_of_lt s hq
            have hb2 : b.toNat < 256 := b.toNat_lt
            rw [hb] at hat
            simp only at hat
            have hidx := idx_str (P := Tryd.prog) (t := 9) Tryd.underlying9 hb
            have hadd : IntKind.u64.wrap ((M : Int) + (b.toNat : Int)) = ((leN ((s.drop r).take (8 - q)) : Nat) : Int) := by rw [IntKind.wrap_u64]; omega
            clear hr hMM
            repeat' (first | go_skip | go_guarded | go_step)
            go_roundg q
            case measure => omega
            case rel => exact ⟨q, leN ((s.drop r).take (8 - q)), by go_num, by go_num, by omega, Nat.le_refl _, Lib.hid (by rw [HR.out.1]), rfl⟩
          · have d2 : decide (r < s.length) = false := by simp; omega
            have hb : s[r]? = none := by simp; omega
            rw [hb] at hat
            simp only at hat
            have hMM2 : M = leN ((s.drop r).take (8 - q)) := by omega
            clear hr hMM
            repeat' (first | go_skip | go_guarded | go_step)
            go_roundg q
            case measure => omega
            case rel => exact ⟨q, M, by go_num, by go_num, by omega, Nat.le_refl _, Lib.hid (by rw [hMM2, HR.out.1]), rfl⟩
end Go.Proofs.YtclcgelbcbnekaaDoor
/- The document's trie in memory; its hash. -/
namespace Go.Proofs.YtclcgelbcbnekaaDoor
open Go.RowKit Go.QS Go.QS.Nk
set_option linter.unusedVariables false
variable [Zero (Nat → Prop)]
set_option linter.unusedSectionVars false

abbrev TT : TypeId := 57
abbrev RP : TypeId := 52
abbrev U64 : TypeId := 22
theorem infoRP : ∃ i z, Tryd.prog.info? 52 = some i ∧ i.zero = some z ∧ i.size = 2 ∧ i.bytes = 32 ∧ z.cells.size = 2 := info_of (z := .agg #[str [], str []]) (by kernel_rfl) rfl
theorem infoU : ∃ i z, Tryd.prog.info? 22 = some i ∧ i.zero = some z ∧ i.size = 1 ∧ i.bytes = 8 ∧ z.cells.size = 1 := info_of (z := .int .u64 0) (by kernel_rfl) rfl
/-- A chunk's entry. -/
def EntOk (R : Nat → List Pr → Prop) (A : Array Value) (c : Nat) (x : List Pr) : Prop :=
  (x = [] ∧ A[2 + c]? = some (.int .i64 0)) ∨ (∃ p, x = [p] ∧ A[2 + c]? = some (.int .i64 1) ∧ A[34 + 2 * c]? = some (str p.1) ∧ A[35 + 2 * c]? = some (str p.2)) ∨ (2 ≤ x.length ∧ ∃ q, A[2 + c]? = some (.int .i64 2) ∧ A[98 + c]? = some (ptr q) ∧ R q x)
theorem EntOk.mono {R R' : Nat → List Pr → Prop} {A : Array Value} {c : Nat} {x : List Pr} (h : EntOk R A c x) (hR : ∀ q, R q x → R' q x) : EntOk R' A c x := by
  rcases h with h | h | ⟨h1, q, h2, h3, h4⟩
  · exact .inl h
  · exact .inr (.inl h)
  · exact .inr (.inr ⟨h1, q, h2, h3, hR q h4⟩)
theorem EntOk.other {R : Nat → List Pr → Prop} {A A' : Array Value} {c c' : Nat} {x : List Pr} (h : EntOk R A c' x) (hc : c < 32) (hc' : c' < 32) (hne : c' ≠ c) (ha : ∀ j, j ≠ 2 + c → j ≠ 34 + 2 * c → j ≠ 35 + 2 * c → j ≠ 98 + c → A'[j]? = A[j]?) : EntOk R A' c' x := by
  have e1 := ha (2 + c') (by omega) (by omega) (by omega) (by omega)
  have e2 := ha (34 + 2 * c') (by omega) (by omega) (by omega) (by omega)
  have e3 := ha (35 + 2 * c') (by omega) (by omega) (by omega) (by omega)
  have e4 := ha (98 + c') (by omega) (by omega) (by omega) (by omega)
  unfold EntOk
  rw [e1, e2, e3, e4]
  exact h
/-- The document's trie of these pairs, of so many levels more. -/
def DR (H : List UInt8 → Nat) (w : World) : Nat → Nat → List Pr → Prop
  | 0, q, l => ∃ A v, w.heap[q]? = some (.cells A TT (0, 0)) ∧ A[0]? = some (.bool true) ∧ A[1]? = some v ∧ PS w v l ∧ ∀ c, c < 32 → A[2 + c]? = some (.int .i64 0)
  | f + 1, q, l => ∃ A, w.heap[q]? = some (.cells A TT (0, 0)) ∧ A[0]? = some (.bool false) ∧ (∀ c, c < 32 → EntOk (DR H w f) A c (Go.QS.part H (12 - f) c l)) ∧ A[1]? = some (.slice none 0 0)
theorem DR.ext {H : List UInt8 → Nat} {w w' : World} (h : Ext w w') : ∀ (f : Nat) {q : Nat} {l : List Pr}, DR H w f q l → DR H w' f q l
  | 0, q, l, ⟨A, v, h1, h2, h3, h4, h5⟩ => ⟨A, v, (h.block q (heap_lt h1)).trans h1, h2, h3, h4.below h, h5⟩
  | f + 1, q, l, ⟨A, h1, h2, h3, h4⟩ => ⟨A, (h.block q (heap_lt h1)).trans h1, h2, fun c hc => (h3 c hc).mono fun q' hq => DR.ext h f hq, h4⟩
set_option maxRecDepth 100000 in
set_option maxHeartbeats 1000000 in
theorem rhash_c (w : World) (h : Hs) (s : List UInt8) (hk : h.Ok) (hs : s.length ≤ 1000000000) :
    Calls Tryd.prog 37 #[hsV h, str s] w fun e w' => e = .returned (.int .u64 (h.hash s)) ∧ Ext w w' := by
  obtain ⟨a0, a1, mk⟩ := h
  obtain ⟨l0, l1, l2⟩ := hk
  simp only at l0 l1 l2
  have hA := bits_and_u64_nat (sipN a0 a1 s) mk (sipN_lt l0 l1 s) l2
  have HC := Lib.hid (fun W => rsum_c W a0 a1 s l0 l1 hs)
  obtain ⟨x, hx⟩ : ∃ x, x = sipN a0 a1 s := ⟨_, rfl⟩
  have HX := Lib.hid hx
  rw [← hx] at hA HC
  clear hx
  go_enter Tryd.func37, Tryd.ntmps37
  repeat' (go_not_at_region 1; (first | go_skip | go_guarded | go_step))
  obtain ⟨g, hg⟩ : ∃ g, g = w.heap.size := ⟨_, rfl⟩
  have hgw : w.heap.size ≤ g := by omega
  rw [← hg]
  refine wp_named (fun w' => w'.cell? ⟨g, 0, none⟩ = some (.int .u64 a0) ∧ w'.cell? ⟨g, 1, none⟩ = some (.int .u64 a1) ∧ w'.cell? ⟨g, 2, none⟩ = some (.int .u64 mk) ∧ Ext w w') ⟨?_, ?_, ?_, (Ext.refl w).alloc (Nat.le_refl _) _⟩ ?_
  · rw [World.cell?_alloc_at _ _ _ _ (by simp [hg])]; rfl
  · rw [World.cell?_alloc_at _ _ _ _ (by simp [hg])]; rfl
  · rw [World.cell?_alloc_at _ _ _ _ (by simp [hg])]; rfl
  clear hg
  intro wa HW
  obtain ⟨q0, q1, q2, qe⟩ := HW.out
  have HK : Hid (_ ∧ _ ∧ _) := Lib.hid ⟨q0, q1, q2⟩
  clear qe
  go_region_held3 (fun w' => w'.cell? ⟨g, 0, none⟩ = some (.int .u64 a0) ∧ w'.cell? ⟨g, 1, none⟩ = some (.int .u64 a1) ∧ w'.cell? ⟨g, 2, none⟩ = some (.int .u64 mk))
    (first | exact keep3h e1.out HK.out | exact keep3h (below_drewN (Ext.refl _) 1) HK.out)
    ((go_at_call 69; refine (HC.out _).mono ?_; rintro e x1 ⟨rfl, f1⟩; have e1 : Hid (Ext wa x1) := Lib.hid (Ext.trans (below_drewN (Ext.refl _) 1) f1); clear f1))
  repeat' (first | go_skip | go_guarded | go_step)
  go_ret
  exact ⟨by rw [show Hs.hash ⟨a0, a1, mk⟩ s = x &&& mk by rw [HX.out]; rfl]; rfl, HW.out.2.2.2.trans e1.out⟩
end Go.Proofs.YtclcgelbcbnekaaDoor
/- A tree in memory: the program's nodes (RN), the document's (DN). -/
namespace Go.QS
open Go.RowKit Go.QS.Nk
variable [Zero (Nat → Prop)]
set_option linter.unusedSectionVars false
/-- A chunk and a chunk of the tree. -/
def SlR {α β : Type} (R : α → β → Prop) (s : Slot α) (s' : Slot β) : Prop :=
  match s, s' with
  | .no, .no => True
  | .pr p, .pr q => p = q
  | .kid k, .kid t => R k t
  | _, _ => False
theorem slots_rel {α β : Type} {R : α → β → Prop} : ∀ (a : List (Slot α)) (b : List (Slot β)), a.length = b.length → (∀ (i : Nat) s s', a[i]? = some s → b[i]? = some s' → SlR R s s') →
    dataOf a = dataOf b ∧ nodesOf a = nodesOf b ∧ prsOf a = prsOf b ∧ (kdsOf a).length = (kdsOf b).length ∧ ∀ (j : Nat) k t, (kdsOf a)[j]? = some k → (kdsOf b)[j]? = some t → R k t
  | [], [], _, _ => ⟨rfl, rfl, rfl, rfl, fun j k t h => by simp [kdsOf] at h⟩
  | [], _ :: _, h, _ => by simp at h
  | _ :: _, [], h, _ => by simp at h
  | s :: a, s' :: b, h, hs => by
    obtain ⟨i1, i2, i3, i4, i5⟩ := slots_rel a b (by simpa using h) (fun i x y hx hy => hs (i + 1) x y hx hy)
    have h0 := hs 0 s s' rfl rfl
    simp only [dataOf, nodesOf] at i1 i2 ⊢
    match s, s', h0 with
    | .no, .no, _ => exact ⟨by simp [bitsOf, i1], by simp [bitsOf, i2], i3, i4, i5⟩
    | .pr p, .pr q, h0 =>
      have e : p = q := h0
      subst e
      exact ⟨by simp [bitsOf, i1], by simp [bitsOf, i2], by rw [prsOf_pr, prsOf_pr, i3], i4, i5⟩
    | .kid k, .kid t, h0 =>
      refine ⟨by simp [bitsOf, i1], by simp [bitsOf, i2], i3, by rw [kdsOf_kid, kdsOf_kid]; simp [i4], fun j k' t' a b => ?_⟩
      match j with
      | 0 => rw [kdsOf_kid] at a b; simp at a b; subst a b; exact h0
      | j + 1 => exact i5 j k' t' (by simpa [kdsOf_kid] using a) (by simpa [kdsOf_kid] using b)
/-- What a chunk's place says of the tree. -/
def SlT (is : Nat → Nat) (p : Nat → Pr) (R : Nat → Nat → Prop) (c : Nat) (s : Slot Nat) : Prop :=
  match s with
  | .no => is c ≠ 1 ∧ is c ≠ 2
  | .pr q => is c = 1 ∧ p c = q
  | .kid q => is c = 2 ∧ R c q
theorem SlT.mono {is : Nat → Nat} {p : Nat → Pr} {R R' : Nat → Nat → Prop} {c : Nat} {s : Slot Nat} (h : SlT is p R c s) (hR : ∀ q, R c q → R' c q) : SlT is p R' c s := by
  cases s with
  | no => exact h
  | pr q => exact h
  | kid q => exact ⟨h.1, hR q h.2⟩
end Go.QS
namespace Go.Proofs.YtclcgelbcbnekaaDoor
open Go.RowKit Go.QS Go.QS.Nk
set_option linter.unusedVariables false
variable [Zero (Nat → Prop)]
set_option linter.unusedSectionVars false

/-- A node in memory is such a tree. -/
def RN (w : World) : NT → Nat → Prop
  | .bk l, g => Bk ND w g l
  | .inn is p k, g => ∃ sl : List (Slot Nat), In ND w g sl ∧ ∀ c s, sl[c]? = some s → SlT is p (fun c q => RN w (k c) q) c s
theorem RN.ext {w w' : World} (f : Ext w w') : ∀ {t : NT} {g : Nat}, RN w t g → RN w' t g
  | .bk l, g, h => Bk.ext h f
  | .inn is p k, g, ⟨sl, h1, h2⟩ => ⟨sl, h1.ext f, fun c s hs => (h2 c s hs).mono fun q hq => RN.ext f hq⟩
theorem TR.rn {H : List UInt8 → Nat} {w : World} : ∀ (f : Nat) {g : Nat} {l : List Pr}, TR ND H w f g l → RN w (trT H f l) g
  | 0, g, l, h => h
  | f + 1, g, l, ⟨sl, h1, h2⟩ => by
    refine ⟨sl, h1, fun c s hs => ?_⟩
    have h0 := h2 c s hs
    cases s with
    | no =>
      have e : Go.QS.part H (12 - f) c l = [] := h0
      show min 2 (Go.QS.part H (12 - f) c l).length ≠ 1 ∧ min 2 (Go.QS.part H (12 - f) c l).length ≠ 2
      rw [e]; decide
    | pr p =>
      have e : Go.QS.part H (12 - f) c l = [p] := h0
      show min 2 (Go.QS.part H (12 - f) c l).length = 1 ∧ (Go.QS.part H (12 - f) c l).headD ([], []) = p
      rw [e]; exact ⟨rfl, rfl⟩
    | kid q =>
      have e : 2 ≤ (Go.QS.part H (12 - f) c l).length ∧ TR ND H w f q (Go.QS.part H (12 - f) c l) := h0
      exact ⟨min_two.2.2 e.1, TR.rn f e.2⟩
/-- Few pairs in each bucket. -/
def NFew : NT → Prop
  | .bk l => l.length ≤ 100000
  | .inn is p k => ∀ c, c < 32 → is c = 2 → NFew (k c)
theorem SlT.rel {w : World} {is : Nat → Nat} {p : Nat → Pr} {k : Nat → NT} {sl : List (Slot Nat)} (h32 : sl.length = 32) (h : ∀ c s, sl[c]? = some s → SlT is p (fun c q => RN w (k c) q) c s) :
    ∀ (i : Nat) s s', sl[i]? = some s → (slsN is p k)[i]? = some s' → SlR (fun g t => RN w t g ∧ ∃ c, c < 32 ∧ is c = 2 ∧ t = k c) s s' := by
  intro i s s' hs hs'
  have hi : i < 32 := by have := (List.getElem?_eq_some_iff.1 hs).1; omega
  rw [slsN_get is p k hi] at hs'
  cases hs'
  have h0 := h i s hs
  cases s with
  | no => rw [slN_no h0.1 h0.2]; trivial
  | pr q => rw [slN_pr h0.1]; exact h0.2.symm
  | kid q => rw [slN_kid h0.1]; exact ⟨h0.2, i, hi, h0.1, rfl⟩
theorem RN.sh {w : World} : ∀ (f : Nat) {t : NT} {g : Nat}, RN w t g → NFew t → ShAt w f g (lookN t f)
  | 0, .bk l, g, ⟨ow, pv, kv, nd⟩, h9 => .inl ⟨l, ow, pv, kv, nd, h9, rfl⟩
  | f + 1, .bk l, g, ⟨ow, pv, kv, nd⟩, h9 => .inl ⟨l, ow, pv, kv, nd, h9, rfl⟩
  | 0, .inn is p k, g, ⟨sl, hN, hs⟩, h9 => by
    obtain ⟨h32, ow, pv, kv, nd⟩ := hN
    obtain ⟨e1, e2, e3, e4, e5⟩ := slots_rel sl (slsN is p k) (by rw [h32, slsN_length]) (SlT.rel h32 hs)
    have := prsOf_len sl
    have := kdsOf_len sl
    refine .inr ⟨dataOf sl, nodesOf sl, prsOf sl, kdsOf sl, ow, pv, kv, nd, bits32 Slot.isP h32, bits32 Slot.isK h32, by omega, by omega, ?_⟩
    show headB _ _ _ ++ [] = _
    rw [List.append_nil, e1, e2, e3]
  | f + 1, .inn is p k, g, ⟨sl, hN, hs⟩, h9 => by
    obtain ⟨h32, ow, pv, kv, nd⟩ := hN
    obtain ⟨e1, e2, e3, e4, e5⟩ := slots_rel sl (slsN is p k) (by rw [h32, slsN_length]) (SlT.rel h32 hs)
    have := prsOf_len sl
    have := kdsOf_len sl
    refine .inr ⟨dataOf sl, nodesOf sl, prsOf sl, kdsOf sl, ow, pv, kv, (kdsOf (slsN is p k)).map fun t => lookN t f, nd, bits32 Slot.isP h32, bits32 Slot.isK h32, by omega, by omega, by rw [List.length_map, e4], fun i g' b hg hb => ?_, ?_⟩
    · rw [List.getElem?_map] at hb
      obtain ⟨t, ht, rfl⟩ := Option.map_eq_some_iff.1 hb
      obtain ⟨h1, c, hc, i2, rfl⟩ := e5 i g' t hg ht
      exact RN.sh f h1 (h9 c hc i2)
    · rw [lookN_succ, e1, e2, e3, List.flatMap_def]
theorem NFew_trT (H : List UInt8 → Nat) : ∀ (f : Nat) {l : List Pr}, l.length ≤ 100000 → NFew (trT H f l)
  | 0, l, h => h
  | f + 1, l, h => fun c _ _ => NFew_trT H f (Nat.le_trans part_length h)

/-- A chunk of the document's node. -/
def DE (R : Nat → Prop) (A : Array Value) (c i : Nat) (p : Pr) : Prop :=
  A[2 + c]? = some (.int .i64 (i : Int)) ∧ (i = 1 → A[34 + c * 2]? = some (str p.1) ∧ A[34 + c * 2 + 1]? = some (str p.2)) ∧ (i = 2 → ∃ q, A[98 + c]? = some (ptr q) ∧ R q)
theorem DE.mono {R R' : Nat → Prop} {A : Array Value} {c i : Nat} {p : Pr} (h : DE R A c i p) (hR : ∀ q, R q → R' q) : DE R' A c i p :=
  ⟨h.1, h.2.1, fun e => by obtain ⟨q, h1, h2⟩ := h.2.2 e; exact ⟨q, h1, hR q h2⟩⟩
/-- The document's node in memory is such a tree. -/
def DN (w : World) : NT → Nat → Prop
  | .bk l, q => ∃ A v, w.heap[q]? = some (.cells A TTY (0, 0)) ∧ A[0]? = some (.bool true) ∧ A[1]? = some v ∧ PS w v l ∧ ∀ c, c < 32 → A[2 + c]? = some (.int .i64 0)
  | .inn is p k, q => ∃ A, w.heap[q]? = some (.cells A TTY (0, 0)) ∧ A[0]? = some (.bool false) ∧ A[1]? = some (.slice none 0 0) ∧ ∀ c, c < 32 → DE (fun q' => DN w (k c) q') A c (is c) (p c)
theorem DN.ext {w w' : World} (f : Ext w w') : ∀ {t : NT} {q : Nat}, DN w t q → DN w' t q
  | .bk l, q, ⟨A, v, h1, h2, h3, h4, h5⟩ => ⟨A, v, (f.block q (heap_lt h1)).trans h1, h2, h3, h4.below f, h5⟩
  | .inn is p k, q, ⟨A, h1, h2, h3, h4⟩ => ⟨A, (f.block q (heap_lt h1)).trans h1, h2, h3, fun c hc => (h4 c hc).mono fun q' hq => DN.ext f hq⟩
theorem DR.dn {H : List UInt8 → Nat} {w : World} : ∀ (f : Nat) {q : Nat} {l : List Pr}, DR H w f q l → DN w (trT H f l) q
  | 0, q, l, h => h
  | f + 1, q, l, ⟨A, h1, h2, h3, h4⟩ => by
    refine ⟨A, h1, h2, h4, fun c hc => ?_⟩
    have e34 : 34 + c * 2 = 34 + 2 * c := by omega
    have e35 : 34 + 2 * c + 1 = 35 + 2 * c := by omega
    rcases h3 c hc with ⟨e, a1⟩ | ⟨p, e, a1, a2, a3⟩ | ⟨h9, q', a1, a2, hR⟩
    · show DE _ A c (min 2 (Go.QS.part H (12 - f) c l).length) _
      rw [e]
      exact ⟨a1, fun e => by simp at e, fun e => by simp at e⟩
    · show DE _ A c (min 2 (Go.QS.part H (12 - f) c l).length) ((Go.QS.part H (12 - f) c l).headD ([], []))
      rw [e]
      refine ⟨a1, fun _ => ?_, fun e => by simp at e⟩
      rw [e34, e35]
      exact ⟨a2, a3⟩
    · have e : min 2 (Go.QS.part H (12 - f) c l).length = 2 := min_two.2.2 h9
      show DE _ A c (min 2 (Go.QS.part H (12 - f) c l).length) _
      rw [e]
      exact ⟨a1, fun e => by simp at e, fun _ => ⟨q', a2, DR.dn f hR⟩⟩
/-- A chunk, its kid told by its look. -/
def slG (g : NT → List UInt8) : Slot NT → Slot (List UInt8)
  | .no => .no
  | .pr p => .pr p
  | .kid t => .kid (g t)
theorem slG_all (g : NT → List UInt8) : ∀ a : List (Slot NT), dataOf (a.map (slG g)) = dataOf a ∧ nodesOf (a.map (slG g)) = nodesOf a ∧ prsOf (a.map (slG g)) = prsOf a ∧ (kdsOf (a.map (slG g))).flatten = (kdsOf a).flatMap g
  | [] => ⟨rfl, rfl, rfl, rfl⟩
  | s :: a => by
    obtain ⟨i1, i2, i3, i4⟩ := slG_all g a
    simp only [dataOf, nodesOf] at i1 i2 ⊢
    rw [List.map_cons]
    cases s with
    | no => exact ⟨by simp [bitsOf, slG, i1], by simp [bitsOf, slG, i2], i3, i4⟩
    | pr p => exact ⟨by simp [bitsOf, slG, i1], by simp [bitsOf, slG, i2], by show prsOf (.pr p :: _) = _; rw [prsOf_pr, prsOf_pr, i3], i4⟩
    | kid t =>
      refine ⟨by simp [bitsOf, slG, i1], by simp [bitsOf, slG, i2], i3, ?_⟩
      show (kdsOf (.kid (g t) :: _)).flatten = _
      rw [kdsOf_kid, kdsOf_kid, List.flatten_cons, List.flatMap_cons, i4]
theorem DN.ent {w : World} {is : Nat → Nat} {p : Nat → Pr} {k : Nat → NT} {A : Array Value} (h : ∀ c, c < 32 → DE (fun q' => DN w (k c) q') A c (is c) (p c)) (g : NT → List UInt8) :
    ∀ c s, ((slsN is p k).map (slG g))[c]? = some s → DEnt (fun q b => ∃ c, c < 32 ∧ is c = 2 ∧ DN w (k c) q ∧ b = g (k c)) A c s := by
  intro c s hs
  have hc : c < 32 := by have := (List.getElem?_eq_some_iff.1 hs).1; rw [List.length_map, slsN_length] at this; exact this
  rw [List.getElem?_map, slsN_get is p k hc] at hs
  simp only [Option.map_some, Option.some.injEq] at hs
  subst hs
  obtain ⟨h1, h2, h3⟩ := h c hc
  by_cases i1 : is c = 1
  · rw [slN_pr i1]
    rw [i1] at h1
    exact ⟨h1, h2 i1⟩
  · by_cases i2 : is c = 2
    · rw [slN_kid i2]
      rw [i2] at h1
      obtain ⟨q, q1, q2⟩ := h3 i2
      exact ⟨h1, q, q1, c, hc, i2, q2, rfl⟩
    · rw [slN_no i1 i2]
      exact ⟨is c, h1, i1, i2⟩
end Go.Proofs.YtclcgelbcbnekaaDoor
