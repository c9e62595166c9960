/- Contract: the document's hash of bytes. -/
import Derived.Test.YtclcgelbcbnekaaHr
import Derived.Test.YtclcgelbcbnekaaMa
import Derived.Deep.LoopGhost
set_option linter.unusedVariables false
set_option linter.unusedSimpArgs false
namespace Go.Proofs.Ytclcgelbcbnekaa
open Go.RowKit Go.QS
set_option linter.unusedVariables false
variable [Zero (Nat → Prop)]
set_option linter.unusedSectionVars false

def StR (w : World) (g : Nat) (v : V4) : Prop := w.heap[g]? = some (.cells #[.int .u64 v.a, .int .u64 v.b, .int .u64 v.c, .int .u64 v.d] 241 (0, 0))
theorem StR.cells {w : World} {g : Nat} {v : V4} (h : StR w g v) : w.cell? ⟨g, 0, none⟩ = some (.int .u64 v.a) ∧ w.cell? ⟨g, 1, none⟩ = some (.int .u64 v.b) ∧ w.cell? ⟨g, 2, none⟩ = some (.int .u64 v.c) ∧ w.cell? ⟨g, 3, none⟩ = some (.int .u64 v.d) ∧ ∀ j, w.frozen? ⟨g, j, none⟩ = false := by
  unfold StR at h
  simp [World.cell?, World.frozen?, h]
theorem StR.new {w : World} {g : Nat} (hg : g = w.heap.size) (a b c d : Nat) : StR (w.alloc (.cells #[.int .u64 a, .int .u64 b, .int .u64 c, .int .u64 d] 241)) g ⟨a, b, c, d⟩ := by
  subst hg; simp only [StR, World.alloc]; simp
theorem StR.ext {w w' : World} {g : Nat} {v : V4} (h : StR w g v) (f : Ext w w') : StR w' g v := (f.block g (heap_lt h)).trans h
theorem StR.set4 {w : World} {g : Nat} {v : V4} (h : StR w g v) (u : V4) : StR ((((w.setCell ⟨g, 0, none⟩ (.int .u64 u.a)).setCell ⟨g, 1, none⟩ (.int .u64 u.b)).setCell ⟨g, 2, none⟩ (.int .u64 u.c)).setCell ⟨g, 3, none⟩ (.int .u64 u.d)) g u := heap_set (heap_set (heap_set (heap_set h 0 _) 1 _) 2 _) 3 _
set_option maxRecDepth 100000 in
set_option maxHeartbeats 2000000 in
theorem rsum_c (w : World) (k0 k1 : Nat) (s : List UInt8) (h0 : k0 < 18446744073709551616) (h1 : k1 < 18446744073709551616) (hs : s.length ≤ 1000000000) :
    Calls Try.prog 167 #[.int .u64 k0, .int .u64 k1, str s] w fun e w' => e = .returned (.int .u64 (sipN k0 k1 s)) ∧ Ext w w' := by
  have hok := sip0_ok h0 h1
  have x0 : bits BinOp.xor IntKind.u64 (k0 : Int) 8317987319222330741 = (((sip0 k0 k1).a : Nat) : Int) := xor_law k0 8317987319222330741 h0 (by decide)
  have x1 : bits BinOp.xor IntKind.u64 (k1 : Int) 7237128888997146477 = (((sip0 k0 k1).b : Nat) : Int) := xor_law k1 7237128888997146477 h1 (by decide)
  have x2 : bits BinOp.xor IntKind.u64 (k0 : Int) 7816392313619706465 = (((sip0 k0 k1).c : Nat) : Int) := xor_law k0 7816392313619706465 h0 (by decide)
  have x3 : bits BinOp.xor IntKind.u64 (k1 : Int) 8387220255154660723 = (((sip0 k0 k1).d : Nat) : Int) := xor_law k1 8387220255154660723 h1 (by decide)
  obtain ⟨g, hg⟩ : ∃ g, g = w.heap.size := ⟨_, rfl⟩
  have hgw : w.heap.size ≤ g := by omega
  obtain ⟨A, hA⟩ : ∃ A, A = absorb s.length (s.length / 8) (sip0 k0 k1) s := ⟨_, rfl⟩
  have hAf : sipN k0 k1 s = fin A := by rw [hA]; rfl
  have HA := Lib.hid (And.intro hA hAf)
  have hAo : A.Ok := by rw [hA]; exact absorb_ok _ _ hok rfl
  clear hA hAf
  go_enter Try.func167, Try.ntmps167
  repeat' (go_not_at_region 3; (first | go_skip | go_guarded | go_step))
  rw [← hg]
  refine wp_named (fun w' => StR w' g (sip0 k0 k1) ∧ Ext w w') ⟨StR.new hg _ _ _ _, (Ext.refl w).alloc (Nat.le_refl _) _⟩ ?_
  clear x0 x1 x2 x3 hg
  intro wa HW
  go_loopg [8] (s.length + 9) (fun gk v8 wr => ∃ (p : Nat) (u : V4), v8 = .int .i64 p ∧ p ≤ s.length + 8 ∧ s.length + 9 - p ≤ gk ∧ u.Ok ∧ Hid ((p ≤ s.length → absorb s.length ((s.length - p) / 8) u (s.drop p) = A) ∧ (s.length < p → u = A) ∧ StR wr g u ∧ Ext w wr))
  case atStart => exact ⟨0, sip0 k0 k1, rfl, Nat.zero_le _, by omega, hok, Lib.hid ⟨fun _ => HA.out.1.symm, fun h => by omega, HW.out.1, HW.out.2⟩⟩
  case round =>
    obtain ⟨p, u, rfl, hp9, hgk, hu, HI⟩ := hrel
    rcases Nat.lt_or_ge s.length p with hlt | hge
    · have d1 : decide (p ≤ s.length) = false := by simp; omega
      have e := HI.out.2.1 hlt
      subst e
      obtain ⟨A0, A1, A2, A3⟩ := u
      obtain ⟨l0, l1, l2, l3⟩ := hAo
      simp only at l0 l1 l2 l3
      obtain ⟨q0, q1, q2, q3, qf⟩ := HI.out.2.2.1.cells
      simp only at q0 q1 q2 q3
      have x5 : bits BinOp.xor IntKind.u64 (A2 : Int) 255 = ((A2 ^^^ 255 : Nat) : Int) := xor_law A2 255 l2 (by decide)
      have l5 : A2 ^^^ 255 < 18446744073709551616 := xor_lt l2 (by decide)
      obtain ⟨B2, hB2⟩ : ∃ B, B = A2 ^^^ 255 := ⟨_, rfl⟩
      rw [← hB2] at x5 l5
      have hok4 := rnds_ok 4 (v := ⟨A0, A1, B2, A3⟩) ⟨l0, l1, l5, l3⟩
      have hfin : fin ⟨A0, A1, A2, A3⟩ = (rnds 4 ⟨A0, A1, B2, A3⟩).a ^^^ (rnds 4 ⟨A0, A1, B2, A3⟩).b ^^^ (rnds 4 ⟨A0, A1, B2, A3⟩).c ^^^ (rnds 4 ⟨A0, A1, B2, A3⟩).d := by rw [hB2]; rfl
      have hres := HA.out.2.trans hfin
      have R1 := Lib.hid (fun W => rround_c W ⟨A0, A1, B2, A3⟩ ⟨l0, l1, l5, l3⟩)
      have R2 := Lib.hid (fun W => rround_c W (rnd ⟨A0, A1, B2, A3⟩) (rnds_ok 1 (v := ⟨A0, A1, B2, A3⟩) ⟨l0, l1, l5, l3⟩))
      have R3 := Lib.hid (fun W => rround_c W (rnd (rnd ⟨A0, A1, B2, A3⟩)) (rnds_ok 2 (v := ⟨A0, A1, B2, A3⟩) ⟨l0, l1, l5, l3⟩))
      have R4 := Lib.hid (fun W => rround_c W (rnd (rnd (rnd ⟨A0, A1, B2, A3⟩))) (rnds_ok 3 (v := ⟨A0, A1, B2, A3⟩) ⟨l0, l1, l5, l3⟩))
      have eU : rnd (rnd (rnd (rnd ⟨A0, A1, B2, A3⟩))) = rnds 4 ⟨A0, A1, B2, A3⟩ := rfl
      rw [eU] at R4
      obtain ⟨U, hU⟩ : ∃ U, U = rnds 4 ⟨A0, A1, B2, A3⟩ := ⟨_, rfl⟩
      rw [← hU] at hok4 hres R4
      obtain ⟨v1, hv1⟩ : ∃ v1, v1 = rnd ⟨A0, A1, B2, A3⟩ := ⟨_, rfl⟩
      rw [← hv1] at R1 R2 R3 R4
      obtain ⟨v2, hv2⟩ : ∃ v2, v2 = rnd v1 := ⟨_, rfl⟩
      rw [← hv2] at R2 R3 R4
      obtain ⟨v3, hv3⟩ : ∃ v3, v3 = rnd v2 := ⟨_, rfl⟩
      rw [← hv3] at R3 R4
      have HV := Lib.hid hres
      clear hB2 hfin hres eU hU hv1 hv2 hv3
      repeat' (go_not_at_region 18; (first | go_skip | go_guarded | go_step))
      refine wp_named (fun w' => StR w' g ⟨A0, A1, B2, A3⟩ ∧ Ext w w') ⟨heap_set HI.out.2.2.1 2 (.int .u64 (B2 : Int)), HI.out.2.2.2.setCell hgw _⟩ ?_
      clear q0 q1 q2 q3 qf x5
      intro wb HB
      obtain ⟨q0, q1, q2, q3, qf⟩ := HB.out.1.cells
      simp only at q0 q1 q2 q3
      repeat' (first | go_at_call 179 | go_skip | go_guarded | go_step)
      refine (R1.out _).mono ?_
      rintro e w1 ⟨rfl, f1⟩
      have E1 : Hid (Ext wb w1) := Lib.hid f1
      clear f1
      go_simp
      repeat' (first | go_at_call 179 | go_skip | go_guarded | go_step)
      refine (R2.out _).mono ?_
      rintro e w2 ⟨rfl, f2⟩
      have E2 : Hid (Ext wb w2) := Lib.hid (E1.out.trans f2)
      clear f2
      go_simp
      repeat' (first | go_at_call 179 | go_skip | go_guarded | go_step)
      refine (R3.out _).mono ?_
      rintro e w3 ⟨rfl, f3⟩
      have E3 : Hid (Ext wb w3) := Lib.hid (E2.out.trans f3)
      clear f3
      go_simp
      repeat' (first | go_at_call 179 | go_skip | go_guarded | go_step)
      refine (R4.out _).mono ?_
      rintro e w4 ⟨rfl, f4⟩
      have E4 : Hid (Ext wb w4) := Lib.hid (E3.out.trans f4)
      clear f4 q0 q1 q2 q3 qf
      obtain ⟨U0, U1, U2, U3⟩ := U
      obtain ⟨m0, m1, m2, m3⟩ := hok4
      simp only at m0 m1 m2 m3 HV
      have S4 := Lib.hid (HB.out.1.ext E4.out)
      obtain ⟨q0, q1, q2, q3, qf⟩ := S4.out.cells
      simp only at q0 q1 q2 q3
      go_simp
      repeat' (go_not_at_region 19; (first | go_skip | go_guarded | go_step))
      refine wp_named (fun w' => StR w' g ⟨U0, U1, U2, U3⟩ ∧ Ext w w') ⟨S4.out.set4 ⟨U0, U1, U2, U3⟩, ((((HB.out.2.trans E4.out).setCell hgw _).setCell hgw _).setCell hgw _).setCell hgw _⟩ ?_
      clear q0 q1 q2 q3 qf
      intro wd HD
      obtain ⟨q0, q1, q2, q3, qf⟩ := HD.out.1.cells
      simp only at q0 q1 q2 q3
      have y1 := xor_law U0 U1 m0 m1
      have y2 := xor_law _ U2 (xor_lt m0 m1) m2
      have y3 := xor_law _ U3 (xor_lt (xor_lt m0 m1) m2) m3
      repeat' (first | go_skip | go_guarded | go_step)
      go_ret
      exact ⟨by rw [HV.out]; rfl, HD.out.2⟩
    · have d1 : decide (p ≤ s.length) = true := by simp; omega
      repeat' (go_not_at_region 7; (first | go_skip | go_guarded | go_step))
      go_loopg [9, 10] 9 (fun gk v9 v10 wx => ∃ (j m : Nat), v10 = .int .i64 ((j : Int) - 1) ∧ v9 = .int .u64 m ∧ j ≤ 8 ∧ j ≤ gk ∧ Hid (m = leN ((s.drop (p + j)).take (8 - j))) ∧ wx = wr)
      case atStart => exact ⟨8, 0, rfl, rfl, Nat.le_refl _, by omega, Lib.hid (by simp [leN]), rfl⟩
      case round =>
        obtain ⟨j, m, rfl, rfl, hj8, hjk, HM, rfl⟩ := hrel
        have hm8 : m < 256 ^ (8 - j) := by
          rw [HM.out]
          refine Nat.lt_of_lt_of_le (leN_lt _) (Nat.pow_le_pow_right (by decide) ?_)
          simp; omega
        obtain rfl | ⟨q, rfl⟩ : j = 0 ∨ ∃ q, j = q + 1 := by cases j with | zero => exact .inl rfl | succ q => exact .inr ⟨q, rfl⟩
        · have hj0 : (((0 : Nat) : Int) - 1) = -1 := rfl
          rw [hj0]
          have hM : m = leN ((s.drop p).take 8) := HM.out
          have hml : m < 18446744073709551616 := by
            have h2 : (256 : Nat) ^ 8 = 18446744073709551616 := by decide
            omega
          obtain ⟨e, he⟩ : ∃ e, e = p + 8 := ⟨_, rfl⟩
          have hp8 : ((p : Int) + 8) = (e : Int) := by omega
          have hu2 : s.length < e → tk u (m + s.length % 256 * 72057594037927936) = A := fun h => by
            have h2 := HI.out.1 hge
            rw [show (s.length - p) / 8 = 0 by omega] at h2
            rw [← h2, hM, List.take_of_length_le (by simp; omega)]
            rfl
          have hu3 : e ≤ s.length → absorb s.length ((s.length - e) / 8) (tk u m) (s.drop e) = A := fun h => by
            have h2 := HI.out.1 hge
            rw [show (s.length - p) / 8 = (s.length - e) / 8 + 1 by omega] at h2
            rw [← h2, hM, he, ← List.drop_drop]
            rfl
          have hm7 : s.length < e → m < 72057594037927936 := fun h => by
            rw [hM]; exact leN_lt7 (by simp; omega)
          have HM2 := Lib.hid (And.intro hu2 hu3)
          have HE := Lib.hid he
          clear hM HM hm8 hj8 hjk he hu2 hu3
          repeat' (go_not_at_if 50; (first | go_skip | go_guarded | go_step))
          go_cut [9] (fun v9 wy => Hid (∃ m' : Nat, v9 = .int .u64 m' ∧ m' < 18446744073709551616 ∧ (s.length < e → tk u m' = A) ∧ (e ≤ s.length → absorb s.length ((s.length - e) / 8) (tk u m') (s.drop e) = A) ∧ wy = wr))
          case first =>
            rcases Nat.lt_or_ge s.length e with hlt | hge2
            · have d2 : decide (s.length < e) = true := by simp [hlt]
              have d3 : ((s.length : Int) < (e : Int)) := by omega
              have hm7' := hm7 hlt
              repeat' (first | go_skip | go_guarded | go_step)
              go_meet
              exact Lib.hid ⟨m + s.length % 256 * 72057594037927936, by go_num, by omega, fun _ => HM2.out.1 hlt, fun h => by omega, rfl⟩
            · have d2 : decide (s.length < e) = false := by simp; omega
              have d3 : ¬ ((s.length : Int) < (e : Int)) := by omega
              repeat' (first | go_skip | go_guarded | go_step)
              go_meet
              exact Lib.hid ⟨m, rfl, hml, fun h => by omega, HM2.out.2, rfl⟩
          case rest =>
          obtain ⟨m', rfl, hm', ht1, ht2, rfl⟩ := hcut.out
          have HT := Lib.hid (And.intro ht1 ht2)
          clear ht1 ht2 hcut hm7 hml
          obtain ⟨a0, b0, c0, d0⟩ := u
          obtain ⟨la0, lb0, lc0, ld0⟩ := hu
          simp only at la0 lb0 lc0 ld0
          obtain ⟨q0, q1, q2, q3, qf⟩ := HI.out.2.2.1.cells
          simp only at q0 q1 q2 q3
          have x5 : bits BinOp.xor IntKind.u64 (d0 : Int) (m' : Int) = ((d0 ^^^ m' : Nat) : Int) := xor_law d0 m' ld0 hm'
          obtain ⟨D, hD⟩ : ∃ D, D = d0 ^^^ m' := ⟨_, rfl⟩
          have lD : D < 18446744073709551616 := by rw [hD]; exact xor_lt ld0 hm'
          rw [← hD] at x5
          have hok2 := rnds_ok 2 (v := ⟨a0, b0, c0, D⟩) ⟨la0, lb0, lc0, lD⟩
          have R1 := Lib.hid (fun W => rround_c W ⟨a0, b0, c0, D⟩ ⟨la0, lb0, lc0, lD⟩)
          have R2 := Lib.hid (fun W => rround_c W (rnd ⟨a0, b0, c0, D⟩) (rnds_ok 1 (v := ⟨a0, b0, c0, D⟩) ⟨la0, lb0, lc0, lD⟩))
          have eU : rnd (rnd ⟨a0, b0, c0, D⟩) = rnds 2 ⟨a0, b0, c0, D⟩ := rfl
          rw [eU] at R2
          have hres : tk ⟨a0, b0, c0, d0⟩ m' = xa (rnds 2 ⟨a0, b0, c0, D⟩) m' := by rw [hD]; rfl
          obtain ⟨U, hU⟩ : ∃ U, U = rnds 2 ⟨a0, b0, c0, D⟩ := ⟨_, rfl⟩
          rw [← hU] at hok2 R2 hres
          obtain ⟨v1, hv1⟩ : ∃ v1, v1 = rnd ⟨a0, b0, c0, D⟩ := ⟨_, rfl⟩
          rw [← hv1] at R1 R2
          have HV := Lib.hid hres
          clear hD hres eU hU hv1
          repeat' (go_not_at_region 15; (first | go_skip | go_guarded | go_step))
          refine wp_named (fun w' => StR w' g ⟨a0, b0, c0, D⟩ ∧ Ext w w') ⟨heap_set HI.out.2.2.1 3 (.int .u64 (D : Int)), HI.out.2.2.2.setCell hgw _⟩ ?_
          clear q0 q1 q2 q3 qf x5
          intro wb HB
          obtain ⟨q0, q1, q2, q3, qf⟩ := HB.out.1.cells
          simp only at q0 q1 q2 q3
          repeat' (first | go_at_call 179 | go_skip | go_guarded | go_step)
          refine (R1.out _).mono ?_
          rintro e1 w1 ⟨rfl, f1⟩
          have E1 : Hid (Ext wb w1) := Lib.hid f1
          clear f1
          go_simp
          repeat' (first | go_at_call 179 | go_skip | go_guarded | go_step)
          refine (R2.out _).mono ?_
          rintro e2 w2 ⟨rfl, f2⟩
          have E2 : Hid (Ext wb w2) := Lib.hid (E1.out.trans f2)
          clear f2 q0 q1 q2 q3 qf
          obtain ⟨U0, U1, U2, U3⟩ := U
          obtain ⟨n0, n1, n2, n3⟩ := hok2
          simp only at n0 n1 n2 n3
          have S4 := Lib.hid (HB.out.1.ext E2.out)
          obtain ⟨q0, q1, q2, q3, qf⟩ := S4.out.cells
          simp only at q0 q1 q2 q3
          go_simp
          repeat' (go_not_at_region 16; (first | go_skip | go_guarded | go_step))
          refine wp_named (fun w' => StR w' g ⟨U0, U1, U2, U3⟩ ∧ Ext w w') ⟨S4.out.set4 ⟨U0, U1, U2, U3⟩, ((((HB.out.2.trans E2.out).setCell hgw _).setCell hgw _).setCell hgw _).setCell hgw _⟩ ?_
          clear q0 q1 q2 q3 qf
          intro wd HD
          obtain ⟨q0, q1, q2, q3, qf⟩ := HD.out.1.cells
          simp only at q0 q1 q2 q3
          have x6 : bits BinOp.xor IntKind.u64 (U0 : Int) (m' : Int) = ((U0 ^^^ m' : Nat) : Int) := xor_law U0 m' n0 hm'
          have l6 : U0 ^^^ m' < 18446744073709551616 := xor_lt n0 hm'
          repeat' (first | go_skip | go_guarded | go_step)
          go_roundg (s.length + 9 - e)
          case measure => have := HE.out; omega
          case rel => exact ⟨e, ⟨U0 ^^^ m', U1, U2, U3⟩, by go_num, by have := HE.out; omega, Nat.le_refl _, ⟨l6, n1, n2, n3⟩, Lib.hid ⟨fun h => by rw [← HT.out.2 h, HV.out]; rfl, fun h => by rw [← HT.out.1 h, HV.out]; rfl, heap_set HD.out.1 0 (.int .u64 ((U0 ^^^ m' : Nat) : Int)), HD.out.2.setCell hgw _⟩⟩
        · have hjq : (((q + 1 : Nat) : Int) - 1) = (q : Int) := by omega
          rw [hjq]
          have hm7 : m * 256 < 18446744073709551616 := by
            have h1 : 256 ^ (8 - (q + 1)) ≤ 256 ^ 7 := Nat.pow_le_pow_right (by decide) (by omega)
            have h2 : (256 : Nat) ^ 7 = 72057594037927936 := by decide
            omega
          have hmI : 256 * (m : Int) = ((m * 256 : Nat) : Int) := by omega
          have hpq : ((p : Int) + (q : Int)) = ((p + q : Nat) : Int) := by omega
          have hat := leN_at s (p + q) (8 - (q + 1))
          rw [show 8 - (q + 1) + 1 = 8 - q by omega, show p + q + 1 = p + (q + 1) by omega, ← HM.out] at hat
          have hlt8 : leN ((s.drop (p + q)).take (8 - q)) < 18446744073709551616 := leN_lt8 (by simp; omega)
          obtain ⟨r, hr⟩ : ∃ r, r = p + q := ⟨_, rfl⟩
          rw [← hr] at hpq hat hlt8
          obtain ⟨M, hMM⟩ : ∃ M, M = m * 256 := ⟨_, rfl⟩
          rw [← hMM] at hmI
          have HR := Lib.hid (And.intro hr hMM)
          by_cases hq : r < s.length
          · have d2 : decide (r < s.length) = true := by simp [hq]
            obtain ⟨b, hb⟩ := get_of_lt s hq
            have hb2 : b.toNat < 256 := b.toNat_lt
            rw [hb] at hat
            simp only at hat
            have hidx := idx_str (P := Try.prog) (t := 9) Try.underlying9 hb
            have hadd : IntKind.u64.wrap ((M : Int) + (b.toNat : Int)) = ((leN ((s.drop r).take (8 - q)) : Nat) : Int) := by rw [IntKind.wrap_u64]; omega
            clear hr hMM
            repeat' (first | go_skip | go_guarded | go_step)
            go_roundg q
            case measure => omega
            case rel => exact ⟨q, leN ((s.drop r).take (8 - q)), by go_num, by go_num, by omega, Nat.le_refl _, Lib.hid (by rw [HR.out.1]), rfl⟩
          · have d2 : decide (r < s.length) = false := by simp; omega
            have hb : s[r]? = none := by simp; omega
            rw [hb] at hat
            simp only at hat
            have hMM2 : M = leN ((s.drop r).take (8 - q)) := by omega
            clear hr hMM
            repeat' (first | go_skip | go_guarded | go_step)
            go_roundg q
            case measure => omega
            case rel => exact ⟨q, M, by go_num, by go_num, by omega, Nat.le_refl _, Lib.hid (by rw [hMM2, HR.out.1]), rfl⟩
end Go.Proofs.Ytclcgelbcbnekaa
