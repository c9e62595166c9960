/- Contract: law 6's like at any node. -/
import Derived.Test.YtclcgelbcbnekaaFj
set_option linter.unusedVariables false
set_option linter.unusedSimpArgs false
namespace Go.Proofs.Ytclcgelbcbnekaa
open Go.RowKit Go.QS Go.QS.Nk
set_option linter.unusedVariables false
variable [Zero (Nat → Prop)]
set_option linter.unusedSectionVars false

set_option maxRecDepth 100000 in
set_option maxHeartbeats 4000000 in
theorem like_succ (H : List UInt8 → Nat) (f : Nat) (ih : LikeOk H f) : LikeOk H (f + 1) := by
  intro w g q l hT hD h9
  obtain ⟨sl, hN, hS⟩ := hT
  obtain ⟨A, hq, a0, hE, _⟩ := hD
  have c4 := isn_cell hN
  have IH := Lib.hid ih
  have HN := Lib.hid (And.intro hN (And.intro hS c4))
  have HQ := Lib.hid (And.intro hq (And.intro a0 hE))
  have hz := cell_at hq a0
  have HZ := Lib.hid hz
  clear ih hN hS hq a0 hE c4
  go_enter Try.func99, Try.ntmps99
  repeat' (go_not_at_region 1; (first | go_skip | go_guarded | go_step))
  go_region_held3 (fun w' => w'.cell? ⟨q, 0, none⟩ = some (.bool false))
    (first | exact keep1c k2.out HZ.out | exact keep1c (below_drewN (Ext.refl _) 1) HZ.out)
    (first
      | (go_at_call 58; refine (isb_c _ g false (keep1c (below_drewN (Ext.refl w) 1) HN.out.2.2)).mono ?_; rintro e x2 ⟨rfl, f2⟩; have k2 : Hid (Ext w x2) := Lib.hid (Ext.trans (below_drewN (Ext.refl _) 1) f2); clear f2))
  clear hz
  have z0 : x2.cell? ⟨q, 0, none⟩ = some (.bool false) := cell_at (blk_ext k2.out HQ.out.1) HQ.out.2.1
  repeat' (go_not_at_region 15; (first | go_skip | go_guarded | go_step))
  clear z0
  go_loopg [55] 32 (fun gk v55 wr => ∃ c : Nat, v55 = .int .i64 c ∧ c ≤ 32 ∧ 32 - c ≤ gk ∧ Hid (Ext w wr))
  case atStart => exact ⟨0, rfl, Nat.zero_le _, by omega, k2⟩
  case round =>
    obtain ⟨c, rfl, hc, hgk, HI⟩ := hrel
    rcases Nat.lt_or_ge c 32 with hlt | hge
    · have d1 : decide (c < 32) = true := by simp [hlt]
      have hc1 : (c : Int) < 32 := by omega
      have hc0 : (0 : Int) ≤ (c : Int) := by omega
      obtain ⟨s, hs, hok⟩ := TR.get HN.out.1 HN.out.2.1 hlt
      have hent := HQ.out.2.2 c hlt
      obtain ⟨x, hx⟩ : ∃ x, x = Go.QS.part H (12 - f) c l := ⟨_, rfl⟩
      have hx9 : x.length ≤ 100000 := by rw [hx]; exact Nat.le_trans part_length h9
      rw [← hx] at hok hent
      clear hx
      have hpk : ∀ W, Ext w W → Calls Try.prog 21 #[ptr g, .int .i64 c] W fun e w' => e = .returned (pairV s) ∧ Ext W w' := fun W f => pair_any W g c sl s (HN.out.1.ext f) hs
      have hkk : ∀ W, Ext w W → Calls Try.prog 61 #[ptr g, .int .i64 c] W fun e w' => e = .returned (kidV s) ∧ Ext W w' := fun W f => kid_any W g c sl s (HN.out.1.ext f) hs
      have HPK := Lib.hid (And.intro hpk hkk)
      clear hpk hkk hs
      repeat' (first | go_at_call 21 | go_skip | go_guarded | go_step)
      refine (HPK.out.1 wr HI.out).mono ?_
      rintro e w1 ⟨rfl, f1⟩
      have H1 := Lib.hid (HI.out.trans f1)
      clear f1
      rcases hent with ⟨hx0, b0⟩ | ⟨p, hxp, b0, b1, b2⟩ | ⟨hx2, q2, b0, b1, hR⟩
      · subst hx0
        have hsn : s = .no := by
          cases s with
          | no => rfl
          | pr p => cases (show [] = [p] from hok)
          | kid k => have := hok.1; simp at this
        subst hsn
        have HB := Lib.hid b0
        clear b0 hok
        simp only [pairV]
        go_simp
        repeat' (first | go_at_call 61 | go_skip | go_guarded | go_step)
        refine (HPK.out.2 _ (ext_alloc H1.out _)).mono ?_
        rintro e w2 ⟨rfl, f2⟩
        have H2 := Lib.hid ((ext_alloc H1.out _).trans f2)
        simp only [kidV]
        go_simp
        have z2 : w2.cell? ⟨q, 2 + c, none⟩ = some (.int .i64 0) := cell_at (blk_ext H2.out HQ.out.1) HB.out
        clear f2
        repeat' (go_not_at_region 19; (first | go_skip | go_guarded | go_step))
        go_quiet (fail)
        repeat' (first | go_skip | go_guarded | go_step)
        go_roundg (32 - (c + 1))
        case measure => omega
        case rel => exact ⟨c + 1, by go_num, by omega, Nat.le_refl _, Lib.hid (below_drewN H2.out _)⟩
      · subst hxp
        have hsn : s = .pr p := by
          cases s with
          | no => cases (show [p] = [] from hok)
          | pr p' => have : [p] = [p'] := hok; cases this; rfl
          | kid k => have := hok.1; simp at this
        subst hsn
        rw [show 34 + 2 * c = 34 + c * 2 by omega] at b1
        rw [show 35 + 2 * c = 34 + c * 2 + 1 by omega] at b2
        have HB := Lib.hid (And.intro b0 (And.intro b1 b2))
        clear b0 b1 b2 hok
        simp only [pairV]
        go_simp
        repeat' (first | go_at_call 61 | go_skip | go_guarded | go_step)
        obtain ⟨gb, hgb⟩ : ∃ gb, gb = w1.heap.size := ⟨_, rfl⟩
        rw [← hgb]
        refine calls_named (fun w' => w'.heap[gb]? = some (.cells #[str p.1, str p.2] NP (0, 0)) ∧ Ext w w') ⟨by rw [hgb]; exact heap_new w1 _, ext_alloc H1.out _⟩ ?_
        clear hgb
        intro wb HW
        refine (HPK.out.2 _ HW.out.2).mono ?_
        rintro e w2 ⟨rfl, f2⟩
        have H2 := Lib.hid (HW.out.2.trans f2)
        simp only [kidV]
        go_simp
        have z2 : w2.cell? ⟨q, 2 + c, none⟩ = some (.int .i64 1) := cell_at (blk_ext H2.out HQ.out.1) HB.out.1
        have z3 : w2.cell? ⟨q, 34 + c * 2, none⟩ = some (str p.1) := cell_at (blk_ext H2.out HQ.out.1) HB.out.2.1
        have z4 : w2.cell? ⟨q, 34 + c * 2 + 1, none⟩ = some (str p.2) := cell_at (blk_ext H2.out HQ.out.1) HB.out.2.2
        obtain ⟨z5, z6⟩ := key_cells ((f2.block gb (heap_lt HW.out.1)).trans HW.out.1)
        have hne : ∀ w, (binOp .neq 51 (.agg #[str p.1, str p.2]) (.agg #[str p.1, str p.2])).run Try.prog w = .ok (.bool false) w := fun w => by rw [neqR]; simp
        clear f2
        repeat' (go_not_at_region 19; (first | go_skip | go_guarded | go_step))
        go_quiet (fail)
        repeat' (first | go_skip | go_guarded | go_step)
        go_roundg (32 - (c + 1))
        case measure => omega
        case rel => exact ⟨c + 1, by go_num, by omega, Nat.le_refl _, Lib.hid (below_drewN H2.out _)⟩
      · obtain ⟨k, rfl, hTk⟩ : ∃ k, s = .kid k ∧ TR ND H w f k x := by
          cases s with
          | no => rw [show x = [] from hok] at hx2; simp at hx2
          | pr p => rw [show x = [p] from hok] at hx2; simp at hx2
          | kid k => exact ⟨k, rfl, hok.2⟩
        have HB := Lib.hid (And.intro b0 b1)
        have HC : Hid (∀ W, Ext w W → Calls Try.prog 99 #[ptr k, ptr q2] W fun e w' => e = .returned (.bool true) ∧ Ext W w') := Lib.hid (fun W fW => IH.out W k q2 x (TR.ext fW f hTk) (DR.ext fW f hR) hx9)
        clear b0 b1 hok hR hTk
        simp only [pairV]
        go_simp
        repeat' (first | go_at_call 61 | go_skip | go_guarded | go_step)
        refine (HPK.out.2 _ (ext_alloc H1.out _)).mono ?_
        rintro e w2 ⟨rfl, f2⟩
        have H2 := Lib.hid ((ext_alloc H1.out _).trans f2)
        simp only [kidV]
        go_simp
        have z2 : w2.cell? ⟨q, 2 + c, none⟩ = some (.int .i64 2) := cell_at (blk_ext H2.out HQ.out.1) HB.out.1
        have z3 : w2.cell? ⟨q, 98 + c, none⟩ = some (ptr q2) := cell_at (blk_ext H2.out HQ.out.1) HB.out.2
        have HZ2 := Lib.hid (And.intro z2 z3)
        clear f2 z2 z3
        repeat' (go_not_at_region 19; (first | go_skip | go_guarded | go_step))
        refine like_19k w2 q c k q2 hlt HZ2 (Lib.hid (fun W fW => HC.out W (H2.out.trans fW))) _ _ _ _ _ _ _ _ _ _ _ _ _ _ _ _ _ _ _ _ _ _ _ _ _ _ _ _ _ _ _ _ _ _ _ _ _ _ _ _ _ _ _ _ _ _ _ _ _ _ _ _ _ _ _ _ _ _ _ _ _ _ _ _ _ _ _ _ _ _ _ _ _ _ _ _ _ _ _ _ _ _ _ _ _ _ _ _ _ _ _ _ _ _ _ _ _ _ _ _ _ _ _ _ _ _ _ _ _ _ _ _ _ _ _ (by kernel_rfl) ?_
        intro u70 u71 u72 u73 u74 u75 u76 u77 u78 u79 u80 u81 u82 u83 u84 u85 u86 u87 u88 u89 u90 u91 u92 u93 u94 u95 u96 u97 u98 u99 u100 u101 u102 u103 u104 u105 u106 u107 u108 u109 u110 u111 u112 u113 u114 u115 x3 f3
        have k3 : Hid (Ext w2 x3) := Lib.hid f3
        clear f3
        repeat' (first | go_skip | go_guarded | go_step)
        go_roundg (32 - (c + 1))
        case measure => omega
        case rel => exact ⟨c + 1, by go_num, by omega, Nat.le_refl _, Lib.hid (H2.out.trans k3.out)⟩
    · obtain rfl : c = 32 := by omega
      repeat' (first | go_skip | go_guarded | go_step)
      go_ret
      exact ⟨rfl, HI.out⟩
theorem like_all (H : List UInt8 → Nat) : ∀ f, LikeOk H f
  | 0 => like_zero H
  | f + 1 => like_succ H f (like_all H f)
end Go.Proofs.Ytclcgelbcbnekaa
