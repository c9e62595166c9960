/- ShapeTries: its walk. -/
import Derived.Test.YtajodnldhnehcaaDoorM35
import Derived.Test.YtajodnldhnehcaaDoorM34
import Derived.Deep.RegionHeld3
set_option linter.unusedVariables false
set_option linter.unusedSimpArgs false
namespace Go.Proofs.YtajodnldhnehcaaDoor
open Go Go.RowKit Go.QS Go.QS.Nk
set_option linter.unusedVariables false

set_option maxRecDepth 100000 in
set_option maxHeartbeats 4000000 in
theorem shapeTries_c (w : World) (h : Hs) (hk : h.Ok) (v1 v2 : Value) (l m : List Pr) (hP1 : PS w v1 l) (hP2 : PS w v2 m) (hT : Tab32 w) :
    Calls Tryd.prog 5 #[hsV h, v1, v2] w fun e w' => e = .returned (.bool true) ∧ Ext w w' := by
  have HP := Lib.hid (And.intro hP1 (And.intro hP2 hT))
  clear hP1 hP2 hT
  go_enter Tryd.func5, Tryd.ntmps5
  repeat' (go_not_at_region 1; (first | go_skip | go_guarded | go_step))
  obtain ⟨gh, hgh⟩ : ∃ g, g = w.heap.size := ⟨_, rfl⟩
  rw [← hgh]
  refine wp_nameS (fun w' => HsAt w' gh h ∧ Ext w w') ⟨by rw [hgh]; exact heap_newG w _, (Ext.refl w).alloc (Nat.le_refl _) _⟩ ?_
  clear hgh
  intro wa HW
  repeat' (first | go_at_call 8 | go_skip | go_guarded | go_step)
  refine (awake07_c wa).mono ?_
  rintro e w1 ⟨rfl, f1⟩
  have H1 : Hid (HsAt w1 gh h ∧ Ext w w1) := Lib.hid ⟨HW.out.1.ext f1, Ext.trans HW.out.2 f1⟩
  clear f1 HW
  obtain ⟨c0, c1, c2⟩ := H1.out.1.cells
  go_simp
  repeat' (first | go_at_call 16 | go_skip | go_guarded | go_step)
  refine (trie07_c h hk w1 v1 l (HP.out.1.below H1.out.2)).mono ?_
  rintro e w2 ⟨ga, vx, rfl, f2, t2, p2⟩
  obtain ⟨X, hX⟩ : ∃ X, X = xOf l := ⟨_, rfl⟩
  obtain ⟨hXo, hX9, hXl, hXq⟩ := xOf_sh l
  rw [← hX] at t2 p2 hXo hX9 hXl hXq
  have H2 : Hid (HsAt w2 gh h ∧ Ext w w2 ∧ TR ND h.hash w2 13 ga X ∧ PS w2 vx X) := Lib.hid ⟨H1.out.1.ext f2, Ext.trans H1.out.2 f2, t2, p2⟩
  clear f2 t2 p2 c0 c1 c2 hX H1
  obtain ⟨c0, c1, c2⟩ := H2.out.1.cells
  go_simp
  repeat' (first | go_at_call 16 | go_skip | go_guarded | go_step)
  refine (trie07_c h hk w2 v2 m (HP.out.2.1.below H2.out.2.1)).mono ?_
  rintro e w3 ⟨gb, vy, rfl, f3, t3, p3⟩
  obtain ⟨Y, hY⟩ : ∃ Y, Y = xOf m := ⟨_, rfl⟩
  obtain ⟨hYo, hY9, hYl, hYq⟩ := xOf_sh m
  rw [← hY] at t3 p3 hYo hY9 hYl hYq
  have H3 : Hid (HsAt w3 gh h ∧ Ext w w3 ∧ TR ND h.hash w3 13 ga X ∧ PS w3 vx X ∧ TR ND h.hash w3 13 gb Y ∧ PS w3 vy Y) := Lib.hid ⟨H2.out.1.ext f3, Ext.trans H2.out.2.1 f3, TR.ext f3 13 H2.out.2.2.1, H2.out.2.2.2.below f3, t3, p3⟩
  clear f3 t3 p3 c0 c1 c2 hY H2
  obtain ⟨BX, hBX⟩ : ∃ B, B = shp h.hash 13 X := ⟨_, rfl⟩
  obtain ⟨BY, hBY⟩ : ∃ B, B = shp h.hash 13 Y := ⟨_, rfl⟩
  have hBX9 : BX.length ≤ 9000 := by rw [hBX]; exact hX9 _
  have hBY9 : BY.length ≤ 9000 := by rw [hBY]; exact hY9 _
  have hX9 := hX9 h.hash
  have HLa : Hid (∀ W, Ext w3 W → LkAt W (ptr ga) BX) := Lib.hid (fun W f => by rw [hBX]; exact (TR.lk H3.out.2.2.1 hXl).ext f)
  have HLb : Hid (∀ W, Ext w3 W → LkAt W (ptr gb) BY) := Lib.hid (fun W f => by rw [hBY]; exact (TR.lk H3.out.2.2.2.2.1 hYl).ext f)
  have HOf : Hid (∀ W, Ext w3 W → Calls Tryd.prog 11 #[ptr ga] W fun e w' => ∃ v', e = .returned v' ∧ BS w' v' BX ∧ Ext W w') := Lib.hid (fun W f => ofA_c W _ BX (HLa.out W f) (by omega))
  have HO7 : Hid (∀ W q, DR h.hash W 13 q X → Calls Tryd.prog 12 #[ptr q, .int .i64 0] W fun e w' => ∃ v', e = .returned v' ∧ BS w' v' BX ∧ Ext W w') := Lib.hid (fun W q hd => by rw [hBX]; exact of7X_c _ X hX9 W q hd)
  have HSr : Hid (∀ W v v', BS W v BX → BS W v' BX → Calls Tryd.prog 10 #[v, v'] W fun e w' => e = .returned (.bool true) ∧ Ext W w') := Lib.hid (fun W v v' h1 h2 => (rsame_c W v v' BX BX h1 h2).mono (by rintro e w' ⟨rfl, f'⟩; exact ⟨by rw [decide_eq_true rfl], f'⟩))
  have HR6 : Hid (∀ W, Ext w3 W → Calls Tryd.prog 17 #[hsV h, vx, .int .i64 0] W fun e w' => ∃ q, e = .returned (ptr q) ∧ Ext W w' ∧ DR h.hash w' 13 q X) := Lib.hid (fun W f => rof6_c h hk W vx X (H3.out.2.2.2.1.below f) (by omega) (fun q hq => by have := (hXq q hq).1; omega))
  have HCa : Hid (∀ W, Ext w3 W → Calls Tryd.prog 13 #[hsV h, ptr ga] W fun e w' => e = .returned (.bool true) ∧ Ext W w') := Lib.hid (fun W f => (canX_c h hk h.hash X hXo hXl W ga (TR.ext f 13 H3.out.2.2.1) (HP.out.2.2.ext (Ext.trans H3.out.2.1 f))).mono (by rintro e w' ⟨rfl, f'⟩; exact ⟨by rw [decide_eq_true rfl], f'⟩))
  obtain ⟨sm, hsm⟩ : ∃ b, b = decide (X = Y) := ⟨_, rfl⟩
  have HSab : Hid (∀ W, Ext w3 W → Calls Tryd.prog 23 #[ptr ga, ptr gb] W fun e w' => e = .returned (.bool sm) ∧ Ext W w') := Lib.hid (fun W f => (sameN_c W _ _ BX BY (HLa.out W f) (HLb.out W f) (by omega) (by omega)).mono (by
    rintro e w' ⟨rfl, f'⟩
    refine ⟨?_, f'⟩
    have e1 : (BX = BY) = (X = Y) := by rw [hBX, hBY]; exact propext (shp_inj h.hash hXo hYo)
    rw [hsm]; simp only [e1]))
  have HSxy : Hid (∀ W, Ext w3 W → Calls Tryd.prog 24 #[vx, vy] W fun e w' => e = .returned (.bool sm) ∧ Ext W w') := Lib.hid (fun W f => by rw [hsm]; exact Pch.rsame_c W vx vy X Y (H3.out.2.2.2.1.below f) (H3.out.2.2.2.2.2.below f) (by omega) (by omega))
  have HSaa : Hid (∀ W, Ext w3 W → Calls Tryd.prog 23 #[ptr ga, ptr ga] W fun e w' => e = .returned (.bool true) ∧ Ext W w') := Lib.hid (fun W f => (sameN_c W _ _ BX BX (HLa.out W f) (HLa.out W f) (by omega) (by omega)).mono (by rintro e w' ⟨rfl, f'⟩; exact ⟨by rw [decide_eq_true rfl], f'⟩))
  have HSnn : Hid (∀ W, Ext w3 W → Calls Tryd.prog 23 #[.pointer none, .pointer none] W fun e w' => e = .returned (.bool true) ∧ Ext W w') := Lib.hid (fun W f => (sameN_c W _ _ [] [] (.inl ⟨rfl, rfl⟩) (.inl ⟨rfl, rfl⟩) (by decide) (by decide)).mono (by rintro e w' ⟨rfl, f'⟩; exact ⟨rfl, f'⟩))
  have HSan : Hid (∀ W, Ext w3 W → Calls Tryd.prog 23 #[ptr ga, .pointer none] W fun e w' => e = .returned (.bool false) ∧ Ext W w') := Lib.hid (fun W f => (sameN_c W _ _ BX [] (HLa.out W f) (.inl ⟨rfl, rfl⟩) (by omega) (by decide)).mono (by
    rintro e w' ⟨rfl, f'⟩
    refine ⟨?_, f'⟩
    rw [decide_eq_false]
    intro e0
    rw [hBX] at e0
    simp [shp, headB] at e0))
  have HcS : Hid (∀ W, Ext w3 W → (fun w' => w'.cell? ⟨gh, 0, none⟩ = some (.int .u64 h.k0) ∧ w'.cell? ⟨gh, 1, none⟩ = some (.int .u64 h.k1) ∧ w'.cell? ⟨gh, 2, none⟩ = some (.int .u64 h.mask)) W) := Lib.hid (fun W f => (H3.out.1.ext f).cells)
  have HSM := Lib.hid hsm
  have H4 := Lib.hid H3.out.2.1
  clear hBX hBY hBX9 hBY9 hX9 hXo hYo hXq hYq hsm H3 HP hY9 HLa HLb
  have hEq : ∀ wz, (binOp .eql 4 (.bool sm) (.bool sm)).run Tryd.prog wz = .ok (.bool true) wz := fun wz => by cases sm <;> simp [go_sem]
  go_simp
  repeat' (go_not_at_region 5; (first | go_skip | go_guarded | go_step))
  go_region_held3 (fun w' => w'.cell? ⟨gh, 0, none⟩ = some (.int .u64 h.k0) ∧ w'.cell? ⟨gh, 1, none⟩ = some (.int .u64 h.k1) ∧ w'.cell? ⟨gh, 2, none⟩ = some (.int .u64 h.mask))
    (first | exact HcS.out _ k11.out | exact HcS.out _ k10.out | exact HcS.out _ k9.out | exact HcS.out _ k8.out | exact HcS.out _ k7.out | exact HcS.out _ k6.out | exact HcS.out _ k5.out | exact HcS.out _ k4.out | exact HcS.out _ k3.out | exact HcS.out _ k2.out | exact HcS.out _ k1.out | exact HcS.out _ (ext_drew (Ext.refl _)))
    (first
      | (go_at_call 23; have mz := k10; clear mz; refine (HSan.out _ k10.out).mono ?_; rintro e x11 ⟨rfl, f11⟩; have k11 : Hid (Ext w3 x11) := Lib.hid (Ext.trans k10.out f11); clear f11)
      | (go_at_call 23; have mz := k9; clear mz; refine (HSnn.out _ k9.out).mono ?_; rintro e x10 ⟨rfl, f10⟩; have k10 : Hid (Ext w3 x10) := Lib.hid (Ext.trans k9.out f10); clear f10)
      | (go_at_call 23; have mz := k8; clear mz; refine (HSaa.out _ k8.out).mono ?_; rintro e x9 ⟨rfl, f9⟩; have k9 : Hid (Ext w3 x9) := Lib.hid (Ext.trans k8.out f9); clear f9)
      | (go_at_call 24; have mz := k7; clear mz; refine (HSxy.out _ k7.out).mono ?_; rintro e x8 ⟨rfl, f8⟩; have k8 : Hid (Ext w3 x8) := Lib.hid (Ext.trans k7.out f8); clear f8)
      | (go_at_call 23; have mz := k6; clear mz; refine (HSab.out _ k6.out).mono ?_; rintro e x7 ⟨rfl, f7⟩; have k7 : Hid (Ext w3 x7) := Lib.hid (Ext.trans k6.out f7); clear f7)
      | (go_at_call 13; have mz := k5; clear mz; refine (HCa.out _ k5.out).mono ?_; rintro e x6 ⟨rfl, f6⟩; have k6 : Hid (Ext w3 x6) := Lib.hid (Ext.trans k5.out f6); clear f6)
      | (go_at_call 10; have mz := k4; clear mz; refine (HSr.out _ v1 v4 K4.out.1 K4.out.2).mono ?_; rintro e x5 ⟨rfl, f5⟩; have k5 : Hid (Ext w3 x5) := Lib.hid (Ext.trans k4.out f5); clear f5)
      | (go_at_call 12; have mz := k3; clear mz; refine (HO7.out _ _ K3.out.2).mono ?_; rintro e x4 ⟨v4, rfl, b4, f4⟩; have K4 := Lib.hid (And.intro (K3.out.1.below f4) b4); have k4 : Hid (Ext w3 x4) := Lib.hid (Ext.trans k3.out f4); clear f4 b4)
      | (go_at_call 17; have mz := k2; clear mz; refine (HR6.out _ k2.out).mono ?_; rintro e x3 ⟨q3, rfl, f3, d3⟩; have K3 := Lib.hid (And.intro (K2.out.below f3) d3); have k3 : Hid (Ext w3 x3) := Lib.hid (Ext.trans k2.out f3); clear f3 d3)
      | (go_at_call 15; have mz := k1; clear mz; refine (own07_c _ h).mono ?_; rintro e x2 ⟨rfl, f2⟩; have K2 := Lib.hid (K1.out.below f2); have k2 : Hid (Ext w3 x2) := Lib.hid (Ext.trans k1.out f2); clear f2)
      | (go_at_call 11; refine (HOf.out _ (ext_drew (Ext.refl _))).mono ?_; rintro e x1 ⟨v1, rfl, b1, f1⟩; have K1 := Lib.hid b1; have k1 : Hid (Ext w3 x1) := Lib.hid (Ext.trans (ext_drew (Ext.refl _)) f1); clear f1 b1))
  have HE := Lib.hid (Ext.trans H4.out k11.out)
  clear HOf HR6 HO7 HSr HCa HSab HSxy HSaa HSnn HSan HcS
  repeat' (first | go_skip | go_guarded | go_step)
  go_ret
  exact ⟨rfl, HE.out⟩
end Go.Proofs.YtajodnldhnehcaaDoor
