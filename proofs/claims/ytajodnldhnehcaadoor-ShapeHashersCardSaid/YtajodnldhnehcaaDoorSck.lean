/- ShapeHashers: its walk. -/
import Derived.Test.YtajodnldhnehcaaDoorM35
import Derived.Test.YtajodnldhnehcaaDoorM34
import Derived.Deep.RegionHeld3
set_option linter.unusedVariables false
set_option linter.unusedSimpArgs false
namespace Go.Proofs.YtajodnldhnehcaaDoor
open Go Go.RowKit Go.QS Go.QS.Nk
set_option linter.unusedVariables false

set_option maxRecDepth 100000 in
set_option maxHeartbeats 4000000 in
theorem shapeHashers_c (w : World) (h k : Hs) (hh : h.Ok) (hk : k.Ok) (v2 : Value) (l : List Pr) (hP1 : PS w v2 l) (hT : Tab32 w) :
    Calls Tryd.prog 6 #[hsV h, hsV k, v2] w fun e w' => e = .returned (.bool true) ∧ Ext w w' := by
  have HP := Lib.hid (And.intro hP1 hT)
  clear hP1 hT
  go_enter Tryd.func6, Tryd.ntmps6
  repeat' (go_not_at_region 1; (first | go_skip | go_guarded | go_step))
  obtain ⟨gh, hgh⟩ : ∃ g, g = w.heap.size := ⟨_, rfl⟩
  rw [← hgh]
  refine wp_nameS (fun w' => (HsAt w' gh h ∧ HsAt w' (gh + 1) k) ∧ Ext w w') ⟨?_, ((Ext.refl w).alloc (Nat.le_refl _) _).alloc (by simp) _⟩ ?_
  · have h0 := heap_newG w (.cells #[.int .u64 h.k0, .int .u64 h.k1, .int .u64 h.mask] 26)
    have h1 := heap_newG (w.alloc (.cells #[.int .u64 h.k0, .int .u64 h.k1, .int .u64 h.mask] 26)) (.cells #[.int .u64 k.k0, .int .u64 k.k1, .int .u64 k.mask] 26)
    rw [← hgh] at h0
    rw [World.size_alloc, ← hgh] at h1
    exact ⟨box_extG h0 ((Ext.refl _).alloc (Nat.le_refl _) _), h1⟩
  clear hgh
  intro wa HW
  repeat' (first | go_at_call 8 | go_skip | go_guarded | go_step)
  refine (awake07_c wa).mono ?_
  rintro e w1 ⟨rfl, f1⟩
  have H1 : Hid ((HsAt w1 gh h ∧ HsAt w1 (gh + 1) k) ∧ Ext w w1) := Lib.hid ⟨⟨HW.out.1.1.ext f1, HW.out.1.2.ext f1⟩, Ext.trans HW.out.2 f1⟩
  clear f1 HW
  obtain ⟨c0, c1, c2⟩ := H1.out.1.1.cells
  go_simp
  repeat' (first | go_at_call 16 | go_skip | go_guarded | go_step)
  refine (trie07_c h hh w1 v2 l (HP.out.1.below H1.out.2)).mono ?_
  rintro e w2 ⟨ga, vx, rfl, f2, t2, p2⟩
  obtain ⟨X, hX⟩ : ∃ X, X = xOf l := ⟨_, rfl⟩
  obtain ⟨hXo, hX9, hXl, hXq⟩ := xOf_sh l
  rw [← hX] at t2 p2 hXo hX9 hXl hXq
  have H2 : Hid ((HsAt w2 gh h ∧ HsAt w2 (gh + 1) k) ∧ Ext w w2 ∧ TR ND h.hash w2 13 ga X ∧ PS w2 vx X) := Lib.hid ⟨⟨H1.out.1.1.ext f2, H1.out.1.2.ext f2⟩, Ext.trans H1.out.2 f2, t2, p2⟩
  clear f2 t2 p2 c0 c1 c2 H1
  obtain ⟨c0, c1, c2⟩ := H2.out.1.2.cells
  go_simp
  repeat' (first | go_at_call 16 | go_skip | go_guarded | go_step)
  refine (trie07_c k hk w2 v2 l (HP.out.1.below H2.out.2.1)).mono ?_
  rintro e w3 ⟨gb, vy, rfl, f3, t3, p3⟩
  rw [← hX] at t3
  have H3 : Hid ((HsAt w3 gh h ∧ HsAt w3 (gh + 1) k) ∧ Ext w w3 ∧ TR ND h.hash w3 13 ga X ∧ PS w3 vx X ∧ TR ND k.hash w3 13 gb X) := Lib.hid ⟨⟨H2.out.1.1.ext f3, H2.out.1.2.ext f3⟩, Ext.trans H2.out.2.1 f3, TR.ext f3 13 H2.out.2.2.1, H2.out.2.2.2.below f3, t3⟩
  clear f3 t3 p3 c0 c1 c2 hX H2
  obtain ⟨sm, hsm⟩ : ∃ b, b = decide (shp h.hash 13 X = shp k.hash 13 X) := ⟨_, rfl⟩
  have hXh := hX9 h.hash
  have hXk := hX9 k.hash
  have hR6 := fun (h : Hs) (hk : h.Ok) W (f : Ext w3 W) => rof6_c h hk W vx X (H3.out.2.2.2.1.below f) (by omega) (fun q hq => by have := (hXq q hq).1; omega)
  have HRh := Lib.hid (hR6 h hh)
  have HRk := Lib.hid (hR6 k hk)
  have HCn : Hid (∀ W, Ext w3 W → Calls Tryd.prog 13 #[hsV k, ptr ga] W fun e w' => e = .returned (.bool sm) ∧ Ext W w') := Lib.hid (fun W f => by rw [hsm]; exact canX_c k hk h.hash X hXo hXl W ga (TR.ext f 13 H3.out.2.2.1) (HP.out.2.ext (Ext.trans H3.out.2.1 f)))
  have HCm : Hid (∀ W, Ext w3 W → Calls Tryd.prog 13 #[hsV h, ptr gb] W fun e w' => e = .returned (.bool sm) ∧ Ext W w') := Lib.hid (fun W f => (canX_c h hh k.hash X hXo hXl W gb (TR.ext f 13 H3.out.2.2.2.2) (HP.out.2.ext (Ext.trans H3.out.2.1 f))).mono (by
    rintro e w' ⟨rfl, f'⟩
    refine ⟨?_, f'⟩
    have e1 : (shp k.hash 13 X = shp h.hash 13 X) = (shp h.hash 13 X = shp k.hash 13 X) := propext ⟨Eq.symm, Eq.symm⟩
    rw [hsm]; simp only [e1]))
  have HSnm : Hid (∀ W, Ext w3 W → Calls Tryd.prog 23 #[ptr ga, ptr gb] W fun e w' => e = .returned (.bool sm) ∧ Ext W w') := Lib.hid (fun W f => by
    rw [hsm]
    exact sameN_c W _ _ _ _ ((TR.lk H3.out.2.2.1 hXl).ext f) ((TR.lk H3.out.2.2.2.2 hXl).ext f) (by omega) (by omega))
  have HcS : Hid (∀ W, Ext w3 W → (fun w' => (w'.cell? ⟨gh, 0, none⟩ = some (.int .u64 h.k0) ∧ w'.cell? ⟨gh, 1, none⟩ = some (.int .u64 h.k1) ∧ w'.cell? ⟨gh, 2, none⟩ = some (.int .u64 h.mask)) ∧ (w'.cell? ⟨gh + 1, 0, none⟩ = some (.int .u64 k.k0) ∧ w'.cell? ⟨gh + 1, 1, none⟩ = some (.int .u64 k.k1) ∧ w'.cell? ⟨gh + 1, 2, none⟩ = some (.int .u64 k.mask))) W) := Lib.hid (fun W f => ⟨(H3.out.1.1.ext f).cells, (H3.out.1.2.ext f).cells⟩)
  obtain ⟨BH, hBH⟩ : ∃ B, B = shp h.hash 13 X := ⟨_, rfl⟩
  obtain ⟨BK, hBK⟩ : ∃ B, B = shp k.hash 13 X := ⟨_, rfl⟩
  have HO7h : Hid (∀ W q, DR h.hash W 13 q X → Calls Tryd.prog 12 #[ptr q, .int .i64 0] W fun e w' => ∃ v', e = .returned v' ∧ BS w' v' BH ∧ Ext W w') := Lib.hid (fun W q hd => by rw [hBH]; exact of7X_c _ X hXh W q hd)
  have HO7k : Hid (∀ W q, DR k.hash W 13 q X → Calls Tryd.prog 12 #[ptr q, .int .i64 0] W fun e w' => ∃ v', e = .returned v' ∧ BS w' v' BK ∧ Ext W w') := Lib.hid (fun W q hd => by rw [hBK]; exact of7X_c _ X hXk W q hd)
  have HSr : Hid (∀ W v v', BS W v BH → BS W v' BK → Calls Tryd.prog 10 #[v, v'] W fun e w' => e = .returned (.bool sm) ∧ Ext W w') := Lib.hid (fun W v v' h1 h2 => by rw [hsm, ← hBH, ← hBK]; exact rsame_c W v v' BH BK h1 h2)
  clear hBH hBK hXh hXk
  have H4 := Lib.hid (And.intro H3.out.1 H3.out.2.1)
  clear hXo hX9 hXq hsm H3 HP hR6 hXl
  have hEq : ∀ wz, (binOp .eql 4 (.bool sm) (.bool sm)).run Tryd.prog wz = .ok (.bool true) wz := fun wz => by cases sm <;> simp [go_sem]
  go_simp
  repeat' (go_not_at_region 5; (first | go_skip | go_guarded | go_step))
  go_region_held3 (fun w' => (w'.cell? ⟨gh, 0, none⟩ = some (.int .u64 h.k0) ∧ w'.cell? ⟨gh, 1, none⟩ = some (.int .u64 h.k1) ∧ w'.cell? ⟨gh, 2, none⟩ = some (.int .u64 h.mask)) ∧ (w'.cell? ⟨gh + 1, 0, none⟩ = some (.int .u64 k.k0) ∧ w'.cell? ⟨gh + 1, 1, none⟩ = some (.int .u64 k.k1) ∧ w'.cell? ⟨gh + 1, 2, none⟩ = some (.int .u64 k.mask)))
    (first | exact HcS.out _ k7.out | exact HcS.out _ k6.out | exact HcS.out _ k5.out | exact HcS.out _ k4.out | exact HcS.out _ k3.out | exact HcS.out _ k2.out | exact HcS.out _ k1.out | exact HcS.out _ (ext_drew (Ext.refl _)))
    (first
      | (go_at_call 10; have mz := k6; clear mz; refine (HSr.out _ v3 v6 K6.out.1 K6.out.2).mono ?_; rintro e x7 ⟨rfl, f7⟩; have k7 : Hid (Ext w3 x7) := Lib.hid (Ext.trans k6.out f7); clear f7)
      | (go_at_call 12; have mz := k5; clear mz; refine (HO7k.out _ _ K5.out.2).mono ?_; rintro e x6 ⟨v6, rfl, b6, f6⟩; have K6 := Lib.hid (And.intro (K5.out.1.below f6) b6); have k6 : Hid (Ext w3 x6) := Lib.hid (Ext.trans k5.out f6); clear f6 b6)
      | (go_at_call 17; have mz := k4; clear mz; refine (HRk.out _ k4.out).mono ?_; rintro e x5 ⟨q5, rfl, f5, d5⟩; have K5 := Lib.hid (And.intro (K4.out.below f5) d5); have k5 : Hid (Ext w3 x5) := Lib.hid (Ext.trans k4.out f5); clear f5 d5)
      | (go_at_call 15; have mz := k3; clear mz; refine (own07_c _ k).mono ?_; rintro e x4 ⟨rfl, f4⟩; have K4 := Lib.hid (K3.out.below f4); have k4 : Hid (Ext w3 x4) := Lib.hid (Ext.trans k3.out f4); clear f4)
      | (go_at_call 12; have mz := k2; clear mz; refine (HO7h.out _ _ K2.out).mono ?_; rintro e x3 ⟨v3, rfl, b3, f3⟩; have K3 := Lib.hid b3; have k3 : Hid (Ext w3 x3) := Lib.hid (Ext.trans k2.out f3); clear f3 b3)
      | (go_at_call 17; have mz := k1; clear mz; refine (HRh.out _ k1.out).mono ?_; rintro e x2 ⟨q2, rfl, f2, d2⟩; have K2 := Lib.hid d2; have k2 : Hid (Ext w3 x2) := Lib.hid (Ext.trans k1.out f2); clear f2 d2)
      | (go_at_call 15; refine (own07_c _ h).mono ?_; rintro e x1 ⟨rfl, f1⟩; have k1 : Hid (Ext w3 x1) := Lib.hid (Ext.trans (ext_drew (Ext.refl _)) f1); clear f1))
  clear HRh HRk HcS
  have HF := Lib.hid k7.out
  obtain ⟨c0, c1, c2⟩ := (H4.out.1.2.ext HF.out).cells
  go_simp
  repeat' (first | go_at_call 13 | go_skip | go_guarded | go_step)
  refine (HCn.out _ HF.out).mono ?_
  rintro e y1 ⟨rfl, f1⟩
  have HF1 := Lib.hid (Ext.trans HF.out f1)
  clear f1 c0 c1 c2
  obtain ⟨c0, c1, c2⟩ := (H4.out.1.1.ext HF1.out).cells
  go_simp
  repeat' (first | go_at_call 13 | go_skip | go_guarded | go_step)
  refine (HCm.out _ HF1.out).mono ?_
  rintro e y2 ⟨rfl, f2⟩
  have HF2 := Lib.hid (Ext.trans HF1.out f2)
  clear f2 c0 c1 c2
  go_simp
  repeat' (first | go_at_call 23 | go_skip | go_guarded | go_step)
  refine (HSnm.out _ HF2.out).mono ?_
  rintro e y3 ⟨rfl, f3⟩
  have HF3 := Lib.hid (Ext.trans H4.out.2 (Ext.trans HF2.out f3))
  clear f3
  go_simp
  repeat' (first | go_skip | go_guarded | go_step)
  go_ret
  exact ⟨rfl, HF3.out⟩
end Go.Proofs.YtajodnldhnehcaaDoor
