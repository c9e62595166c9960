/- Contracts: champ's put at an inner node, case by case. -/
import Derived.Test.YtclcgelbcbnekaaDoorM20
import Derived.Deep.RegionHeld3
set_option linter.unusedVariables false
set_option linter.unusedSimpArgs false
namespace Go.Proofs.YtclcgelbcbnekaaDoor
open Go.RowKit Go.QS Go.QS.Nk
set_option linter.unusedVariables false
variable [Zero (Nat → Prop)]
set_option linter.unusedSectionVars false

theorem slot_pr {H : List UInt8 → Nat} {R : Nat → List Pr → Prop} {lv : Nat} {l : List Pr} {p q : Pr} {i : Nat} (hr : Rise l) (hi : i = chk (H p.1) lv) (hs : SlotOk R (.pr q) (Go.QS.part H lv i l)) : Go.QS.part H lv i l = [q] ∧ (p ∈ l ↔ p = q) ∧ (hasK l p.1 = true ↔ q.1 = p.1) := by
  have h1 : Go.QS.part H lv i l = [q] := hs
  refine ⟨h1, ?_, ?_⟩
  · rw [← part_mem (H := H) (lv := lv), ← hi, h1]; simp
  · rw [← part_has (H := H) (lv := lv), ← hi, h1]; simp [hasK]

set_option maxRecDepth 100000 in
set_option maxHeartbeats 1000000 in
theorem put_same (h : Hs) (hk : h.Ok) (f : Nat) (w : World) (g : Nat) (l : List Pr) (p : Pr) (lv : Nat) (sl : List (Slot Nat)) (hlf : lv + (f + 1) = 13) (hN : In ND w g sl) (hT : ∀ c s, sl[c]? = some s → SlotOk (TR ND h.hash w f) s (Go.QS.part h.hash (12 - f) c l)) (hr : Rise l) (hpl : p.1.length ≤ 1000000) (i : Nat) (hi : i = chk (h.hash p.1) lv) (hs : sl[i]? = some (.pr p)) : PutOk h (f + 1) w g l p lv := by
  unfold PutOk
  have hl12 : 12 - f = lv := by omega
  have hi32 : i < 32 := by rw [hi]; exact chk_lt _ _
  obtain ⟨l1, hl1⟩ : ∃ l1, l1 = lv + 1 := ⟨_, rfl⟩
  have e1 : (lv : Int) + 1 = (l1 : Int) := by omega
  have e2 : IntKind.i64.wrap (l1 : Int) = (l1 : Int) := IntWalk.i64_in _ (by omega)
  have HL1 := Lib.hid hl1
  have HAt0 := fun W => at_c W (h.hash p.1) lv (Hs.hash_lt hk p.1) (by omega)
  rw [← hi] at HAt0
  have HIL := Lib.hid (And.intro hi (And.intro hl12 hlf))
  have HN := Lib.hid hN
  have HT := Lib.hid hT
  have HR := Lib.hid hr
  have HS := Lib.hid hs
  have HQ := Lib.hid (slot_pr hr (hl12 ▸ hi) (hT i _ hs))
  have hK : hasK l p.1 = true := HQ.out.2.2.2 rfl
  rw [hK]
  clear hi hl12 hlf hN hT hr hl1 hs hK
  obtain ⟨x, hx⟩ : ∃ x, x = h.hash p.1 := ⟨_, rfl⟩
  rw [← hx] at HAt0 ⊢
  have hx64 : x < 18446744073709551616 := by rw [hx]; exact Hs.hash_lt hk p.1
  have HX := Lib.hid hx
  clear hx
  have HAt := Lib.hid HAt0
  clear HAt0
  obtain ⟨a, ha⟩ : ∃ a, a = w.heap.size := ⟨_, rfl⟩
  obtain ⟨b, hb⟩ : ∃ b, b = a + 1 := ⟨_, rfl⟩
  have HAB := Lib.hid (boxes2 w h p p.1 x ha hb)
  go_enter Tryd.func48, Tryd.ntmps48
  repeat' (first | go_at_call 52 | go_skip | go_guarded | go_step)
  rw [← ha, ← hb]
  clear ha hb
  refine calls_named (fun w' => (WkAt w' a h p.1 x ∧ PrAt w' b p) ∧ Ext w w') HAB.out ?_
  intro wa HW
  clear HAB
  refine (isb_c wa g false (isn_cell (HN.out.ext HW.out.2))).mono ?_
  rintro e w1 ⟨rfl, f1⟩
  have H1 : Hid ((WkAt w1 a h p.1 x ∧ PrAt w1 b p) ∧ Ext w w1) := Lib.hid ⟨⟨HW.out.1.1.ext f1, HW.out.1.2.ext f1⟩, HW.out.2.trans f1⟩
  clear f1 HW
  obtain ⟨h0, h1, h2, h3, h4, h5⟩ := H1.out.1.1.cells
  obtain ⟨p0, p1⟩ := H1.out.1.2.cells
  go_simp
  repeat' (first | go_at_call 85 | go_skip | go_guarded | go_step)
  refine (HAt.out _).mono ?_
  rintro e w1' ⟨rfl, rfl⟩
  clear HAt
  go_simp
  repeat' (first | go_at_call 67 | go_skip | go_guarded | go_step)
  refine (pair_yes w1 g i sl p (HN.out.ext H1.out.2) HS.out).mono ?_
  rintro e w2 ⟨rfl, f2⟩
  obtain ⟨c, hc⟩ : ∃ c, c = w2.heap.size := ⟨_, rfl⟩
  have H2 : Hid ((WkAt (w2.alloc (.cells #[str p.1, str p.2] NP)) a h p.1 x ∧ PrAt (w2.alloc (.cells #[str p.1, str p.2] NP)) c p ∧ PrAt (w2.alloc (.cells #[str p.1, str p.2] NP)) b p) ∧ Ext w (w2.alloc (.cells #[str p.1, str p.2] NP))) := Lib.hid (by
    have fa : Ext w1 (w2.alloc (.cells #[str p.1, str p.2] NP)) := f2.trans ((Ext.refl _).alloc (Nat.le_refl _) _)
    exact ⟨⟨H1.out.1.1.ext fa, by rw [hc]; exact PrAt.new w2 p, H1.out.1.2.ext fa⟩, H1.out.2.trans fa⟩)
  clear f2 H1 h0 h1 h2 h3 h4 h5 p0 p1
  go_simp
  repeat' (go_not_at_region 9; (first | go_skip | go_guarded | go_step))
  rw [← hc]
  clear hc
  refine wp_named (fun w' => (WkAt w' a h p.1 x ∧ PrAt w' c p ∧ PrAt w' b p) ∧ Ext w w') H2.out ?_
  intro wb H3
  clear H2
  obtain ⟨h0, h1, h2, h3, h4, h5, q0, q1, p0, p1⟩ := b3_of H3.out.1
  have hEq := fun W => eqPr W p p
  have hd : decide (p = p) = true := by simp
  repeat' (first | go_skip | go_guarded | go_step)
  go_ret3
  have hm : p ∈ l := HQ.out.2.1.2 rfl
  exact ⟨g, false, rfl, by rw [rput_self HR.out hm]; exact ⟨sl, HN.out.ext H3.out.2, fun c s hs => (HT.out c s hs).mono fun _ hk => TR.ext H3.out.2 f hk⟩, H3.out.2, fun _ => rfl, ⟨fun _ => hm, fun _ => rfl⟩⟩

set_option maxRecDepth 100000 in
set_option maxHeartbeats 1000000 in
theorem put_key (h : Hs) (hk : h.Ok) (f : Nat) (w : World) (g : Nat) (l : List Pr) (p : Pr) (lv : Nat) (sl : List (Slot Nat)) (hlf : lv + (f + 1) = 13) (hN : In ND w g sl) (hT : ∀ c s, sl[c]? = some s → SlotOk (TR ND h.hash w f) s (Go.QS.part h.hash (12 - f) c l)) (hr : Rise l) (hpl : p.1.length ≤ 1000000) (i : Nat) (hi : i = chk (h.hash p.1) lv) (q : Pr) (hqp : q.1 = p.1) (hne : q ≠ p) (hs : sl[i]? = some (.pr q)) : PutOk h (f + 1) w g l p lv := by
  unfold PutOk
  have hl12 : 12 - f = lv := by omega
  have hi32 : i < 32 := by rw [hi]; exact chk_lt _ _
  obtain ⟨l1, hl1⟩ : ∃ l1, l1 = lv + 1 := ⟨_, rfl⟩
  have e1 : (lv : Int) + 1 = (l1 : Int) := by omega
  have e2 : IntKind.i64.wrap (l1 : Int) = (l1 : Int) := IntWalk.i64_in _ (by omega)
  have HL1 := Lib.hid hl1
  have HAt0 := fun W => at_c W (h.hash p.1) lv (Hs.hash_lt hk p.1) (by omega)
  rw [← hi] at HAt0
  have HIL := Lib.hid (And.intro hi (And.intro hl12 hlf))
  have HN := Lib.hid hN
  have HT := Lib.hid hT
  have HR := Lib.hid hr
  have HS := Lib.hid hs
  have HQ := Lib.hid (slot_pr hr (hl12 ▸ hi) (hT i _ hs))
  have hK : hasK l p.1 = true := HQ.out.2.2.2 hqp
  rw [hK]
  have HP : Hid (p ∉ l ∧ q.1 = p.1) := Lib.hid ⟨fun e => hne (HQ.out.2.1.1 e).symm, hqp⟩
  have hd : decide (q = p) = false := by simp [hne]
  have hd2 : decide (bs q.1 = bs p.1) = true := by rw [hqp]; simp
  have hd3 : (q.1 == p.1) = true := by rw [hqp]; simp
  clear hi hl12 hlf hN hT hr hl1 hs hK hqp hne
  obtain ⟨x, hx⟩ : ∃ x, x = h.hash p.1 := ⟨_, rfl⟩
  rw [← hx] at HAt0 ⊢
  have hx64 : x < 18446744073709551616 := by rw [hx]; exact Hs.hash_lt hk p.1
  have HX := Lib.hid hx
  clear hx
  have HAt := Lib.hid HAt0
  clear HAt0
  obtain ⟨a, ha⟩ : ∃ a, a = w.heap.size := ⟨_, rfl⟩
  obtain ⟨b, hb⟩ : ∃ b, b = a + 1 := ⟨_, rfl⟩
  have HAB := Lib.hid (boxes2 w h p p.1 x ha hb)
  go_enter Tryd.func48, Tryd.ntmps48
  repeat' (first | go_at_call 52 | go_skip | go_guarded | go_step)
  rw [← ha, ← hb]
  clear ha hb
  refine calls_named (fun w' => (WkAt w' a h p.1 x ∧ PrAt w' b p) ∧ Ext w w') HAB.out ?_
  intro wa HW
  clear HAB
  refine (isb_c wa g false (isn_cell (HN.out.ext HW.out.2))).mono ?_
  rintro e w1 ⟨rfl, f1⟩
  have H1 : Hid ((WkAt w1 a h p.1 x ∧ PrAt w1 b p) ∧ Ext w w1) := Lib.hid ⟨⟨HW.out.1.1.ext f1, HW.out.1.2.ext f1⟩, HW.out.2.trans f1⟩
  clear f1 HW
  obtain ⟨h0, h1, h2, h3, h4, h5⟩ := H1.out.1.1.cells
  obtain ⟨p0, p1⟩ := H1.out.1.2.cells
  go_simp
  repeat' (first | go_at_call 85 | go_skip | go_guarded | go_step)
  refine (HAt.out _).mono ?_
  rintro e w1' ⟨rfl, rfl⟩
  clear HAt
  go_simp
  repeat' (first | go_at_call 67 | go_skip | go_guarded | go_step)
  refine (pair_yes w1 g i sl q (HN.out.ext H1.out.2) HS.out).mono ?_
  rintro e w2 ⟨rfl, f2⟩
  obtain ⟨c, hc⟩ : ∃ c, c = w2.heap.size := ⟨_, rfl⟩
  have H2 : Hid ((WkAt (w2.alloc (.cells #[str q.1, str q.2] NP)) a h p.1 x ∧ PrAt (w2.alloc (.cells #[str q.1, str q.2] NP)) c q ∧ PrAt (w2.alloc (.cells #[str q.1, str q.2] NP)) b p) ∧ Ext w (w2.alloc (.cells #[str q.1, str q.2] NP))) := Lib.hid (by
    have fa : Ext w1 (w2.alloc (.cells #[str q.1, str q.2] NP)) := f2.trans ((Ext.refl _).alloc (Nat.le_refl _) _)
    exact ⟨⟨H1.out.1.1.ext fa, by rw [hc]; exact PrAt.new w2 q, H1.out.1.2.ext fa⟩, H1.out.2.trans fa⟩)
  clear f2 H1 h0 h1 h2 h3 h4 h5 p0 p1
  go_simp
  repeat' (go_not_at_region 9; (first | go_skip | go_guarded | go_step))
  rw [← hc]
  clear hc
  refine wp_named (fun w' => (WkAt w' a h p.1 x ∧ PrAt w' c q ∧ PrAt w' b p) ∧ Ext w w') H2.out ?_
  intro wb H3
  clear H2
  obtain ⟨h0, h1, h2, h3, h4, h5, q0, q1, p0, p1⟩ := b3_of H3.out.1
  have hEq := fun W => eqPr W q p
  repeat' (first | go_at_call 17 | go_skip | go_guarded | go_step)
  refine (setPair_c wb g i sl p (HN.out.ext H3.out.2) hi32).mono ?_
  rintro e w4 ⟨g4, rfl, N4, f4, s4⟩
  have H4 := Lib.hid (And.intro N4 f4)
  clear N4 f4
  go_simp
  repeat' (first | go_skip | go_guarded | go_step)
  go_ret3
  have hE := H3.out.2.trans H4.out.2
  refine ⟨g4, true, rfl, ?_, hE, fun e => absurd e HP.out.1, ⟨fun e => (by cases e), fun e => absurd e HP.out.1⟩⟩
  refine TR.put HR.out (by rw [HIL.out.2.1]; exact HIL.out.1.symm) HT.out hE H4.out.1 ?_
  show rput (Go.QS.part h.hash (12 - f) i l) p = [p]
  rw [HQ.out.1]
  exact rput_one HP.out.2.symm

set_option maxRecDepth 100000 in
set_option maxHeartbeats 1000000 in
theorem put_two (h : Hs) (hk : h.Ok) (f : Nat) (w : World) (g : Nat) (l : List Pr) (p : Pr) (lv : Nat) (sl : List (Slot Nat)) (hlf : lv + (f + 1) = 13) (hN : In ND w g sl) (hT : ∀ c s, sl[c]? = some s → SlotOk (TR ND h.hash w f) s (Go.QS.part h.hash (12 - f) c l)) (hr : Rise l) (hpl : p.1.length ≤ 1000000) (i : Nat) (hi : i = chk (h.hash p.1) lv) (q : Pr) (hqp : q.1 ≠ p.1) (hql : q.1.length ≤ 1000000) (hs : sl[i]? = some (.pr q)) : PutOk h (f + 1) w g l p lv := by
  unfold PutOk
  have hl12 : 12 - f = lv := by omega
  have hi32 : i < 32 := by rw [hi]; exact chk_lt _ _
  obtain ⟨l1, hl1⟩ : ∃ l1, l1 = lv + 1 := ⟨_, rfl⟩
  have e1 : (lv : Int) + 1 = (l1 : Int) := by omega
  have e2 : IntKind.i64.wrap (l1 : Int) = (l1 : Int) := IntWalk.i64_in _ (by omega)
  have HL1 := Lib.hid hl1
  have HAt0 := fun W => at_c W (h.hash p.1) lv (Hs.hash_lt hk p.1) (by omega)
  rw [← hi] at HAt0
  have HIL := Lib.hid (And.intro hi (And.intro hl12 hlf))
  have HN := Lib.hid hN
  have HT := Lib.hid hT
  have HR := Lib.hid hr
  have HS := Lib.hid hs
  have HQ := Lib.hid (slot_pr hr (hl12 ▸ hi) (hT i _ hs))
  have hK : hasK l p.1 = false := by rw [Bool.eq_false_iff]; exact fun e => hqp (HQ.out.2.2.1 e)
  rw [hK]
  have HP : Hid (p ∉ l ∧ q.1 ≠ p.1) := Lib.hid ⟨fun e => hqp (by rw [HQ.out.2.1.1 e]), hqp⟩
  have hd : decide (q = p) = false := by rw [decide_eq_false_iff_not]; intro e; exact hqp (by rw [e])
  have hd2 : decide (bs q.1 = bs p.1) = false := by rw [decide_eq_false_iff_not]; intro e; exact hqp (bs_inj e)
  have hd3 : (q.1 == p.1) = false := by rw [beq_eq_false_iff_ne]; exact hqp
  have HNW : Hid (∀ k, w.heap.size ≤ k → S9 k) := Lib.hid (by obtain ⟨_, _, _, _, nd⟩ := HN.out; exact nd.nw)
  have HBO := Lib.hid (fun W (fW : Ext w W) => both_c h hk f W q p (lv + 1) (fun k hk => HNW.out k (Nat.le_trans fW.size hk)) (by omega) hqp hql hpl)
  rw [← hl1] at HBO
  clear hi hl12 hlf hN hT hr hl1 hs hK hqp
  obtain ⟨x, hx⟩ : ∃ x, x = h.hash p.1 := ⟨_, rfl⟩
  rw [← hx] at HAt0 ⊢
  have hx64 : x < 18446744073709551616 := by rw [hx]; exact Hs.hash_lt hk p.1
  have HX := Lib.hid hx
  clear hx
  have HAt := Lib.hid HAt0
  clear HAt0
  obtain ⟨a, ha⟩ : ∃ a, a = w.heap.size := ⟨_, rfl⟩
  obtain ⟨b, hb⟩ : ∃ b, b = a + 1 := ⟨_, rfl⟩
  have HAB := Lib.hid (boxes2 w h p p.1 x ha hb)
  go_enter Tryd.func48, Tryd.ntmps48
  repeat' (first | go_at_call 52 | go_skip | go_guarded | go_step)
  rw [← ha, ← hb]
  clear ha hb
  refine calls_named (fun w' => (WkAt w' a h p.1 x ∧ PrAt w' b p) ∧ Ext w w') HAB.out ?_
  intro wa HW
  clear HAB
  refine (isb_c wa g false (isn_cell (HN.out.ext HW.out.2))).mono ?_
  rintro e w1 ⟨rfl, f1⟩
  have H1 : Hid ((WkAt w1 a h p.1 x ∧ PrAt w1 b p) ∧ Ext w w1) := Lib.hid ⟨⟨HW.out.1.1.ext f1, HW.out.1.2.ext f1⟩, HW.out.2.trans f1⟩
  clear f1 HW
  obtain ⟨h0, h1, h2, h3, h4, h5⟩ := H1.out.1.1.cells
  obtain ⟨p0, p1⟩ := H1.out.1.2.cells
  go_simp
  repeat' (first | go_at_call 85 | go_skip | go_guarded | go_step)
  refine (HAt.out _).mono ?_
  rintro e w1' ⟨rfl, rfl⟩
  clear HAt
  go_simp
  repeat' (first | go_at_call 67 | go_skip | go_guarded | go_step)
  refine (pair_yes w1 g i sl q (HN.out.ext H1.out.2) HS.out).mono ?_
  rintro e w2 ⟨rfl, f2⟩
  obtain ⟨c, hc⟩ : ∃ c, c = w2.heap.size := ⟨_, rfl⟩
  have H2 : Hid ((WkAt (w2.alloc (.cells #[str q.1, str q.2] NP)) a h p.1 x ∧ PrAt (w2.alloc (.cells #[str q.1, str q.2] NP)) c q ∧ PrAt (w2.alloc (.cells #[str q.1, str q.2] NP)) b p) ∧ Ext w (w2.alloc (.cells #[str q.1, str q.2] NP))) := Lib.hid (by
    have fa : Ext w1 (w2.alloc (.cells #[str q.1, str q.2] NP)) := f2.trans ((Ext.refl _).alloc (Nat.le_refl _) _)
    exact ⟨⟨H1.out.1.1.ext fa, by rw [hc]; exact PrAt.new w2 q, H1.out.1.2.ext fa⟩, H1.out.2.trans fa⟩)
  clear f2 H1 h0 h1 h2 h3 h4 h5 p0 p1
  go_simp
  repeat' (go_not_at_region 9; (first | go_skip | go_guarded | go_step))
  rw [← hc]
  clear hc
  rw [← HX.out] at HBO
  refine wp_named (fun w' => (WkAt w' a h p.1 x ∧ PrAt w' c q ∧ PrAt w' b p) ∧ Ext w w') H2.out ?_
  intro wb H3
  clear H2
  obtain ⟨h0, h1, h2, h3, h4, h5, q0, q1, p0, p1⟩ := b3_of H3.out.1
  have hEq := fun W => eqPr W q p
  repeat' (go_not_at_region 13; (first | go_skip | go_guarded | go_step))
  go_region_held3 (fun w' => w'.cell? ⟨a, 0, none⟩ = some (.int .u64 h.k0) ∧ w'.cell? ⟨a, 1, none⟩ = some (.int .u64 h.k1) ∧ w'.cell? ⟨a, 2, none⟩ = some (.int .u64 h.mask) ∧ w'.cell? ⟨a, 3, none⟩ = some nil0 ∧ w'.cell? ⟨a, 4, none⟩ = some (str p.1) ∧ w'.cell? ⟨a, 5, none⟩ = some (.int .u64 x) ∧ w'.cell? ⟨c, 0, none⟩ = some (str q.1) ∧ w'.cell? ⟨c, 1, none⟩ = some (str q.2) ∧ w'.cell? ⟨b, 0, none⟩ = some (str p.1) ∧ w'.cell? ⟨b, 1, none⟩ = some (str p.2))
    (first | exact b3_of (b3_ext H3.out.1 k3.out) | exact b3_of (b3_ext H3.out.1 k2.out) | exact b3_of (b3_ext H3.out.1 (below_drewN (Ext.refl _) 1)))
    (first
      | (go_at_call 86; refine (HBO.out _ (H3.out.2.trans (below_drewN (Ext.refl _) 1))).mono ?_; rintro e x2 ⟨g2, rfl, N2, f2, s2⟩; have k2 : Hid (Ext wb x2) := Lib.hid (Ext.trans (below_drewN (Ext.refl _) 1) f2); have K2 := Lib.hid N2; clear N2 f2)
      | (go_at_call 19; refine (setKid_c x2 g i g2 sl (HN.out.ext (H3.out.2.trans k2.out)) hi32).mono ?_; rintro e x3 ⟨g3, rfl, N3, f3, s3⟩; have k3 : Hid (Ext wb x3) := Lib.hid (Ext.trans k2.out f3); have K3 := Lib.hid (And.intro N3 f3); clear N3 f3))
  repeat' (first | go_skip | go_guarded | go_step)
  go_ret3
  have hE := H3.out.2.trans k3.out
  refine ⟨g3, true, rfl, ?_, hE, fun e => absurd e HP.out.1, ⟨fun e => (by cases e), fun e => absurd e HP.out.1⟩⟩
  refine TR.put HR.out (by rw [HIL.out.2.1]; exact HIL.out.1.symm) HT.out hE K3.out.1 ?_
  rw [HQ.out.1]
  exact ⟨by rw [(two_rise (fun e => HP.out.2 e.symm)).2.1]; exact Nat.le_refl _, TR.ext K3.out.2 f K2.out⟩
end Go.Proofs.YtclcgelbcbnekaaDoor
