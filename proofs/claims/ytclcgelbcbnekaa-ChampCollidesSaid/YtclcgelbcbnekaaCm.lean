/- Contract: champ's drop. -/
import Derived.Test.YtclcgelbcbnekaaCl
set_option linter.unusedVariables false
set_option linter.unusedSimpArgs false
namespace Go.Proofs.Ytclcgelbcbnekaa
open Go.RowKit Go.QS Go.QS.Nk
set_option linter.unusedVariables false
variable [Zero (Nat → Prop)]
set_option linter.unusedSectionVars false

set_option maxRecDepth 100000 in
set_option maxHeartbeats 2000000 in
theorem cdrop_kid (h : Hs) (hk : h.Ok) (f : Nat) (w : World) (g : Nat) (l : List Pr) (k : List UInt8) (lv : Nat) (sl : List (Slot Nat)) (hlf : lv + (f + 1) = 13) (hN : In ND w g sl) (hT : ∀ c s, sl[c]? = some s → SlotOk (TR ND h.hash w f) s (Go.QS.part h.hash (12 - f) c l)) (hr : Rise l) (hpl : k.length ≤ 1000000) (i : Nat) (hi : i = chk (h.hash k) lv) (kd : Nat) (hs : sl[i]? = some (.kid kd)) (h9 : l.length ≤ 400000000) (ih : ∀ W, Ext w W → DropOk h f W kd (Go.QS.part h.hash (12 - f) i l) k (lv + 1)) : DropOk h (f + 1) w g l k lv := by
  unfold DropOk
  have hl12 : 12 - f = lv := by omega
  have hi32 : i < 32 := by rw [hi]; exact chk_lt _ _
  obtain ⟨l1, hl1⟩ : ∃ l1, l1 = lv + 1 := ⟨_, rfl⟩
  have e1 : (lv : Int) + 1 = (l1 : Int) := by omega
  have e2 : IntKind.i64.wrap (l1 : Int) = (l1 : Int) := IntWalk.i64_in _ (by omega)
  have HAt0 := fun W => at_c W (h.hash k) lv (Hs.hash_lt hk k) (by omega)
  rw [← hi] at HAt0
  have hi2 : i = chk (h.hash k) (12 - f) := by rw [hl12]; exact hi
  have HIL := Lib.hid (And.intro hi2 (And.intro hl12 hlf))
  have HN := Lib.hid hN
  have HT := Lib.hid hT
  have HR := Lib.hid hr
  have HS := Lib.hid hs
  have hQ : 2 ≤ (Go.QS.part h.hash (12 - f) i l).length := (hT i _ hs).1
  have hh : hasK (Go.QS.part h.hash (12 - f) i l) k = hasK l k := by rw [hi2]; exact part_has
  unfold DropOk at ih
  rw [← hl1, hh] at ih
  obtain ⟨th, hth⟩ : ∃ th, th = hasK l k := ⟨_, rfl⟩
  rw [← hth] at ih ⊢
  have HTH := Lib.hid hth
  obtain ⟨X, hX⟩ : ∃ X, X = rdrop (Go.QS.part h.hash (12 - f) i l) k := ⟨_, rfl⟩
  have hX1 : (Go.QS.part h.hash (12 - f) i l).length ≤ X.length + 1 := by rw [hX]; exact rdrop_len (part_rise hr) k
  have hX2 : X.length ≤ l.length := by rw [hX]; exact Nat.le_trans (rdrop_length _ _) part_length
  rw [← hX] at ih
  have HXX := Lib.hid hX
  clear hi hi2 hl12 hlf hN hT hr hl1 hs hh hth hX
  obtain ⟨x, hx⟩ : ∃ x, x = h.hash k := ⟨_, rfl⟩
  rw [← hx] at HAt0 ih ⊢
  have HAt := Lib.hid HAt0
  have IH := Lib.hid ih
  clear HAt0 ih
  have HX := Lib.hid hx
  clear hx
  obtain ⟨a, ha⟩ : ∃ a, a = w.heap.size := ⟨_, rfl⟩
  have HAB := Lib.hid (boxes1 w h k x ha)
  go_enter Try.func98, Try.ntmps98
  repeat' (first | go_at_call 58 | go_skip | go_guarded | go_step)
  rw [← ha]
  clear ha
  refine calls_named (fun w' => WkAt w' a h k x ∧ Ext w w') HAB.out ?_
  intro wa HW
  clear HAB
  refine (isb_c wa g false (isn_cell (HN.out.ext HW.out.2))).mono ?_
  rintro e w1 ⟨rfl, f1⟩
  have H1 : Hid (WkAt w1 a h k x ∧ Ext w w1) := Lib.hid ⟨HW.out.1.ext f1, HW.out.2.trans f1⟩
  clear f1 HW
  obtain ⟨h0, h1, h2, h3, h4, h5⟩ := H1.out.1.cells
  go_simp
  repeat' (first | go_at_call 141 | go_skip | go_guarded | go_step)
  refine (HAt.out _).mono ?_
  rintro e w1' ⟨rfl, rfl⟩
  clear HAt
  go_simp
  repeat' (first | go_at_call 21 | go_skip | go_guarded | go_step)
  have HPA : Calls Try.prog 21 #[ptr g, .int .i64 i] w1 fun e w' => e = .returned (.tuple #[.agg #[str [], str []], .bool false]) ∧ Ext w1 w' := pair_any w1 g i sl _ (HN.out.ext H1.out.2) HS.out
  refine HPA.mono ?_
  rintro e w2 ⟨rfl, f2⟩
  have H2 : Hid (WkAt (w2.alloc (.cells #[str [], str []] NP)) a h k x ∧ Ext w (w2.alloc (.cells #[str [], str []] NP))) := Lib.hid (by
    have fa : Ext w1 (w2.alloc (.cells #[str [], str []] NP)) := f2.trans ((Ext.refl _).alloc (Nat.le_refl _) _)
    exact ⟨H1.out.1.ext fa, H1.out.2.trans fa⟩)
  clear f2 H1 h0 h1 h2 h3 h4 h5 HPA
  go_simp
  repeat' (first | go_at_call 61 | go_skip | go_guarded | go_step)
  refine calls_named (fun w' => WkAt w' a h k x ∧ Ext w w') H2.out ?_
  intro wb H3
  clear H2
  obtain ⟨h0, h1, h2, h3, h4, h5⟩ := H3.out.1.cells
  refine (kid_yes wb g i sl kd (HN.out.ext H3.out.2) HS.out).mono ?_
  rintro e w4 ⟨rfl, f4⟩
  have H4 : Hid (WkAt w4 a h k x ∧ Ext w w4) := Lib.hid ⟨H3.out.1.ext f4, H3.out.2.trans f4⟩
  clear f4 h0 h1 h2 h3 h4 h5
  obtain ⟨h0, h1, h2, h3, h4, h5⟩ := H4.out.1.cells
  clear H3
  go_simp
  repeat' (first | go_at_call 98 | go_skip | go_guarded | go_step)
  refine (IH.out w4 H4.out.2).mono ?_
  rintro e w5 ⟨g5, rfl, R5, f5, s5⟩
  have HC := Lib.hid R5
  have H5 : Hid (WkAt w5 a h k x ∧ Ext w w5) := Lib.hid ⟨H4.out.1.ext f5, H4.out.2.trans f5⟩
  clear f5 h0 h1 h2 h3 h4 h5
  obtain ⟨h0, h1, h2, h3, h4, h5⟩ := H5.out.1.cells
  clear H4 R5 s5
  cases th with
  | false =>
    go_simp
    repeat' (first | go_skip | go_guarded | go_step)
    go_ret2
    exact ⟨g, rfl, by rw [rdrop_self HTH.out.symm]; exact ⟨sl, HN.out.ext H5.out.2, fun c s hs => (HT.out c s hs).mono fun _ hk => TR.ext H5.out.2 f hk⟩, H5.out.2, fun _ => rfl⟩
  | true =>
    have HAL := Lib.hid (alone_c h w5 f g5 X HC.out (by omega) (by omega))
    obtain ⟨d1, hd1⟩ : ∃ b, b = decide (X.length = 1) := ⟨_, rfl⟩
    obtain ⟨ap, hap⟩ : ∃ ap, ap = aloneP X := ⟨_, rfl⟩
    unfold aloneV at HAL
    rw [← hd1, ← hap] at HAL
    have HD := Lib.hid (And.intro hd1 hap)
    clear hd1 hap
    go_simp
    repeat' (first | go_at_call 144 | go_skip | go_guarded | go_step)
    refine HAL.out.mono ?_
    rintro e w6 ⟨rfl, f6⟩
    obtain ⟨c, hc⟩ : ∃ c, c = w6.heap.size := ⟨_, rfl⟩
    have H6 : Hid ((WkAt (w6.alloc (.cells #[str ap.1, str ap.2] NP)) a h k x ∧ PrAt (w6.alloc (.cells #[str ap.1, str ap.2] NP)) c ap) ∧ Ext w (w6.alloc (.cells #[str ap.1, str ap.2] NP)) ∧ Ext w5 (w6.alloc (.cells #[str ap.1, str ap.2] NP))) := Lib.hid (by
      have fa : Ext w5 (w6.alloc (.cells #[str ap.1, str ap.2] NP)) := f6.trans ((Ext.refl _).alloc (Nat.le_refl _) _)
      exact ⟨⟨H5.out.1.ext fa, by rw [hc]; exact PrAt.new w6 ap⟩, H5.out.2.trans fa, fa⟩)
    clear f6 H5 h0 h1 h2 h3 h4 h5 HAL
    go_simp
    repeat' (go_not_at_region 19; (first | go_skip | go_guarded | go_step))
    rw [← hc]
    clear hc
    refine wp_named (fun w' => (WkAt w' a h k x ∧ PrAt w' c ap) ∧ Ext w w' ∧ Ext w5 w') H6.out ?_
    intro wc H7
    clear H6
    obtain ⟨h0, h1, h2, h3, h4, h5⟩ := H7.out.1.1.cells
    obtain ⟨q0, q1⟩ := H7.out.1.2.cells
    cases d1 with
    | true =>
      repeat' (first | go_at_call 16 | go_skip | go_guarded | go_step)
      refine (setPair_c wc g i sl ap (HN.out.ext H7.out.2.1) hi32).mono ?_
      rintro e w8 ⟨g8, rfl, N8, f8, s8⟩
      have H8 := Lib.hid (And.intro N8 f8)
      clear N8 f8
      go_simp
      repeat' (first | go_skip | go_guarded | go_step)
      go_ret2
      have hE := H7.out.2.1.trans H8.out.2
      refine ⟨g8, rfl, ?_, hE, fun e => by cases e⟩
      refine TR.drop HIL.out.1.symm HT.out hE H8.out.1 ?_
      rw [← HXX.out]
      show X = [ap]
      have h1 : X.length = 1 := of_decide_eq_true HD.out.1.symm
      obtain ⟨q, hq⟩ := List.length_eq_one_iff.1 h1
      rw [HD.out.2, aloneP, if_pos h1, hq]
      rfl
    | false =>
      repeat' (first | go_at_call 40 | go_skip | go_guarded | go_step)
      refine (setKid_c wc g i g5 sl (HN.out.ext H7.out.2.1) hi32).mono ?_
      rintro e w8 ⟨g8, rfl, N8, f8, s8⟩
      have H8 := Lib.hid (And.intro N8 f8)
      clear N8 f8
      go_simp
      repeat' (first | go_skip | go_guarded | go_step)
      go_ret2
      have hE := H7.out.2.1.trans H8.out.2
      refine ⟨g8, rfl, ?_, hE, fun e => by cases e⟩
      refine TR.drop HIL.out.1.symm HT.out hE H8.out.1 ?_
      rw [← HXX.out]
      have h1 : ¬ X.length = 1 := of_decide_eq_false HD.out.1.symm
      exact ⟨by omega, TR.ext (H7.out.2.2.trans H8.out.2) f HC.out⟩

theorem dropk_c (h : Hs) (hk : h.Ok) : ∀ (f : Nat) (w : World) (g : Nat) (l : List Pr) (k : List UInt8) (lv : Nat), lv + f = 13 → TR ND h.hash w f g l → Rise l → l.length ≤ 400000000 → k.length ≤ 1000000 → DropOk h f w g l k lv
  | 0, w, g, l, k, lv, _, hT, hr, h9, _ => cdrop_bk h hk w g l k lv hT hr h9
  | f + 1, w, g, l, k, lv, hl, ⟨sl, hN, hT⟩, hr, h9, hk9 => by
    obtain ⟨s, hs⟩ := get_of_lt sl (show chk (h.hash k) lv < sl.length by rw [hN.1]; exact chk_lt _ _)
    have ok := hT _ s hs
    cases s with
    | no => exact cdrop_no h hk f w g l k lv sl hl hN hT hr hk9 _ rfl hs
    | pr q =>
      by_cases e : q.1 = k
      · exact cdrop_clear h hk f w g l k lv sl hl hN hT hr hk9 _ rfl q e hs
      · exact cdrop_stay h hk f w g l k lv sl hl hN hT hr hk9 _ rfl q e hs
    | kid kd =>
      refine cdrop_kid h hk f w g l k lv sl hl hN hT hr hk9 _ rfl kd hs h9 fun W hW => ?_
      exact dropk_c h hk f W kd _ k (lv + 1) (by omega) (TR.ext hW f ok.2) (part_rise hr) (Nat.le_trans part_length h9) hk9
end Go.Proofs.Ytclcgelbcbnekaa
