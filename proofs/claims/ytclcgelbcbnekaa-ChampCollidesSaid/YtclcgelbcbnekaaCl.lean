/- Contracts: champ's drop, case by case. -/
import Derived.Test.YtclcgelbcbnekaaCk
import Derived.Test.YtclcgelbcbnekaaCi
set_option linter.unusedVariables false
set_option linter.unusedSimpArgs false
namespace Go.Proofs.Ytclcgelbcbnekaa
open Go.RowKit Go.QS Go.QS.Nk
set_option linter.unusedVariables false
variable [Zero (Nat → Prop)]
set_option linter.unusedSectionVars false

/-- What drop owes. -/
def DropOk (h : Hs) (f : Nat) (w : World) (g : Nat) (l : List Pr) (k : List UInt8) (lv : Nat) : Prop :=
  Calls Try.prog 98 #[wkV h k (h.hash k), ptr g, .int .i64 lv] w fun e w' => ∃ g', e = .returned (.tuple #[ptr g', .bool (hasK l k)]) ∧ TR ND h.hash w' f g' (rdrop l k) ∧ Ext w w' ∧ (hasK l k = false → g' = g)
theorem boxes1 (w : World) (h : Hs) (k : List UInt8) (x : Nat) {a : Nat} (ha : a = w.heap.size) : WkAt (w.alloc (.cells #[.int .u64 h.k0, .int .u64 h.k1, .int .u64 h.mask, nil0, str k, .int .u64 x] WK)) a h k x ∧ Ext w (w.alloc (.cells #[.int .u64 h.k0, .int .u64 h.k1, .int .u64 h.mask, nil0, str k, .int .u64 x] WK)) := by
  refine ⟨?_, (Ext.refl w).alloc (Nat.le_refl _) _⟩
  rw [ha]; exact WkAt.new w h k x
theorem rdrop_len {l : List Pr} (h : Rise l) (k : List UInt8) : l.length ≤ (rdrop l k).length + 1 := by
  cases hb : hasK l k with
  | false => rw [rdrop_self hb]; omega
  | true =>
    rw [rdrop_cut h hb]
    have := fndI_le l k
    simp only [List.length_append, List.length_take, List.length_drop]
    omega
theorem slot_drop {H : List UInt8 → Nat} {lv : Nat} {l : List Pr} {k : List UInt8} {q : Pr} {i : Nat} (hi : i = chk (H k) lv) (h1 : Go.QS.part H lv i l = [q]) : (hasK l k = true ↔ q.1 = k) := by
  rw [← part_has (H := H) (lv := lv), ← hi, h1]; simp [hasK]

set_option maxRecDepth 100000 in
set_option maxHeartbeats 1000000 in
theorem cdrop_bk (h : Hs) (hk : h.Ok) (w : World) (g : Nat) (l : List Pr) (k : List UInt8) (lv : Nat) (hT : Bk ND w g l) (hr : Rise l) (h9 : l.length ≤ 400000000) : DropOk h 0 w g l k lv := by
  unfold DropOk
  have HT := Lib.hid hT
  have HR := Lib.hid hr
  obtain ⟨th, hth⟩ : ∃ th, th = hasK l k := ⟨_, rfl⟩
  rw [← hth]
  have HTH := Lib.hid hth
  clear hT hr hth
  obtain ⟨x, hx⟩ : ∃ x, x = h.hash k := ⟨_, rfl⟩
  rw [← hx]
  have HX := Lib.hid hx
  clear hx
  obtain ⟨a, ha⟩ : ∃ a, a = w.heap.size := ⟨_, rfl⟩
  have HAB := Lib.hid (boxes1 w h k x ha)
  go_enter Try.func98, Try.ntmps98
  repeat' (first | go_at_call 58 | go_skip | go_guarded | go_step)
  rw [← ha]
  clear ha
  refine calls_named (fun w' => WkAt w' a h k x ∧ Ext w w') HAB.out ?_
  intro wa HW
  clear HAB
  refine (isb_c wa g true (isb_cell (HT.out.ext HW.out.2))).mono ?_
  rintro e w1 ⟨rfl, f1⟩
  have H1 : Hid (WkAt w1 a h k x ∧ Ext w w1) := Lib.hid ⟨HW.out.1.ext f1, HW.out.2.trans f1⟩
  clear f1 HW
  obtain ⟨h0, h1, h2, h3, h4, h5⟩ := H1.out.1.cells
  go_simp
  repeat' (first | go_at_call 140 | go_skip | go_guarded | go_step)
  have HIN := Lib.hid (in_c w1 g l k (HT.out.ext H1.out.2) HR.out h9)
  rw [← HTH.out] at HIN
  refine HIN.out.mono ?_
  rintro e w2 ⟨rfl, f2⟩
  have H2 : Hid (WkAt w2 a h k x ∧ Ext w w2) := Lib.hid ⟨H1.out.1.ext f2, H1.out.2.trans f2⟩
  clear f2 h0 h1 h2 h3 h4 h5
  obtain ⟨h0, h1, h2, h3, h4, h5⟩ := H2.out.1.cells
  clear H1 HIN
  go_simp
  cases th with
  | false =>
    repeat' (first | go_skip | go_guarded | go_step)
    go_ret2
    exact ⟨g, rfl, by rw [rdrop_self HTH.out.symm]; exact HT.out.ext H2.out.2, H2.out.2, fun _ => rfl⟩
  | true =>
    have HB := Lib.hid (bdrop_c w2 g l k (HT.out.ext H2.out.2) HR.out h9)
    repeat' (first | go_at_call 43 | go_skip | go_guarded | go_step)
    refine HB.out.mono ?_
    rintro e w3 ⟨g3, rfl, B3, f3, s3⟩
    have H3 := Lib.hid (And.intro B3 f3)
    clear B3 f3
    go_simp
    repeat' (first | go_skip | go_guarded | go_step)
    go_ret2
    exact ⟨g3, rfl, H3.out.1, H2.out.2.trans H3.out.2, fun e => by cases e⟩

set_option maxRecDepth 100000 in
set_option maxHeartbeats 1000000 in
theorem cdrop_stay (h : Hs) (hk : h.Ok) (f : Nat) (w : World) (g : Nat) (l : List Pr) (k : List UInt8) (lv : Nat) (sl : List (Slot Nat)) (hlf : lv + (f + 1) = 13) (hN : In ND w g sl) (hT : ∀ c s, sl[c]? = some s → SlotOk (TR ND h.hash w f) s (Go.QS.part h.hash (12 - f) c l)) (hr : Rise l) (hpl : k.length ≤ 1000000) (i : Nat) (hi : i = chk (h.hash k) lv) (q : Pr) (hqk : q.1 ≠ k) (hs : sl[i]? = some (.pr q)) : DropOk h (f + 1) w g l k lv := by
  unfold DropOk
  have hl12 : 12 - f = lv := by omega
  have hi32 : i < 32 := by rw [hi]; exact chk_lt _ _
  obtain ⟨l1, hl1⟩ : ∃ l1, l1 = lv + 1 := ⟨_, rfl⟩
  have e1 : (lv : Int) + 1 = (l1 : Int) := by omega
  have e2 : IntKind.i64.wrap (l1 : Int) = (l1 : Int) := IntWalk.i64_in _ (by omega)
  have HAt0 := fun W => at_c W (h.hash k) lv (Hs.hash_lt hk k) (by omega)
  rw [← hi] at HAt0
  have hi2 : i = chk (h.hash k) (12 - f) := by rw [hl12]; exact hi
  have HIL := Lib.hid (And.intro hi2 (And.intro hl12 hlf))
  have HN := Lib.hid hN
  have HT := Lib.hid hT
  have HR := Lib.hid hr
  have HS := Lib.hid hs
  have hQ : Go.QS.part h.hash (12 - f) i l = [q] := hT i _ hs
  have hK : hasK l k = false := by rw [Bool.eq_false_iff]; exact fun e => hqk ((slot_drop hi2 hQ).1 e)
  rw [hK]
  have HK := Lib.hid hK
  have hd2 : decide (bs q.1 = bs k) = false := by rw [decide_eq_false_iff_not]; intro e; exact hqk (bs_inj e)
  have hd3 : (q.1 == k) = false := by rw [beq_eq_false_iff_ne]; exact hqk
  clear hi hi2 hl12 hlf hN hT hr hl1 hs hQ hK hqk
  obtain ⟨x, hx⟩ : ∃ x, x = h.hash k := ⟨_, rfl⟩
  rw [← hx] at HAt0 ⊢
  have HAt := Lib.hid HAt0
  clear HAt0
  have HX := Lib.hid hx
  clear hx
  obtain ⟨a, ha⟩ : ∃ a, a = w.heap.size := ⟨_, rfl⟩
  have HAB := Lib.hid (boxes1 w h k x ha)
  go_enter Try.func98, Try.ntmps98
  repeat' (first | go_at_call 58 | go_skip | go_guarded | go_step)
  rw [← ha]
  clear ha
  refine calls_named (fun w' => WkAt w' a h k x ∧ Ext w w') HAB.out ?_
  intro wa HW
  clear HAB
  refine (isb_c wa g false (isn_cell (HN.out.ext HW.out.2))).mono ?_
  rintro e w1 ⟨rfl, f1⟩
  have H1 : Hid (WkAt w1 a h k x ∧ Ext w w1) := Lib.hid ⟨HW.out.1.ext f1, HW.out.2.trans f1⟩
  clear f1 HW
  obtain ⟨h0, h1, h2, h3, h4, h5⟩ := H1.out.1.cells
  go_simp
  repeat' (first | go_at_call 141 | go_skip | go_guarded | go_step)
  refine (HAt.out _).mono ?_
  rintro e w1' ⟨rfl, rfl⟩
  clear HAt
  go_simp
  repeat' (first | go_at_call 21 | go_skip | go_guarded | go_step)
  refine (pair_yes w1 g i sl q (HN.out.ext H1.out.2) HS.out).mono ?_
  rintro e w2 ⟨rfl, f2⟩
  obtain ⟨c, hc⟩ : ∃ c, c = w2.heap.size := ⟨_, rfl⟩
  have H2 : Hid ((WkAt (w2.alloc (.cells #[str q.1, str q.2] NP)) a h k x ∧ PrAt (w2.alloc (.cells #[str q.1, str q.2] NP)) c q) ∧ Ext w (w2.alloc (.cells #[str q.1, str q.2] NP))) := Lib.hid (by
    have fa : Ext w1 (w2.alloc (.cells #[str q.1, str q.2] NP)) := f2.trans ((Ext.refl _).alloc (Nat.le_refl _) _)
    exact ⟨⟨H1.out.1.ext fa, by rw [hc]; exact PrAt.new w2 q⟩, H1.out.2.trans fa⟩)
  clear f2 H1 h0 h1 h2 h3 h4 h5
  go_simp
  repeat' (go_not_at_region 9; (first | go_skip | go_guarded | go_step))
  rw [← hc]
  clear hc
  refine wp_named (fun w' => (WkAt w' a h k x ∧ PrAt w' c q) ∧ Ext w w') H2.out ?_
  intro wb H3
  clear H2
  obtain ⟨h0, h1, h2, h3, h4, h5⟩ := H3.out.1.1.cells
  obtain ⟨q0, q1⟩ := H3.out.1.2.cells
  repeat' (first | go_skip | go_guarded | go_step)
  go_ret2
  exact ⟨g, rfl, by rw [rdrop_self HK.out]; exact ⟨sl, HN.out.ext H3.out.2, fun c s hs => (HT.out c s hs).mono fun _ hk => TR.ext H3.out.2 f hk⟩, H3.out.2, fun _ => rfl⟩

set_option maxRecDepth 100000 in
set_option maxHeartbeats 1000000 in
theorem cdrop_clear (h : Hs) (hk : h.Ok) (f : Nat) (w : World) (g : Nat) (l : List Pr) (k : List UInt8) (lv : Nat) (sl : List (Slot Nat)) (hlf : lv + (f + 1) = 13) (hN : In ND w g sl) (hT : ∀ c s, sl[c]? = some s → SlotOk (TR ND h.hash w f) s (Go.QS.part h.hash (12 - f) c l)) (hr : Rise l) (hpl : k.length ≤ 1000000) (i : Nat) (hi : i = chk (h.hash k) lv) (q : Pr) (hqk : q.1 = k) (hs : sl[i]? = some (.pr q)) : DropOk h (f + 1) w g l k lv := by
  unfold DropOk
  have hl12 : 12 - f = lv := by omega
  have hi32 : i < 32 := by rw [hi]; exact chk_lt _ _
  obtain ⟨l1, hl1⟩ : ∃ l1, l1 = lv + 1 := ⟨_, rfl⟩
  have e1 : (lv : Int) + 1 = (l1 : Int) := by omega
  have e2 : IntKind.i64.wrap (l1 : Int) = (l1 : Int) := IntWalk.i64_in _ (by omega)
  have HAt0 := fun W => at_c W (h.hash k) lv (Hs.hash_lt hk k) (by omega)
  rw [← hi] at HAt0
  have hi2 : i = chk (h.hash k) (12 - f) := by rw [hl12]; exact hi
  have HIL := Lib.hid (And.intro hi2 (And.intro hl12 hlf))
  have HN := Lib.hid hN
  have HT := Lib.hid hT
  have HR := Lib.hid hr
  have HS := Lib.hid hs
  have hQ : Go.QS.part h.hash (12 - f) i l = [q] := hT i _ hs
  have hK : hasK l k = true := (slot_drop hi2 hQ).2 hqk
  rw [hK]
  have HK := Lib.hid (And.intro hK (And.intro hQ hqk))
  have hd2 : decide (bs q.1 = bs k) = true := by rw [hqk]; simp
  have hd3 : (q.1 == k) = true := by rw [hqk]; simp
  clear hi hi2 hl12 hlf hN hT hr hl1 hs hQ hK hqk
  obtain ⟨x, hx⟩ : ∃ x, x = h.hash k := ⟨_, rfl⟩
  rw [← hx] at HAt0 ⊢
  have HAt := Lib.hid HAt0
  clear HAt0
  have HX := Lib.hid hx
  clear hx
  obtain ⟨a, ha⟩ : ∃ a, a = w.heap.size := ⟨_, rfl⟩
  have HAB := Lib.hid (boxes1 w h k x ha)
  go_enter Try.func98, Try.ntmps98
  repeat' (first | go_at_call 58 | go_skip | go_guarded | go_step)
  rw [← ha]
  clear ha
  refine calls_named (fun w' => WkAt w' a h k x ∧ Ext w w') HAB.out ?_
  intro wa HW
  clear HAB
  refine (isb_c wa g false (isn_cell (HN.out.ext HW.out.2))).mono ?_
  rintro e w1 ⟨rfl, f1⟩
  have H1 : Hid (WkAt w1 a h k x ∧ Ext w w1) := Lib.hid ⟨HW.out.1.ext f1, HW.out.2.trans f1⟩
  clear f1 HW
  obtain ⟨h0, h1, h2, h3, h4, h5⟩ := H1.out.1.cells
  go_simp
  repeat' (first | go_at_call 141 | go_skip | go_guarded | go_step)
  refine (HAt.out _).mono ?_
  rintro e w1' ⟨rfl, rfl⟩
  clear HAt
  go_simp
  repeat' (first | go_at_call 21 | go_skip | go_guarded | go_step)
  refine (pair_yes w1 g i sl q (HN.out.ext H1.out.2) HS.out).mono ?_
  rintro e w2 ⟨rfl, f2⟩
  obtain ⟨c, hc⟩ : ∃ c, c = w2.heap.size := ⟨_, rfl⟩
  have H2 : Hid ((WkAt (w2.alloc (.cells #[str q.1, str q.2] NP)) a h k x ∧ PrAt (w2.alloc (.cells #[str q.1, str q.2] NP)) c q) ∧ Ext w (w2.alloc (.cells #[str q.1, str q.2] NP))) := Lib.hid (by
    have fa : Ext w1 (w2.alloc (.cells #[str q.1, str q.2] NP)) := f2.trans ((Ext.refl _).alloc (Nat.le_refl _) _)
    exact ⟨⟨H1.out.1.ext fa, by rw [hc]; exact PrAt.new w2 q⟩, H1.out.2.trans fa⟩)
  clear f2 H1 h0 h1 h2 h3 h4 h5
  go_simp
  repeat' (go_not_at_region 9; (first | go_skip | go_guarded | go_step))
  rw [← hc]
  clear hc
  refine wp_named (fun w' => (WkAt w' a h k x ∧ PrAt w' c q) ∧ Ext w w') H2.out ?_
  intro wb H3
  clear H2
  obtain ⟨h0, h1, h2, h3, h4, h5⟩ := H3.out.1.1.cells
  obtain ⟨q0, q1⟩ := H3.out.1.2.cells
  repeat' (first | go_at_call 19 | go_skip | go_guarded | go_step)
  refine (clear_c wb g i sl (HN.out.ext H3.out.2) hi32).mono ?_
  rintro e w4 ⟨g4, rfl, N4, f4, s4⟩
  have H4 := Lib.hid (And.intro N4 f4)
  clear N4 f4
  go_simp
  repeat' (first | go_skip | go_guarded | go_step)
  go_ret2
  have hE := H3.out.2.trans H4.out.2
  refine ⟨g4, rfl, ?_, hE, fun e => by cases e⟩
  refine TR.drop HIL.out.1.symm HT.out hE H4.out.1 ?_
  show rdrop (Go.QS.part h.hash (12 - f) i l) k = []
  rw [HK.out.2.1]
  simp [rdrop, HK.out.2.2]

set_option maxRecDepth 100000 in
set_option maxHeartbeats 1000000 in
theorem cdrop_no (h : Hs) (hk : h.Ok) (f : Nat) (w : World) (g : Nat) (l : List Pr) (k : List UInt8) (lv : Nat) (sl : List (Slot Nat)) (hlf : lv + (f + 1) = 13) (hN : In ND w g sl) (hT : ∀ c s, sl[c]? = some s → SlotOk (TR ND h.hash w f) s (Go.QS.part h.hash (12 - f) c l)) (hr : Rise l) (hpl : k.length ≤ 1000000) (i : Nat) (hi : i = chk (h.hash k) lv) (hs : sl[i]? = some .no) : DropOk h (f + 1) w g l k lv := by
  unfold DropOk
  have hl12 : 12 - f = lv := by omega
  have hi32 : i < 32 := by rw [hi]; exact chk_lt _ _
  obtain ⟨l1, hl1⟩ : ∃ l1, l1 = lv + 1 := ⟨_, rfl⟩
  have e1 : (lv : Int) + 1 = (l1 : Int) := by omega
  have e2 : IntKind.i64.wrap (l1 : Int) = (l1 : Int) := IntWalk.i64_in _ (by omega)
  have HAt0 := fun W => at_c W (h.hash k) lv (Hs.hash_lt hk k) (by omega)
  rw [← hi] at HAt0
  have hi2 : i = chk (h.hash k) (12 - f) := by rw [hl12]; exact hi
  have HIL := Lib.hid (And.intro hi2 (And.intro hl12 hlf))
  have HN := Lib.hid hN
  have HT := Lib.hid hT
  have HR := Lib.hid hr
  have HS := Lib.hid hs
  have hQ : Go.QS.part h.hash (12 - f) i l = [] := hT i _ hs
  have hK : hasK l k = false := by rw [← part_has (H := h.hash) (lv := 12 - f), ← hi2, hQ]; rfl
  rw [hK]
  have HK := Lib.hid hK
  clear hi hi2 hl12 hlf hN hT hr hl1 hs hQ hK
  obtain ⟨x, hx⟩ : ∃ x, x = h.hash k := ⟨_, rfl⟩
  rw [← hx] at HAt0 ⊢
  have HAt := Lib.hid HAt0
  clear HAt0
  have HX := Lib.hid hx
  clear hx
  obtain ⟨a, ha⟩ : ∃ a, a = w.heap.size := ⟨_, rfl⟩
  have HAB := Lib.hid (boxes1 w h k x ha)
  go_enter Try.func98, Try.ntmps98
  repeat' (first | go_at_call 58 | go_skip | go_guarded | go_step)
  rw [← ha]
  clear ha
  refine calls_named (fun w' => WkAt w' a h k x ∧ Ext w w') HAB.out ?_
  intro wa HW
  clear HAB
  refine (isb_c wa g false (isn_cell (HN.out.ext HW.out.2))).mono ?_
  rintro e w1 ⟨rfl, f1⟩
  have H1 : Hid (WkAt w1 a h k x ∧ Ext w w1) := Lib.hid ⟨HW.out.1.ext f1, HW.out.2.trans f1⟩
  clear f1 HW
  obtain ⟨h0, h1, h2, h3, h4, h5⟩ := H1.out.1.cells
  go_simp
  repeat' (first | go_at_call 141 | go_skip | go_guarded | go_step)
  refine (HAt.out _).mono ?_
  rintro e w1' ⟨rfl, rfl⟩
  clear HAt
  go_simp
  repeat' (first | go_at_call 21 | go_skip | go_guarded | go_step)
  have HPA : Calls Try.prog 21 #[ptr g, .int .i64 i] w1 fun e w' => e = .returned (.tuple #[.agg #[str [], str []], .bool false]) ∧ Ext w1 w' := pair_any w1 g i sl _ (HN.out.ext H1.out.2) HS.out
  refine HPA.mono ?_
  rintro e w2 ⟨rfl, f2⟩
  have H2 : Hid (WkAt (w2.alloc (.cells #[str [], str []] NP)) a h k x ∧ Ext w (w2.alloc (.cells #[str [], str []] NP))) := Lib.hid (by
    have fa : Ext w1 (w2.alloc (.cells #[str [], str []] NP)) := f2.trans ((Ext.refl _).alloc (Nat.le_refl _) _)
    exact ⟨H1.out.1.ext fa, H1.out.2.trans fa⟩)
  clear f2 H1 h0 h1 h2 h3 h4 h5 HPA
  go_simp
  repeat' (first | go_at_call 61 | go_skip | go_guarded | go_step)
  refine calls_named (fun w' => WkAt w' a h k x ∧ Ext w w') H2.out ?_
  intro wb H3
  clear H2
  obtain ⟨h0, h1, h2, h3, h4, h5⟩ := H3.out.1.cells
  refine (kid_no wb g i sl _ (HN.out.ext H3.out.2) HS.out rfl).mono ?_
  rintro e w4 ⟨rfl, f4⟩
  have H4 : Hid (WkAt w4 a h k x ∧ Ext w w4) := Lib.hid ⟨H3.out.1.ext f4, H3.out.2.trans f4⟩
  clear f4 h0 h1 h2 h3 h4 h5
  obtain ⟨h0, h1, h2, h3, h4, h5⟩ := H4.out.1.cells
  go_simp
  repeat' (first | go_skip | go_guarded | go_step)
  go_ret2
  exact ⟨g, rfl, by rw [rdrop_self HK.out]; exact ⟨sl, HN.out.ext H4.out.2, fun c s hs => (HT.out c s hs).mono fun _ hk => TR.ext H4.out.2 f hk⟩, H4.out.2, fun _ => rfl⟩
end Go.Proofs.Ytclcgelbcbnekaa
