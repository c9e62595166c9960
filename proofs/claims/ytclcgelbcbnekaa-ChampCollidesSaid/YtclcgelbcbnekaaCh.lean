/- Contracts: champ's put, case by case. -/
import Derived.Test.YtclcgelbcbnekaaCg
set_option linter.unusedVariables false
set_option linter.unusedSimpArgs false
namespace Go.Proofs.Ytclcgelbcbnekaa
open Go.RowKit Go.QS Go.QS.Nk
set_option linter.unusedVariables false
variable [Zero (Nat → Prop)]
set_option linter.unusedSectionVars false

theorem calls_named {P : Program} {f : Nat} {args : Array Value} {Q : Ending → World → Prop} {W : World} (R : World → Prop) (hR : R W) (h : ∀ w', Hid (R w') → Calls P f args w' Q) : Calls P f args W Q := h W (Lib.hid hR)
theorem eqPr (w : World) (p q : Pr) : (binOp .eql 36 (.agg #[str p.1, str p.2]) (.agg #[str q.1, str q.2])).run Try.prog w = .ok (.bool (decide (p = q))) w := by
  obtain ⟨a, b⟩ := p
  obtain ⟨c, d⟩ := q
  simp only [go_sem]
  by_cases h1 : a = c <;> by_cases h2 : b = d <;> simp [h1, h2, go_sem]
/-- What put owes. -/
def PutOk (h : Hs) (f : Nat) (w : World) (g : Nat) (l : List Pr) (p : Pr) (lv : Nat) : Prop :=
  Calls Try.prog 96 #[wkV h p.1 (h.hash p.1), ptr g, prV p, .int .i64 lv] w fun e w' => ∃ g' ch, e = .returned (.tuple #[ptr g', .bool (!hasK l p.1), .bool ch]) ∧ TR ND h.hash w' f g' (rput l p) ∧ Ext w w' ∧ (p ∈ l → g' = g) ∧ (ch = false ↔ p ∈ l)
theorem boxes2 (w : World) (h : Hs) (p : Pr) (k : List UInt8) (x : Nat) {a b : Nat} (ha : a = w.heap.size) (hb : b = a + 1) : (WkAt ((w.alloc (.cells #[.int .u64 h.k0, .int .u64 h.k1, .int .u64 h.mask, nil0, str k, .int .u64 x] WK)).alloc (.cells #[str p.1, str p.2] NP)) a h k x ∧ PrAt ((w.alloc (.cells #[.int .u64 h.k0, .int .u64 h.k1, .int .u64 h.mask, nil0, str k, .int .u64 x] WK)).alloc (.cells #[str p.1, str p.2] NP)) b p) ∧ Ext w ((w.alloc (.cells #[.int .u64 h.k0, .int .u64 h.k1, .int .u64 h.mask, nil0, str k, .int .u64 x] WK)).alloc (.cells #[str p.1, str p.2] NP)) := by
  refine ⟨⟨?_, ?_⟩, ((Ext.refl w).alloc (Nat.le_refl _) _).alloc (by simp) _⟩
  · rw [ha]; exact (WkAt.new w h k x).ext ((Ext.refl _).alloc (Nat.le_refl _) _)
  · have := PrAt.new (w.alloc (.cells #[.int .u64 h.k0, .int .u64 h.k1, .int .u64 h.mask, nil0, str k, .int .u64 x] WK)) p
    rw [show b = (w.alloc (.cells #[.int .u64 h.k0, .int .u64 h.k1, .int .u64 h.mask, nil0, str k, .int .u64 x] WK)).heap.size by rw [hb, ha]; simp]
    exact this
theorem mem_get {l : List Pr} {p : Pr} (h : Rise l) : p ∈ l ↔ (hasK l p.1 = true ∧ (getL p.1 l).getD [] = p.2) := by
  rw [← getL_has h p.1]
  constructor
  · intro hp
    have e : getL p.1 l = some p.2 := (getL_iff h).2 hp
    rw [e]; exact ⟨rfl, rfl⟩
  · rintro ⟨h1, h2⟩
    obtain ⟨v, hv⟩ := Option.isSome_iff_exists.1 h1
    rw [hv] at h2
    have := (getL_iff h).1 hv
    have e : v = p.2 := h2
    rw [e] at this
    exact this
theorem isb_cell {w : World} {g : Nat} {l : List Pr} (h : Bk ND w g l) : w.cell? ⟨g, 4, none⟩ = some (.bool true) := by
  obtain ⟨_, _, _, nd⟩ := h
  exact nd.node.cells.2.2.2.2.1
theorem isn_cell {w : World} {g : Nat} {sl : List (Slot Nat)} (h : In ND w g sl) : w.cell? ⟨g, 4, none⟩ = some (.bool false) := by
  obtain ⟨_, _, _, _, nd⟩ := h
  exact nd.node.cells.2.2.2.2.1

set_option maxRecDepth 100000 in
set_option maxHeartbeats 1000000 in
theorem put_bk (h : Hs) (hk : h.Ok) (w : World) (g : Nat) (l : List Pr) (p : Pr) (lv : Nat) (hT : Bk ND w g l) (hr : Rise l) (h9 : l.length ≤ 400000000) : PutOk h 0 w g l p lv := by
  unfold PutOk
  obtain ⟨x, hx⟩ : ∃ x, x = h.hash p.1 := ⟨_, rfl⟩
  rw [← hx]
  have hx64 : x < 18446744073709551616 := by rw [hx]; exact Hs.hash_lt hk p.1
  have HX := Lib.hid hx
  clear hx
  have HT := Lib.hid hT
  have HR := Lib.hid hr
  have HS : Hid (p ∈ l ↔ (hasK l p.1 = true ∧ (getL p.1 l).getD [] = p.2)) := Lib.hid (mem_get hr)
  obtain ⟨th, hth⟩ : ∃ th, th = hasK l p.1 := ⟨_, rfl⟩
  obtain ⟨u, hu⟩ : ∃ u, u = (getL p.1 l).getD [] := ⟨_, rfl⟩
  rw [← hth]
  rw [← hth, ← hu] at HS
  have HTU := Lib.hid (And.intro hth hu)
  clear hT hr hth hu
  obtain ⟨a, ha⟩ : ∃ a, a = w.heap.size := ⟨_, rfl⟩
  obtain ⟨b, hb⟩ : ∃ b, b = a + 1 := ⟨_, rfl⟩
  have HAB := Lib.hid (boxes2 w h p p.1 x ha hb)
  go_enter Try.func96, Try.ntmps96
  repeat' (first | go_at_call 58 | go_skip | go_guarded | go_step)
  rw [← ha, ← hb]
  clear ha hb
  refine calls_named (fun w' => (WkAt w' a h p.1 x ∧ PrAt w' b p) ∧ Ext w w') HAB.out ?_
  intro wa HW
  clear HAB
  refine (isb_c wa g true (isb_cell (HT.out.ext HW.out.2))).mono ?_
  rintro e w1 ⟨rfl, f1⟩
  have H1 : Hid ((WkAt w1 a h p.1 x ∧ PrAt w1 b p) ∧ Ext w w1) := Lib.hid ⟨⟨HW.out.1.1.ext f1, HW.out.1.2.ext f1⟩, HW.out.2.trans f1⟩
  clear f1 HW
  obtain ⟨h0, h1, h2, h3, h4, h5⟩ := H1.out.1.1.cells
  obtain ⟨p0, p1⟩ := H1.out.1.2.cells
  go_simp
  repeat' (first | go_at_call 140 | go_skip | go_guarded | go_step)
  have HIN := Lib.hid (in_c w1 g l p.1 (HT.out.ext H1.out.2) HR.out h9)
  rw [← HTU.out.1, ← HTU.out.2] at HIN
  refine HIN.out.mono ?_
  rintro e w2 ⟨rfl, f2⟩
  have H2 : Hid ((WkAt w2 a h p.1 x ∧ PrAt w2 b p) ∧ Ext w w2) := Lib.hid ⟨⟨H1.out.1.1.ext f2, H1.out.1.2.ext f2⟩, H1.out.2.trans f2⟩
  clear f2 H1 h0 h1 h2 h3 h4 h5 p0 p1 HIN
  obtain ⟨h0, h1, h2, h3, h4, h5⟩ := H2.out.1.1.cells
  obtain ⟨p0, p1⟩ := H2.out.1.2.cells
  go_simp
  by_cases hs : th = true ∧ u = p.2
  · obtain ⟨rfl, hup⟩ := hs
    subst hup
    repeat' (first | go_skip | go_guarded | go_step)
    go_ret3
    have hm : p ∈ l := HS.out.2 ⟨rfl, rfl⟩
    exact ⟨g, false, rfl, by rw [rput_self HR.out hm]; exact HT.out.ext H2.out.2, H2.out.2, fun _ => rfl, ⟨fun _ => hm, fun _ => rfl⟩⟩
  · have hm : ¬ p ∈ l := fun e => hs (HS.out.1 e)
    have HB := Lib.hid (bput_c w2 g l p (HT.out.ext H2.out.2) HR.out h9)
    cases th with
    | true =>
      have hup : (u == p.2) = false := by rw [beq_eq_false_iff_ne]; exact fun e => hs ⟨rfl, e⟩
      have hup2 : decide (bs u = bs p.2) = false := by rw [decide_eq_false_iff_not]; intro e; exact hs ⟨rfl, bs_inj e⟩
      repeat' (first | go_at_call 42 | go_skip | go_guarded | go_step)
      refine HB.out.mono ?_
      rintro e w3 ⟨g3, rfl, B3, f3, s3⟩
      have H3 := Lib.hid (And.intro B3 f3)
      clear B3 f3
      go_simp
      repeat' (first | go_skip | go_guarded | go_step)
      go_ret3
      exact ⟨g3, true, rfl, H3.out.1, H2.out.2.trans H3.out.2, fun e => absurd e hm, ⟨fun e => (by cases e), fun e => absurd e hm⟩⟩
    | false =>
      repeat' (first | go_at_call 42 | go_skip | go_guarded | go_step)
      refine HB.out.mono ?_
      rintro e w3 ⟨g3, rfl, B3, f3, s3⟩
      have H3 := Lib.hid (And.intro B3 f3)
      clear B3 f3
      go_simp
      repeat' (first | go_skip | go_guarded | go_step)
      go_ret3
      exact ⟨g3, true, rfl, H3.out.1, H2.out.2.trans H3.out.2, fun e => absurd e hm, ⟨fun e => (by cases e), fun e => absurd e hm⟩⟩
end Go.Proofs.Ytclcgelbcbnekaa
