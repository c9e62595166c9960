/- Texts joined. -/
import Derived.Test.YtclcgelbcbnekaaDoorNu
import Derived.Test.YtclcgelbcbnekaaDoorNr
import Derived.Test.YtclcgelbcbnekaaDoorM14
import Derived.Test.YtclcgelbcbnekaaDoorM07
import Derived.Deep.RegionWith
set_option linter.unusedVariables false
set_option linter.unusedSimpArgs false
/- Contracts: SetPair, SetKid, Clear without a token: another node; of a nil node; of a bucket. -/
namespace Go.Proofs.YtclcgelbcbnekaaDoor
open Go.RowKit Go.QS Go.QS.Nk
set_option linter.unusedVariables false
variable [Zero (Nat → Prop)]
set_option linter.unusedSectionVars false

/-- A node that is made: it, and its rows, are new. -/
def Mk (B : Nat) (w1 wm : World) (c : Nat) (pv kv : Value) : Prop := w1.heap.size ≤ c ∧ (∀ b, pv.ownBlock = some b → w1.heap.size ≤ b) ∧ (∀ b, kv.ownBlock = some b → w1.heap.size ≤ b) ∧ w1.heap.size = B
theorem in_own (w : World) (g : Nat) (sl : List (Slot Nat)) (h : In ND w g sl) : Hid (∀ w1, Ext w w1 → Calls Tryd.prog 40 #[ptr g, nil0] w1 fun e w' => ∃ c B ow pv kv, e = .returned (ptr c) ∧ InO B w' c sl ow pv kv ∧ B ≤ w'.heap.size ∧ (w.heap.size < w1.heap.size → pv.ownBlock ≠ some w.heap.size) ∧ Ext w1 w' ∧ Mk B w1 w' c pv kv) := Lib.hid (fun w1 f => by
  obtain ⟨h32, ow, pv, kv, nd⟩ := h.ext f
  have hp := prsOf_len sl
  have hk := kdsOf_len sl
  refine (nown_c w1 g _ _ _ _ false ow pv kv nd (by omega) (by omega)).mono ?_
  rintro e w' ⟨c, pv', kv', rfl, nO, hc, hE⟩
  exact ⟨c, w1.heap.size, none, pv', kv', rfl, ⟨h32, nO⟩, hE.size, fun hlt e => by have := (nO.pairs.lt _ e).1; omega, hE, hc, fun b hb => (nO.pairs.lt b hb).1, fun b hb => (nO.kids.lt b hb).1, rfl⟩)
theorem in_inner (w : World) (g i : Nat) (sl : List (Slot Nat)) (h : In ND w g sl) (hi : i < 32) : Hid (∀ w1, Ext w w1 → Calls Tryd.prog 39 #[ptr g, .int .i64 i] w1 fun e w' => e = .returned (.bool true) ∧ Ext w1 w') := Lib.hid (fun w1 f => by
  obtain ⟨h32, ow, pv, kv, nd⟩ := h.ext f
  exact inner_yes w1 g i hi nd.node.cells.2.2.2.2.1)
theorem mk_done {B : Nat} {w w1 wm w' : World} {c : Nat} {sl : List (Slot Nat)} {ow : Option Addr} {pv kv pv' kv' : Value} (h1 : Ext w w1) (h2 : Ext w1 wm) (hC : Mk B w1 wm c pv kv) (hnw : ∀ k, w.heap.size ≤ k → S9 k) (hO : InO B w' c sl ow pv' kv') (ho : Only (fun k => k = c ∨ pv.ownBlock = some k ∨ kv.ownBlock = some k) wm w') : In ND w' c sl ∧ Ext w w' ∧ w.heap.size ≤ c := by
  have hs := h1.size
  refine ⟨⟨hO.1, ow, pv', kv', hO.2.nd (by have := hC.1; have := hC.2.2.2; omega) (by have := hC.2.2.2; have := h2.size; have := ho.size; omega) (fun k hk => hnw k (by have := hC.2.2.2; omega))⟩, ?_, Nat.le_trans hs hC.1⟩
  have h3 : Below w.heap.size wm w' := ho.below (Nat.le_trans hs h2.size) (fun i hi => by
    rcases hi with rfl | hi | hi
    · exact Nat.le_trans hs hC.1
    · exact Nat.le_trans hs (hC.2.1 i hi)
    · exact Nat.le_trans hs (hC.2.2.1 i hi))
  exact Below.trans (Ext.trans h1 h2) h3
theorem setPair_c (w : World) (g i : Nat) (sl : List (Slot Nat)) (p : Pr) (h : In ND w g sl) (hi : i < 32) :
    Calls Tryd.prog 17 #[ptr g, nil0, .int .i64 i, .agg #[str p.1, str p.2]] w fun e w' => ∃ c, e = .returned (ptr c) ∧ In ND w' c (sl.set i (.pr p)) ∧ Ext w w' ∧ w.heap.size ≤ c := by
  obtain ⟨s, hs⟩ := get_of_lt sl (show i < sl.length by rw [h.1]; exact hi)
  by_cases hp : s.isP = true
  · obtain ⟨q, rfl⟩ : ∃ q, s = .pr q := by
      cases s with
      | pr q => exact ⟨q, rfl⟩
      | no => simp at hp
      | kid k => simp at hp
    refine (setp_pr Mk w (ptr g) nil0 i sl p q hs h.1 (in_inner w g i sl h hi) (in_own w g sl h)).mono ?_
    rintro e w' ⟨c, B, ow, pv, kv, pv', kv', w1, wm, rfl, h1, h2, hC, hO, ho, _, _⟩
    exact ⟨c, rfl, mk_done h1 h2 hC (let ⟨_, _, _, _, nd⟩ := h; nd.nw) hO ho⟩
  · refine (setp_np Mk w (ptr g) nil0 i sl p s (by simpa using hp) hs h.1 (in_inner w g i sl h hi) (in_own w g sl h)).mono ?_
    rintro e w' ⟨c, B, ow, pv, kv, pv', kv', w1, wm, rfl, h1, h2, hC, hO, ho, _, _⟩
    exact ⟨c, rfl, mk_done h1 h2 hC (let ⟨_, _, _, _, nd⟩ := h; nd.nw) hO ho⟩
theorem setKid_c (w : World) (g i k : Nat) (sl : List (Slot Nat)) (h : In ND w g sl) (hi : i < 32) :
    Calls Tryd.prog 19 #[ptr g, nil0, .int .i64 i, ptr k] w fun e w' => ∃ c, e = .returned (ptr c) ∧ In ND w' c (sl.set i (.kid k)) ∧ Ext w w' ∧ w.heap.size ≤ c := by
  obtain ⟨s, hs⟩ := get_of_lt sl (show i < sl.length by rw [h.1]; exact hi)
  by_cases hp : s.isK = true
  · obtain ⟨q, rfl⟩ : ∃ q, s = .kid q := by
      cases s with
      | kid q => exact ⟨q, rfl⟩
      | no => simp at hp
      | pr k => simp at hp
    refine (setk_kid Mk w (ptr g) nil0 i sl k q hs h.1 (in_inner w g i sl h hi) (in_own w g sl h)).mono ?_
    rintro e w' ⟨c, B, ow, pv, kv, pv', kv', w1, wm, rfl, h1, h2, hC, hO, ho, _, _⟩
    exact ⟨c, rfl, mk_done h1 h2 hC (let ⟨_, _, _, _, nd⟩ := h; nd.nw) hO ho⟩
  · refine (setk_nk Mk w (ptr g) nil0 i sl k s (by simpa using hp) hs h.1 (in_inner w g i sl h hi) (in_own w g sl h)).mono ?_
    rintro e w' ⟨c, B, ow, pv, kv, pv', kv', w1, wm, rfl, h1, h2, hC, hO, ho, _, _⟩
    exact ⟨c, rfl, mk_done h1 h2 hC (let ⟨_, _, _, _, nd⟩ := h; nd.nw) hO ho⟩
theorem clear_c (w : World) (g i : Nat) (sl : List (Slot Nat)) (h : In ND w g sl) (hi : i < 32) :
    Calls Tryd.prog 18 #[ptr g, nil0, .int .i64 i] w fun e w' => ∃ c, e = .returned (ptr c) ∧ In ND w' c (sl.set i .no) ∧ Ext w w' ∧ w.heap.size ≤ c := by
  obtain ⟨s, hs⟩ := get_of_lt sl (show i < sl.length by rw [h.1]; exact hi)
  refine (clear_g Mk w (ptr g) nil0 i sl s hs h.1 (in_inner w g i sl h hi) (in_own w g sl h)).mono ?_
  rintro e w' ⟨c, B, ow, pv, kv, pv', kv', w1, wm, rfl, h1, h2, hC, hO, ho, _, _⟩
  exact ⟨c, rfl, mk_done h1 h2 hC (let ⟨_, _, _, _, nd⟩ := h; nd.nw) hO ho⟩

/-! ### What has no such chunk -/
/-- A node, nil or not, of which 'inner' says no. -/
theorem setPair_same (w : World) (v tok : Value) (i : Int) (p : Pr) (HI : Hid (∀ w1, Ext w w1 → Calls Tryd.prog 39 #[v, .int .i64 i] w1 fun e w' => e = .returned (.bool false) ∧ Ext w1 w')) :
    Calls Tryd.prog 17 #[v, tok, .int .i64 i, .agg #[str p.1, str p.2]] w fun e w' => e = .returned v ∧ Ext w w' := by
  obtain ⟨wa, hwa⟩ : ∃ x, x = w.alloc (.cells #[str p.1, str p.2] NP) := ⟨_, rfl⟩
  have hEa : Ext w wa := by rw [hwa]; exact (Ext.refl _).alloc (Nat.le_refl _) _
  have HA := Lib.hid (And.intro hwa.symm hEa)
  clear hwa hEa
  go_enter Tryd.func17, Tryd.ntmps17
  repeat' (first | go_at_call 39 | go_skip | go_guarded | go_step)
  have hW := HA.out.1
  rw [hW]
  clear hW
  refine (HI.out wa HA.out.2).mono ?_
  rintro e w2 ⟨rfl, f2⟩
  have H2 := Lib.hid f2
  clear f2
  go_simp
  repeat' (first | go_skip | go_guarded | go_step)
  go_ret
  exact ⟨rfl, HA.out.2.trans H2.out⟩
theorem clear_same (w : World) (v tok : Value) (i : Int) (HI : Hid (∀ w1, Ext w w1 → Calls Tryd.prog 39 #[v, .int .i64 i] w1 fun e w' => e = .returned (.bool false) ∧ Ext w1 w')) :
    Calls Tryd.prog 18 #[v, tok, .int .i64 i] w fun e w' => e = .returned v ∧ Ext w w' := by
  go_enter Tryd.func18, Tryd.ntmps18
  repeat' (first | go_at_call 39 | go_skip | go_guarded | go_step)
  refine (HI.out w (Ext.refl _)).mono ?_
  rintro e w2 ⟨rfl, f2⟩
  have H2 := Lib.hid f2
  clear f2
  go_simp
  repeat' (first | go_skip | go_guarded | go_step)
  go_ret
  exact ⟨rfl, H2.out⟩
theorem setKid_same (w : World) (v tok : Value) (i : Int) (k : Nat) (HI : Hid (∀ w1, Ext w w1 → Calls Tryd.prog 39 #[v, .int .i64 i] w1 fun e w' => e = .returned (.bool false) ∧ Ext w1 w')) :
    Calls Tryd.prog 19 #[v, tok, .int .i64 i, ptr k] w fun e w' => e = .returned v ∧ Ext w w' := by
  go_enter Tryd.func19, Tryd.ntmps19
  repeat' (first | go_at_call 39 | go_skip | go_guarded | go_step)
  refine (HI.out w (Ext.refl _)).mono ?_
  rintro e w2 ⟨rfl, f2⟩
  have H2 := Lib.hid f2
  clear f2
  go_simp
  repeat' (first | go_skip | go_guarded | go_step)
  go_ret
  exact ⟨rfl, H2.out⟩
/-- A kid that is nil: Clear. -/
theorem setKid_nil (w : World) (v tok : Value) (i : Int) {R : Ending → World → Prop} (HC : Hid (Calls Tryd.prog 18 #[v, tok, .int .i64 i] w fun e w' => ∃ u, e = .returned u ∧ R (.returned u) w')) :
    Calls Tryd.prog 19 #[v, tok, .int .i64 i, nil0] w R := by
  go_enter Tryd.func19, Tryd.ntmps19
  repeat' (first | go_at_call 18 | go_skip | go_guarded | go_step)
  refine HC.out.mono ?_
  rintro e w2 ⟨u, rfl, hR⟩
  have H2 := Lib.hid hR
  clear hR
  go_simp
  repeat' (first | go_skip | go_guarded | go_step)
  go_ret
  exact H2.out
theorem nput_nil (w : World) (tok : Value) (p : Pr) : Calls Tryd.prog 28 #[nil0, tok, .agg #[str p.1, str p.2]] w fun e w' => e = .returned nil0 ∧ Ext w w' := by
  obtain ⟨wa, hwa⟩ : ∃ x, x = w.alloc (.cells #[str p.1, str p.2] NP) := ⟨_, rfl⟩
  have hEa : Ext w wa := by rw [hwa]; exact (Ext.refl _).alloc (Nat.le_refl _) _
  have HA := Lib.hid (And.intro hwa.symm hEa)
  clear hwa hEa
  go_enter Tryd.func28, Tryd.ntmps28
  repeat' (first | go_at_call 52 | go_skip | go_guarded | go_step)
  have hW := HA.out.1
  rw [hW]
  clear hW
  refine (isb_nil wa).mono ?_
  rintro e w2 ⟨rfl, f2⟩
  have H2 := Lib.hid f2
  clear f2
  go_simp
  repeat' (first | go_skip | go_guarded | go_step)
  go_ret
  exact ⟨rfl, HA.out.2.trans H2.out⟩
theorem inner0_c (w : World) (hnw : ∀ k, w.heap.size ≤ k → S9 k) : Calls Tryd.prog 20 #[] w fun e w' => ∃ g, e = .returned (ptr g) ∧ In ND w' g (sl0 Nat) ∧ Ext w w' ∧ w.heap.size ≤ g := by
  obtain ⟨wa, hwa⟩ : ∃ x, x = w.alloc (.cells #[.int .u32 (0 : Nat), .int .u32 (0 : Nat), .slice none 0 0, .slice none 0 0, .bool false, .pointer none] ND) := ⟨_, rfl⟩
  have HNW := Lib.hid hnw
  clear hnw
  have hN : NdAt ND wa w.heap.size 0 0 (.slice none 0 0) (.slice none 0 0) false none := by rw [hwa]; exact NdAt.new ND w rfl
  have hEa : Ext w wa := by rw [hwa]; exact (Ext.refl _).alloc (Nat.le_refl _) _
  have HA := Lib.hid (And.intro hwa.symm (And.intro hN hEa))
  clear hwa hN hEa
  go_enter Tryd.func20, Tryd.ntmps20
  repeat' (first | go_skip | go_guarded | go_step)
  have hW : w.alloc (.cells #[.int .u32 0, .int .u32 0, .slice none 0 0, .slice none 0 0, .bool false, .pointer none] 97) = wa := HA.out.1
  rw [hW]
  clear hW
  go_ret
  refine ⟨_, rfl, ⟨sl0_length, none, .slice none 0 0, .slice none 0 0, ?_, ?_, ?_, fun k hk => HNW.out k (Nat.le_trans HA.out.2.2.size hk), HNW.out _ (Nat.le_refl _), fun b hb => (by cases hb), fun b hb => (by cases hb), fun b hb => (by cases hb), fun b hb => (by cases hb)⟩, HA.out.2.2, Nat.le_refl _⟩
  · rw [show dataOf (sl0 Nat) = 0 from bits_zero _ rfl, show nodesOf (sl0 Nat) = 0 from bits_zero _ rfl]; exact HA.out.2.1
  · rw [prs_sl0]; exact Sl.nil _ _
  · rw [kds_sl0]; exact Sl.nil _ _
end Go.Proofs.YtclcgelbcbnekaaDoor
/- Contracts: a bucket's Put and Drop, without a token; a bucket's value; an empty bucket. -/
namespace Go.Proofs.YtclcgelbcbnekaaDoor
open Go.RowKit Go.QS Go.QS.Nk
set_option linter.unusedVariables false
variable [Zero (Nat → Prop)]
set_option linter.unusedSectionVars false

theorem bk_fin {w x1 x3 : World} {c B : Nat} {L L' : List Pr} {ow : Option Addr} {pv kv v3 : Value} (hE : Ext w x1) (hc : w.heap.size ≤ c) (hN : NdO ND NP NK B x1 c 0 0 L [] true ow pv kv) (f : Ext x1 x3) {B2 : Nat} (r : x3.ownsRow B2 NP 2 v3 L'.length (flat L')) (hnw : ∀ k, w.heap.size ≤ k → S9 k) (hB : w.heap.size ≤ B) (hB2 : w.heap.size ≤ B2) :
    Bk ND (x3.setCell ⟨c, 2, none⟩ v3) c L' ∧ Ext w (x3.setCell ⟨c, 2, none⟩ v3) := by
  have nd := (hN.ext f)
  refine ⟨⟨ow, v3, kv, nd.node.set2 v3, PS.of_own (own_other r nd.node (by decide) 2 v3), Sl.of_own (own_other nd.kids nd.node (by decide) 2 v3), fun k hk => hnw k (Nat.le_trans hE.size (Nat.le_trans f.size (by simpa [World.setCell] using hk))), hnw c hc, fun b hb => hnw b (Nat.le_trans hB2 (World.ownsRow.lt r b hb).1), fun b hb => hnw b (Nat.le_trans hB (World.ownsRow.lt hN.kids b hb).1), fun b hb => (by have h1 := (World.ownsRow.lt r b hb).2; simpa [World.setCell] using h1), fun b hb => (by have h1 := (World.ownsRow.lt nd.kids b hb).2; simpa [World.setCell] using h1)⟩, ?_⟩
  exact (hE.trans f).setCell hc v3
set_option maxRecDepth 100000 in
set_option maxHeartbeats 2000000 in
theorem bput_c (w : World) (g : Nat) (l : List Pr) (p : Pr) (h : Bk ND w g l) (hr : Rise l) (h9 : l.length ≤ 400000000) :
    Calls Tryd.prog 28 #[ptr g, nil0, .agg #[str p.1, str p.2]] w fun e w' => ∃ c, e = .returned (ptr c) ∧ Bk ND w' c (rput l p) ∧ Ext w w' ∧ w.heap.size ≤ c := by
  obtain ⟨ow, pv, kv, nd⟩ := h
  have HNW := Lib.hid nd.nw
  obtain ⟨wa, hwa⟩ : ∃ x, x = w.alloc (.cells #[str p.1, str p.2] NP) := ⟨_, rfl⟩
  have hEa : Ext w wa := by rw [hwa]; exact (Ext.refl _).alloc (Nat.le_refl _) _
  obtain ⟨rb, hrb⟩ : ∃ x, x = w.heap.size := ⟨_, rfl⟩
  have hB : wa.heap[rb]? = some (.cells #[str p.1, str p.2] NP (0, 0)) := by rw [hwa, hrb]; exact heap_new w _
  have HA := Lib.hid (And.intro hwa.symm (And.intro hrb.symm (And.intro hEa (And.intro hB (nd.ext hEa)))))
  have HR := Lib.hid hr
  clear hwa hEa hrb hB nd hr
  go_enter Tryd.func28, Tryd.ntmps28
  repeat' (first | go_at_call 52 | go_skip | go_guarded | go_step)
  have hW := HA.out.1
  rw [hW, HA.out.2.1]
  clear hW
  refine (isb_c wa g true HA.out.2.2.2.2.node.cells.2.2.2.2.1).mono ?_
  rintro e w1 ⟨rfl, f1⟩
  have H1 : Hid (Ext wa w1) := Lib.hid f1
  clear f1
  go_simp
  repeat' (first | go_at_call 40 | go_skip | go_guarded | go_step)
  refine (nown_c w1 g 0 0 l [] true ow pv kv (HA.out.2.2.2.2.ext H1.out) (by omega) (by simp)).mono ?_
  rintro e x1 ⟨c, pv1, kv1, rfl, nO, hc, f1⟩
  obtain ⟨A1, C1, rfl⟩ := own_slice nO.pairs
  have hcw : w.heap.size ≤ c := by have := HA.out.2.2.1.size; have := H1.out.size; omega
  have H2 : Hid (Ext w x1 ∧ _ ∧ Ext wa x1) := Lib.hid ⟨HA.out.2.2.1.trans (H1.out.trans f1), nO, H1.out.trans f1⟩
  have e2 := nO.node.cells.2.2.1
  have ef := nO.node.free 2
  have hb := box_ext' HA.out.2.2.2.1 H2.out.2.2
  obtain ⟨b0, b1, bf⟩ := box_facts hb
  have HB := Lib.hid (And.intro hb e2)
  have HN := Lib.hid (fun x3 (f : Ext x1 x3) => (nO.node.ext f))
  clear nO f1 hb hc
  go_simp
  repeat' (go_not_at_region 4; (first | go_skip | go_guarded | go_step))
  have HC : Hid (∀ W : World, Ext x1 W → Calls Tryd.prog 53 #[.slice A1 l.length C1, .agg #[str p.1, str p.2]] W fun e w' => ∃ v', e = .returned v' ∧ w'.ownsRow W.heap.size NP 2 v' (rput l p).length (flat (rput l p)) ∧ Ext W w') := Lib.hid (fun W f => pput_c W _ l p (PS.of_own (H2.out.2.1.ext f).pairs) HR.out h9)
  go_region_with (go_at_call 53; refine (HC.out _ (below_drewN (Ext.refl x1) 1)).mono ?_; rintro e x3 ⟨v3, rfl, r3, f3⟩; obtain ⟨A3, C3, rfl⟩ := own_slice r3; have k3 : Hid (Ext x1 x3) := Lib.hid (Ext.trans (below_drewN (Ext.refl x1) 1) f3); have e3 := (HN.out x3 k3.out).cells.2.2.1; have ef3 := (HN.out x3 k3.out).free 2)
  all_goals
    have hfin := Lib.hid (bk_fin H2.out.1 hcw H2.out.2.1 k3.out r3 HNW.out (by have := HA.out.2.2.1.size; have := H1.out.size; omega) H2.out.1.size)
    repeat' (first | go_skip | go_guarded | go_step)
    go_ret
    exact ⟨c, rfl, hfin.out.1, hfin.out.2, hcw⟩
end Go.Proofs.YtclcgelbcbnekaaDoor
/- Contracts: a bucket's Drop; a bucket's value by its key; an empty bucket. -/
namespace Go.QS
variable [Zero (Nat → Prop)]
set_option linter.unusedSectionVars false
theorem getL_iff : ∀ {x : List Pr}, Rise x → ∀ {key v : List UInt8}, getL key x = some v ↔ (key, v) ∈ x
  | [], _, key, v => by simp [getL]
  | p :: x, h, key, v => by
    have h' := rise_cons.1 h
    unfold getL
    rw [List.find?_cons]
    by_cases hp : p.1 = key
    · have e : (p.1 == key) = true := by simp [hp]
      rw [e]
      simp only [Option.map_some, Option.some.injEq, List.mem_cons]
      constructor
      · intro hv; left; rw [← hp, ← hv]
      · rintro (hv | hv)
        · rw [← hv]
        · exact absurd hp (k_ne (h'.1 _ hv))
    · have e : (p.1 == key) = false := by simpa using hp
      rw [e]
      show getL key x = some v ↔ _
      rw [getL_iff h'.2, List.mem_cons]
      constructor
      · exact .inr
      · rintro (hv | hv)
        · rw [← hv] at hp; exact absurd rfl hp
        · exact hv
theorem opt_ext {α : Type} {a b : Option α} (h : ∀ v, a = some v ↔ b = some v) : a = b := by
  cases a with
  | none =>
    cases b with
    | none => rfl
    | some v => exact absurd ((h v).2 rfl) (by simp)
  | some v => exact ((h v).1 rfl).symm

theorem getL_has {l : List Pr} (h : Rise l) (k : List UInt8) : (getL k l).isSome = hasK l k := by
  rw [Bool.eq_iff_iff, Option.isSome_iff_exists, hasK_iff]
  constructor
  · rintro ⟨v, hv⟩
    exact ⟨_, (getL_iff h).1 hv, rfl⟩
  · rintro ⟨q, hq, rfl⟩
    exact ⟨q.2, (getL_iff h).2 hq⟩
end Go.QS
namespace Go.Proofs.YtclcgelbcbnekaaDoor
open Go.RowKit Go.QS Go.QS.Nk
set_option linter.unusedVariables false
variable [Zero (Nat → Prop)]
set_option linter.unusedSectionVars false

set_option maxRecDepth 100000 in
theorem in_c (w : World) (g : Nat) (l : List Pr) (key : List UInt8) (hB : Bk ND w g l) (hr : Rise l) (h9 : l.length ≤ 400000000) :
    Calls Tryd.prog 84 #[ptr g, str key] w fun e w' => e = .returned (.tuple #[str ((getL key l).getD []), .bool (hasK l key)]) ∧ Ext w w' := by
  have hha := hasK_at (k := key) hr
  have hgl : ∀ v, getL key l = some v ↔ (key, v) ∈ l := fun v => getL_iff hr
  have hgh := getL_has hr key
  obtain ⟨ow, pv, kv, nd⟩ := hB
  have HP := Lib.hid (npairs_c w g pv l nd.node.cells.2.2.1 nd.pairs (by omega))
  have HFF := Lib.hid (fun W v (h : PS W v l) => Pch.find_c W v l key h hr (by omega))
  clear nd hr
  obtain ⟨n, hn2⟩ : ∃ n, n = l.length := ⟨_, rfl⟩
  have Hn := Lib.hid hn2
  obtain ⟨f, hf⟩ : ∃ f, f = fndI l key := ⟨_, rfl⟩
  rw [← hf] at hha HFF
  clear hf hn2
  obtain ⟨u, hu⟩ : ∃ u, u = (getL key l).getD [] := ⟨_, rfl⟩
  rw [← hu]
  obtain ⟨th, hth⟩ : ∃ th, th = hasK l key := ⟨_, rfl⟩
  rw [← hth] at HFF hha hgh ⊢
  clear hth
  go_enter Tryd.func84, Tryd.ntmps84
  repeat' (first | go_at_call 59 | go_skip | go_guarded | go_step)
  refine HP.out.mono ?_
  rintro e w0 ⟨v0, rfl, o0, f0⟩
  have HF := Lib.hid (HFF.out w0 v0 (PS.of_own o0))
  obtain ⟨A, c, rfl, hl, hn, hc, hs⟩ := PS.of_own o0
  have HS := Lib.hid (And.intro hs f0)
  rw [← Hn.out] at hn ⊢
  have hn9 : n ≤ 400000000 := by rw [Hn.out]; exact h9
  clear o0 f0 hl hs h9
  cases th with
  | false =>
    have hgn : getL key l = none := by cases hg : getL key l with | none => rfl | some v => rw [hg] at hgh; cases hgh
    rw [hgn] at hu
    have hu2 : u = [] := hu
    subst hu2
    rw [← Hn.out] at HF
    clear hha hgl hgh hgn hu
    go_simp
    repeat' (first | go_at_call 87 | go_skip | go_guarded | go_step)
    refine HF.out.mono ?_
    rintro e w1 ⟨rfl, f1⟩
    have F1 := Lib.hid (HS.out.2.trans f1)
    clear f1
    go_simp
    repeat' (first | go_skip | go_guarded | go_step)
    go_ret2
    exact ⟨rfl, F1.out⟩
  | true =>
    have hlt : f < l.length := by
      rcases Nat.lt_or_ge f l.length with h | h
      · exact h
      · rw [List.getElem?_eq_none_iff.2 h] at hha; cases hha
    obtain ⟨q, hq⟩ := get_of_lt l hlt
    obtain ⟨b, o, rfl, hq1, hq2⟩ := seg_pair HS.out.1 hq
    have hi1 : (f : Int) < (n : Int) := by have := Hn.out; omega
    have hbl : b < w0.heap.size := World.block_lt_of_cell? w0 _ hq1
    have HQ := Lib.hid hq2
    have hgs : getL key l = some q.2 := by
      rw [hq] at hha
      have e : q.1 = key := by simpa using hha.symm
      exact (hgl q.2).2 (by rw [← e]; exact List.mem_of_getElem? hq)
    rw [hgs] at hu
    have hu2 : u = q.2 := hu
    subst hu2
    clear hu hha hq hlt hq1 hq2 hgl hgh hgs
    go_simp
    repeat' (first | go_at_call 87 | go_skip | go_guarded | go_step)
    rw [← Hn.out] at HF
    refine HF.out.mono ?_
    rintro e w1 ⟨rfl, f1⟩
    have F1 := Lib.hid (HS.out.2.trans f1)
    have hq2 := (f1.cell (p := ⟨b, o + f * 2 + 1, none⟩) hbl).trans HQ.out
    clear f1
    go_simp
    repeat' (first | go_skip | go_guarded | go_step)
    go_ret2
    exact ⟨rfl, F1.out⟩
set_option maxRecDepth 100000 in
theorem bucket0_c (w : World) (hnw : ∀ k, w.heap.size ≤ k → S9 k) : Calls Tryd.prog 27 #[] w fun e w' => ∃ g, e = .returned (ptr g) ∧ Bk ND w' g [] ∧ Ext w w' ∧ w.heap.size ≤ g := by
  obtain ⟨wa, hwa⟩ : ∃ x, x = w.alloc (.cells #[.int .u32 (0 : Nat), .int .u32 (0 : Nat), .slice none 0 0, .slice none 0 0, .bool true, .pointer none] ND) := ⟨_, rfl⟩
  have HNW := Lib.hid hnw
  clear hnw
  have hN : NdAt ND wa w.heap.size 0 0 (.slice none 0 0) (.slice none 0 0) true none := by rw [hwa]; exact NdAt.new ND w rfl
  have hEa : Ext w wa := by rw [hwa]; exact (Ext.refl _).alloc (Nat.le_refl _) _
  have HA := Lib.hid (And.intro hwa.symm (And.intro hN hEa))
  clear hwa hN hEa
  go_enter Tryd.func27, Tryd.ntmps27
  repeat' (first | go_skip | go_guarded | go_step)
  have hW : w.alloc (.cells #[.int .u32 0, .int .u32 0, .slice none 0 0, .slice none 0 0, .bool true, .pointer none] 97) = wa := HA.out.1
  rw [hW]
  clear hW
  go_ret
  exact ⟨_, rfl, ⟨none, .slice none 0 0, .slice none 0 0, HA.out.2.1, Sl.nil _ _, Sl.nil _ _, fun k hk => HNW.out k (Nat.le_trans HA.out.2.2.size hk), HNW.out _ (Nat.le_refl _), fun b hb => (by cases hb), fun b hb => (by cases hb), fun b hb => (by cases hb), fun b hb => (by cases hb)⟩, HA.out.2.2, Nat.le_refl _⟩
end Go.Proofs.YtclcgelbcbnekaaDoor
