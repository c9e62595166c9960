/- Contracts: SetPair, SetKid, Clear without a token: another node; of a nil node; of a bucket. -/
import Derived.Test.YtclcgelbcbnekaaNu
import Derived.Test.YtclcgelbcbnekaaNr
set_option linter.unusedVariables false
set_option linter.unusedSimpArgs false
namespace Go.Proofs.Ytclcgelbcbnekaa
open Go.RowKit Go.QS Go.QS.Nk
set_option linter.unusedVariables false
variable [Zero (Nat → Prop)]
set_option linter.unusedSectionVars false

/-- A node that is made: it, and its rows, are new. -/
def Mk (B : Nat) (w1 wm : World) (c : Nat) (pv kv : Value) : Prop := w1.heap.size ≤ c ∧ (∀ b, pv.ownBlock = some b → w1.heap.size ≤ b) ∧ (∀ b, kv.ownBlock = some b → w1.heap.size ≤ b) ∧ w1.heap.size = B
theorem in_own (w : World) (g : Nat) (sl : List (Slot Nat)) (h : In ND w g sl) : Hid (∀ w1, Ext w w1 → Calls Try.prog 64 #[ptr g, nil0] w1 fun e w' => ∃ c B ow pv kv, e = .returned (ptr c) ∧ InO B w' c sl ow pv kv ∧ B ≤ w'.heap.size ∧ (w.heap.size < w1.heap.size → pv.ownBlock ≠ some w.heap.size) ∧ Ext w1 w' ∧ Mk B w1 w' c pv kv) := Lib.hid (fun w1 f => by
  obtain ⟨h32, ow, pv, kv, nd⟩ := h.ext f
  have hp := prsOf_len sl
  have hk := kdsOf_len sl
  refine (nown_c w1 g _ _ _ _ false ow pv kv nd (by omega) (by omega)).mono ?_
  rintro e w' ⟨c, pv', kv', rfl, nO, hc, hE⟩
  exact ⟨c, w1.heap.size, none, pv', kv', rfl, ⟨h32, nO⟩, hE.size, fun hlt e => by have := (nO.pairs.lt _ e).1; omega, hE, hc, fun b hb => (nO.pairs.lt b hb).1, fun b hb => (nO.kids.lt b hb).1, rfl⟩)
theorem in_inner (w : World) (g i : Nat) (sl : List (Slot Nat)) (h : In ND w g sl) (hi : i < 32) : Hid (∀ w1, Ext w w1 → Calls Try.prog 63 #[ptr g, .int .i64 i] w1 fun e w' => e = .returned (.bool true) ∧ Ext w1 w') := Lib.hid (fun w1 f => by
  obtain ⟨h32, ow, pv, kv, nd⟩ := h.ext f
  exact inner_yes w1 g i hi nd.node.cells.2.2.2.2.1)
theorem mk_done {B : Nat} {w w1 wm w' : World} {c : Nat} {sl : List (Slot Nat)} {ow : Option Addr} {pv kv pv' kv' : Value} (h1 : Ext w w1) (h2 : Ext w1 wm) (hC : Mk B w1 wm c pv kv) (hnw : ∀ k, w.heap.size ≤ k → S9 k) (hO : InO B w' c sl ow pv' kv') (ho : Only (fun k => k = c ∨ pv.ownBlock = some k ∨ kv.ownBlock = some k) wm w') : In ND w' c sl ∧ Ext w w' ∧ w.heap.size ≤ c := by
  have hs := h1.size
  refine ⟨⟨hO.1, ow, pv', kv', hO.2.nd (by have := hC.1; have := hC.2.2.2; omega) (by have := hC.2.2.2; have := h2.size; have := ho.size; omega) (fun k hk => hnw k (by have := hC.2.2.2; omega))⟩, ?_, Nat.le_trans hs hC.1⟩
  have h3 : Below w.heap.size wm w' := ho.below (Nat.le_trans hs h2.size) (fun i hi => by
    rcases hi with rfl | hi | hi
    · exact Nat.le_trans hs hC.1
    · exact Nat.le_trans hs (hC.2.1 i hi)
    · exact Nat.le_trans hs (hC.2.2.1 i hi))
  exact Below.trans (Ext.trans h1 h2) h3
theorem setPair_c (w : World) (g i : Nat) (sl : List (Slot Nat)) (p : Pr) (h : In ND w g sl) (hi : i < 32) :
    Calls Try.prog 16 #[ptr g, nil0, .int .i64 i, .agg #[str p.1, str p.2]] w fun e w' => ∃ c, e = .returned (ptr c) ∧ In ND w' c (sl.set i (.pr p)) ∧ Ext w w' ∧ w.heap.size ≤ c := by
  obtain ⟨s, hs⟩ := get_of_lt sl (show i < sl.length by rw [h.1]; exact hi)
  by_cases hp : s.isP = true
  · obtain ⟨q, rfl⟩ : ∃ q, s = .pr q := by
      cases s with
      | pr q => exact ⟨q, rfl⟩
      | no => simp at hp
      | kid k => simp at hp
    refine (setp_pr Mk w (ptr g) nil0 i sl p q hs h.1 (in_inner w g i sl h hi) (in_own w g sl h)).mono ?_
    rintro e w' ⟨c, B, ow, pv, kv, pv', kv', w1, wm, rfl, h1, h2, hC, hO, ho, _, _⟩
    exact ⟨c, rfl, mk_done h1 h2 hC (let ⟨_, _, _, _, nd⟩ := h; nd.nw) hO ho⟩
  · refine (setp_np Mk w (ptr g) nil0 i sl p s (by simpa using hp) hs h.1 (in_inner w g i sl h hi) (in_own w g sl h)).mono ?_
    rintro e w' ⟨c, B, ow, pv, kv, pv', kv', w1, wm, rfl, h1, h2, hC, hO, ho, _, _⟩
    exact ⟨c, rfl, mk_done h1 h2 hC (let ⟨_, _, _, _, nd⟩ := h; nd.nw) hO ho⟩
theorem setKid_c (w : World) (g i k : Nat) (sl : List (Slot Nat)) (h : In ND w g sl) (hi : i < 32) :
    Calls Try.prog 40 #[ptr g, nil0, .int .i64 i, ptr k] w fun e w' => ∃ c, e = .returned (ptr c) ∧ In ND w' c (sl.set i (.kid k)) ∧ Ext w w' ∧ w.heap.size ≤ c := by
  obtain ⟨s, hs⟩ := get_of_lt sl (show i < sl.length by rw [h.1]; exact hi)
  by_cases hp : s.isK = true
  · obtain ⟨q, rfl⟩ : ∃ q, s = .kid q := by
      cases s with
      | kid q => exact ⟨q, rfl⟩
      | no => simp at hp
      | pr k => simp at hp
    refine (setk_kid Mk w (ptr g) nil0 i sl k q hs h.1 (in_inner w g i sl h hi) (in_own w g sl h)).mono ?_
    rintro e w' ⟨c, B, ow, pv, kv, pv', kv', w1, wm, rfl, h1, h2, hC, hO, ho, _, _⟩
    exact ⟨c, rfl, mk_done h1 h2 hC (let ⟨_, _, _, _, nd⟩ := h; nd.nw) hO ho⟩
  · refine (setk_nk Mk w (ptr g) nil0 i sl k s (by simpa using hp) hs h.1 (in_inner w g i sl h hi) (in_own w g sl h)).mono ?_
    rintro e w' ⟨c, B, ow, pv, kv, pv', kv', w1, wm, rfl, h1, h2, hC, hO, ho, _, _⟩
    exact ⟨c, rfl, mk_done h1 h2 hC (let ⟨_, _, _, _, nd⟩ := h; nd.nw) hO ho⟩
theorem clear_c (w : World) (g i : Nat) (sl : List (Slot Nat)) (h : In ND w g sl) (hi : i < 32) :
    Calls Try.prog 19 #[ptr g, nil0, .int .i64 i] w fun e w' => ∃ c, e = .returned (ptr c) ∧ In ND w' c (sl.set i .no) ∧ Ext w w' ∧ w.heap.size ≤ c := by
  obtain ⟨s, hs⟩ := get_of_lt sl (show i < sl.length by rw [h.1]; exact hi)
  refine (clear_g Mk w (ptr g) nil0 i sl s hs h.1 (in_inner w g i sl h hi) (in_own w g sl h)).mono ?_
  rintro e w' ⟨c, B, ow, pv, kv, pv', kv', w1, wm, rfl, h1, h2, hC, hO, ho, _, _⟩
  exact ⟨c, rfl, mk_done h1 h2 hC (let ⟨_, _, _, _, nd⟩ := h; nd.nw) hO ho⟩

/-! ### What has no such chunk -/
/-- A node, nil or not, of which 'inner' says no. -/
theorem setPair_same (w : World) (v tok : Value) (i : Int) (p : Pr) (HI : Hid (∀ w1, Ext w w1 → Calls Try.prog 63 #[v, .int .i64 i] w1 fun e w' => e = .returned (.bool false) ∧ Ext w1 w')) :
    Calls Try.prog 16 #[v, tok, .int .i64 i, .agg #[str p.1, str p.2]] w fun e w' => e = .returned v ∧ Ext w w' := by
  obtain ⟨wa, hwa⟩ : ∃ x, x = w.alloc (.cells #[str p.1, str p.2] NP) := ⟨_, rfl⟩
  have hEa : Ext w wa := by rw [hwa]; exact (Ext.refl _).alloc (Nat.le_refl _) _
  have HA := Lib.hid (And.intro hwa.symm hEa)
  clear hwa hEa
  go_enter Try.func16, Try.ntmps16
  repeat' (first | go_at_call 63 | go_skip | go_guarded | go_step)
  have hW := HA.out.1
  rw [hW]
  clear hW
  refine (HI.out wa HA.out.2).mono ?_
  rintro e w2 ⟨rfl, f2⟩
  have H2 := Lib.hid f2
  clear f2
  go_simp
  repeat' (first | go_skip | go_guarded | go_step)
  go_ret
  exact ⟨rfl, HA.out.2.trans H2.out⟩
theorem clear_same (w : World) (v tok : Value) (i : Int) (HI : Hid (∀ w1, Ext w w1 → Calls Try.prog 63 #[v, .int .i64 i] w1 fun e w' => e = .returned (.bool false) ∧ Ext w1 w')) :
    Calls Try.prog 19 #[v, tok, .int .i64 i] w fun e w' => e = .returned v ∧ Ext w w' := by
  go_enter Try.func19, Try.ntmps19
  repeat' (first | go_at_call 63 | go_skip | go_guarded | go_step)
  refine (HI.out w (Ext.refl _)).mono ?_
  rintro e w2 ⟨rfl, f2⟩
  have H2 := Lib.hid f2
  clear f2
  go_simp
  repeat' (first | go_skip | go_guarded | go_step)
  go_ret
  exact ⟨rfl, H2.out⟩
theorem setKid_same (w : World) (v tok : Value) (i : Int) (k : Nat) (HI : Hid (∀ w1, Ext w w1 → Calls Try.prog 63 #[v, .int .i64 i] w1 fun e w' => e = .returned (.bool false) ∧ Ext w1 w')) :
    Calls Try.prog 40 #[v, tok, .int .i64 i, ptr k] w fun e w' => e = .returned v ∧ Ext w w' := by
  go_enter Try.func40, Try.ntmps40
  repeat' (first | go_at_call 63 | go_skip | go_guarded | go_step)
  refine (HI.out w (Ext.refl _)).mono ?_
  rintro e w2 ⟨rfl, f2⟩
  have H2 := Lib.hid f2
  clear f2
  go_simp
  repeat' (first | go_skip | go_guarded | go_step)
  go_ret
  exact ⟨rfl, H2.out⟩
/-- A kid that is nil: Clear. -/
theorem setKid_nil (w : World) (v tok : Value) (i : Int) {R : Ending → World → Prop} (HC : Hid (Calls Try.prog 19 #[v, tok, .int .i64 i] w fun e w' => ∃ u, e = .returned u ∧ R (.returned u) w')) :
    Calls Try.prog 40 #[v, tok, .int .i64 i, nil0] w R := by
  go_enter Try.func40, Try.ntmps40
  repeat' (first | go_at_call 19 | go_skip | go_guarded | go_step)
  refine HC.out.mono ?_
  rintro e w2 ⟨u, rfl, hR⟩
  have H2 := Lib.hid hR
  clear hR
  go_simp
  repeat' (first | go_skip | go_guarded | go_step)
  go_ret
  exact H2.out
theorem nput_nil (w : World) (tok : Value) (p : Pr) : Calls Try.prog 42 #[nil0, tok, .agg #[str p.1, str p.2]] w fun e w' => e = .returned nil0 ∧ Ext w w' := by
  obtain ⟨wa, hwa⟩ : ∃ x, x = w.alloc (.cells #[str p.1, str p.2] NP) := ⟨_, rfl⟩
  have hEa : Ext w wa := by rw [hwa]; exact (Ext.refl _).alloc (Nat.le_refl _) _
  have HA := Lib.hid (And.intro hwa.symm hEa)
  clear hwa hEa
  go_enter Try.func42, Try.ntmps42
  repeat' (first | go_at_call 58 | go_skip | go_guarded | go_step)
  have hW := HA.out.1
  rw [hW]
  clear hW
  refine (isb_nil wa).mono ?_
  rintro e w2 ⟨rfl, f2⟩
  have H2 := Lib.hid f2
  clear f2
  go_simp
  repeat' (first | go_skip | go_guarded | go_step)
  go_ret
  exact ⟨rfl, HA.out.2.trans H2.out⟩
theorem ndrop_nil (w : World) (tok : Value) (k : List UInt8) : Calls Try.prog 43 #[nil0, tok, str k] w fun e w' => e = .returned nil0 ∧ Ext w w' := by
  go_enter Try.func43, Try.ntmps43
  repeat' (first | go_at_call 58 | go_skip | go_guarded | go_step)
  refine (isb_nil w).mono ?_
  rintro e w2 ⟨rfl, f2⟩
  have H2 := Lib.hid f2
  clear f2
  go_simp
  repeat' (first | go_skip | go_guarded | go_step)
  go_ret
  exact ⟨rfl, H2.out⟩
theorem inner0_c (w : World) (hnw : ∀ k, w.heap.size ≤ k → S9 k) : Calls Try.prog 15 #[] w fun e w' => ∃ g, e = .returned (ptr g) ∧ In ND w' g (sl0 Nat) ∧ Ext w w' ∧ w.heap.size ≤ g := by
  obtain ⟨wa, hwa⟩ : ∃ x, x = w.alloc (.cells #[.int .u32 (0 : Nat), .int .u32 (0 : Nat), .slice none 0 0, .slice none 0 0, .bool false, .pointer none] ND) := ⟨_, rfl⟩
  have HNW := Lib.hid hnw
  clear hnw
  have hN : NdAt ND wa w.heap.size 0 0 (.slice none 0 0) (.slice none 0 0) false none := by rw [hwa]; exact NdAt.new ND w rfl
  have hEa : Ext w wa := by rw [hwa]; exact (Ext.refl _).alloc (Nat.le_refl _) _
  have HA := Lib.hid (And.intro hwa.symm (And.intro hN hEa))
  clear hwa hN hEa
  go_enter Try.func15, Try.ntmps15
  repeat' (first | go_skip | go_guarded | go_step)
  have hW : w.alloc (.cells #[.int .u32 0, .int .u32 0, .slice none 0 0, .slice none 0 0, .bool false, .pointer none] 128) = wa := HA.out.1
  rw [hW]
  clear hW
  go_ret
  refine ⟨_, rfl, ⟨sl0_length, none, .slice none 0 0, .slice none 0 0, ?_, ?_, ?_, fun k hk => HNW.out k (Nat.le_trans HA.out.2.2.size hk), HNW.out _ (Nat.le_refl _), fun b hb => (by cases hb), fun b hb => (by cases hb), fun b hb => (by cases hb), fun b hb => (by cases hb)⟩, HA.out.2.2, Nat.le_refl _⟩
  · rw [show dataOf (sl0 Nat) = 0 from bits_zero _ rfl, show nodesOf (sl0 Nat) = 0 from bits_zero _ rfl]; exact HA.out.2.1
  · rw [prs_sl0]; exact Sl.nil _ _
  · rw [kds_sl0]; exact Sl.nil _ _
end Go.Proofs.Ytclcgelbcbnekaa
