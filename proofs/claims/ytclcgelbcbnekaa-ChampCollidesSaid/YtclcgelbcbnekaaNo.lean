/- Contracts: a chunk's pair, where there is none; a chunk's kid. -/
import Derived.Test.YtclcgelbcbnekaaNn
set_option linter.unusedVariables false
set_option linter.unusedSimpArgs false
namespace Go.Proofs.Ytclcgelbcbnekaa
open Go.RowKit Go.QS Go.QS.Nk
set_option linter.unusedVariables false
variable [Zero (Nat → Prop)]
set_option linter.unusedSectionVars false

theorem no_facts {w : World} {g i : Nat} {sl : List (Slot Nat)} {s : Slot Nat} (h : In ND w g sl) (hs : sl[i]? = some s) : ∃ d n : Nat, d < 4294967296 ∧ n < 4294967296 ∧ i < 32 ∧ Hid (d.testBit i = s.isP ∧ n.testBit i = s.isK) ∧ Hid (w.cell? ⟨g, 0, none⟩ = some (.int .u32 d) ∧ w.cell? ⟨g, 1, none⟩ = some (.int .u32 n)) := by
  have hi : i < 32 := by have := get_lt hs; rw [h.1] at this; exact this
  have hz := in_sizes h
  obtain ⟨h32, ow, pv, kv, nd⟩ := h
  exact ⟨_, _, hz.1, hz.2, hi, Lib.hid ⟨bit_at Slot.isP hs, bit_at Slot.isK hs⟩, Lib.hid ⟨nd.node.cells.1, nd.node.cells.2.1⟩⟩

set_option maxRecDepth 100000 in
set_option maxHeartbeats 1000000 in
theorem pair_noD (w : World) (v : Value) (d : Nat) (i : Int) (hC : Hid (∀ w', Ext w w' → Calls Try.prog 59 #[v] w' fun e w'' => e = .returned (.int .u32 d) ∧ w' = w'')) (hH : Hid (∀ w', Ext w w' → Calls Try.prog 65 #[.int .u32 d, .int .i64 i] w' fun e w'' => e = .returned (.bool false) ∧ Ext w' w'')) :
    Calls Try.prog 21 #[v, .int .i64 i] w fun e w' => e = .returned (.tuple #[.agg #[str [], str []], .bool false]) ∧ Ext w w' := by
  obtain ⟨wa, rb, hwa, hrb, hba, hEa, hle⟩ := box_first w
  have HW := Lib.hid (And.intro hwa hrb)
  have HA := Lib.hid (And.intro hba (And.intro hEa hle))
  clear hwa hrb hba hEa hle
  go_enter Try.func21, Try.ntmps21
  repeat' (first | go_at_call 59 | go_skip | go_guarded | go_step)
  rw [HW.out.1, ← HW.out.2]
  refine (hC.out wa HA.out.2.1).mono ?_
  rintro e w1 ⟨rfl, rfl⟩
  go_simp
  repeat' (first | go_at_call 65 | go_skip | go_guarded | go_step)
  refine (hH.out wa HA.out.2.1).mono ?_
  rintro e w2 ⟨rfl, f2⟩
  have k2 := Lib.hid (And.intro (box_ext' HA.out.1 f2) f2)
  obtain ⟨hc0, hc1, hfr⟩ := box_facts k2.out.1
  clear f2
  go_simp
  repeat' (first | go_skip | go_guarded | go_step)
  (try simp only [Exit.inBlock, Exit.then])
  refine bodyPost_ret_by (results_ct rfl _ _ _ _ _ _ _ rfl (heap_set (heap_set k2.out.1 0 _) 1 _) Try.underlying36 rfl (by kernel_rfl)) rfl ?_
  exact ⟨rfl, ((HA.out.2.1.trans k2.out.2).setCell HA.out.2.2 _).setCell HA.out.2.2 _⟩
theorem pair_no (w : World) (g i : Nat) (sl : List (Slot Nat)) (s : Slot Nat) (h : In ND w g sl) (hs : sl[i]? = some s) (hp : s.isP = false) : Calls Try.prog 21 #[ptr g, .int .i64 i] w fun e w' => e = .returned (.tuple #[.agg #[str [], str []], .bool false]) ∧ Ext w w' := by
  obtain ⟨d, n, hd9, hn9, hi, HB, HC⟩ := no_facts h hs
  refine pair_noD w (ptr g) d i (Lib.hid fun w' f => data_c w' g d ((f.cell (World.block_lt_of_cell? w _ HC.out.1)).trans HC.out.1)) (Lib.hid fun w' f => (has_c w' d i hd9 hi).mono ?_)
  rintro e w'' ⟨rfl, rfl⟩
  exact ⟨by rw [HB.out.1, hp], Ext.refl _⟩
theorem pair_any (w : World) (g i : Nat) (sl : List (Slot Nat)) (s : Slot Nat) (h : In ND w g sl) (hs : sl[i]? = some s) : Calls Try.prog 21 #[ptr g, .int .i64 i] w fun e w' => e = .returned (pairV s) ∧ Ext w w' := by
  cases s with
  | pr p => exact pair_yes w g i sl p h hs
  | no => exact pair_no w g i sl _ h hs rfl
  | kid k => exact pair_no w g i sl _ h hs rfl

/-! ### Kids -/
theorem kid_facts {w : World} {g i : Nat} {sl : List (Slot Nat)} {k : Nat} (h : In ND w g sl) (hs : sl[i]? = some (.kid k)) : ∃ d b o n c r, d < 4294967296 ∧ i < 32 ∧ n ≤ 32 ∧ r < n ∧ n ≤ c ∧ Hid (d.testBit i = true ∧ rnk d i = r) ∧
    Hid (w.cell? ⟨g, 1, none⟩ = some (.int .u32 d) ∧ w.cell? ⟨g, 3, none⟩ = some (.slice (some ⟨b, o, none⟩) n c) ∧ w.cell? ⟨b, o + r, none⟩ = some (ptr k) ∧ w.cell? ⟨g, 1, none⟩ = some (.int .u32 d)) := by
  have hi : i < 32 := by have := get_lt hs; rw [h.1] at this; exact this
  have hd9 := (in_sizes h).2
  have hbit := bit_at Slot.isK hs
  have hrk := rk_nodes (sl := sl) (by rw [h.1]; decide) i
  obtain ⟨h32, ow, pv, kv, nd⟩ := h
  obtain ⟨PA, pc, rfl, hpl, hpn, hpc, hps⟩ := nd.kids
  have hat := ptrs_get (kds_at hs)
  obtain ⟨b, o, rfl, hcl⟩ := hps (fun e => by rw [e] at hat; simp at hat)
  have hp32 := kdsOf_len sl
  rw [h32] at hp32
  exact ⟨_, b, o, _, pc, rkK sl i, hd9, hi, hp32, (List.getElem?_eq_some_iff.1 (kds_at hs)).1, hpn, Lib.hid ⟨hbit, hrk⟩, Lib.hid ⟨nd.node.cells.2.1, nd.node.cells.2.2.2.1, hcl _ _ hat, nd.node.cells.2.1⟩⟩
set_option maxRecDepth 100000 in
set_option maxHeartbeats 1000000 in
theorem kid_yes (w : World) (g i : Nat) (sl : List (Slot Nat)) (k : Nat) (h : In ND w g sl) (hs : sl[i]? = some (.kid k)) : Calls Try.prog 61 #[ptr g, .int .i64 i] w fun e w' => e = .returned (.tuple #[ptr k, .bool true]) ∧ Ext w w' := by
  obtain ⟨d, b, o, n, pc, r, hd9, hi, hn9, hrn, hnc, HB, HK⟩ := kid_facts h hs
  clear h hs
  have hri : (r : Int) < (n : Int) := by omega
  have hr0 : (0 : Int) ≤ (r : Int) := by omega
  go_enter Try.func61, Try.ntmps61
  repeat' (first | go_at_call 60 | go_skip | go_guarded | go_step)
  refine (nodes_c w g d HK.out.1).mono ?_
  rintro e w1 ⟨rfl, rfl⟩
  go_simp
  repeat' (first | go_at_call 65 | go_skip | go_guarded | go_step)
  refine (has_c w d i hd9 hi).mono ?_
  rintro e w1 ⟨rfl, rfl⟩
  rw [HB.out.1]
  obtain ⟨q0, q1, q2, _⟩ := HK.out
  go_simp
  repeat' (go_not_at_region 3; (first | go_skip | go_guarded | go_step))
  go_region_held3 (fun w' => w'.cell? ⟨g, 1, none⟩ = some (.int .u32 d) ∧ w'.cell? ⟨g, 3, none⟩ = some (.slice (some ⟨b, o, none⟩) n pc) ∧ w'.cell? ⟨b, o + r, none⟩ = some (ptr k) ∧ w'.cell? ⟨g, 1, none⟩ = some (.int .u32 d))
    (first | exact keep4c k1.out HK.out | exact keep4c (below_drewN (Ext.refl _) 1) HK.out)
    ((go_at_call 66; refine (rank_c _ d i hd9 hi).mono ?_; rintro e x1 ⟨rfl, f1⟩; rw [HB.out.2]; have k1 : Hid (Ext w x1) := Lib.hid (Ext.trans (below_drewN (Ext.refl _) 1) f1); clear f1))
  repeat' (first | go_skip | go_guarded | go_step)
  go_ret2
  exact ⟨rfl, k1.out⟩
theorem kid_noD (w : World) (v : Value) (d : Nat) (i : Int) (hC : Hid (∀ w', Ext w w' → Calls Try.prog 60 #[v] w' fun e w'' => e = .returned (.int .u32 d) ∧ w' = w'')) (hH : Hid (∀ w', Ext w w' → Calls Try.prog 65 #[.int .u32 d, .int .i64 i] w' fun e w'' => e = .returned (.bool false) ∧ Ext w' w'')) :
    Calls Try.prog 61 #[v, .int .i64 i] w fun e w' => e = .returned (.tuple #[.pointer none, .bool false]) ∧ Ext w w' := by
  go_enter Try.func61, Try.ntmps61
  repeat' (first | go_at_call 60 | go_skip | go_guarded | go_step)
  refine (hC.out w (Ext.refl _)).mono ?_
  rintro e w1 ⟨rfl, rfl⟩
  go_simp
  repeat' (first | go_at_call 65 | go_skip | go_guarded | go_step)
  refine (hH.out w (Ext.refl _)).mono ?_
  rintro e w2 ⟨rfl, f2⟩
  have k2 := Lib.hid f2
  clear f2
  go_simp
  repeat' (first | go_skip | go_guarded | go_step)
  go_ret2
  exact ⟨rfl, k2.out⟩
theorem kid_no (w : World) (g i : Nat) (sl : List (Slot Nat)) (s : Slot Nat) (h : In ND w g sl) (hs : sl[i]? = some s) (hp : s.isK = false) : Calls Try.prog 61 #[ptr g, .int .i64 i] w fun e w' => e = .returned (.tuple #[.pointer none, .bool false]) ∧ Ext w w' := by
  obtain ⟨d, n, hd9, hn9, hi, HB, HC⟩ := no_facts h hs
  refine kid_noD w (ptr g) n i (Lib.hid fun w' f => nodes_c w' g n ((f.cell (World.block_lt_of_cell? w _ HC.out.2)).trans HC.out.2)) (Lib.hid fun w' f => (has_c w' n i hn9 hi).mono ?_)
  rintro e w'' ⟨rfl, rfl⟩
  exact ⟨by rw [HB.out.2, hp], Ext.refl _⟩
theorem kid_any (w : World) (g i : Nat) (sl : List (Slot Nat)) (s : Slot Nat) (h : In ND w g sl) (hs : sl[i]? = some s) : Calls Try.prog 61 #[ptr g, .int .i64 i] w fun e w' => e = .returned (kidV s) ∧ Ext w w' := by
  cases s with
  | pr p => exact kid_no w g i sl _ h hs rfl
  | no => exact kid_no w g i sl _ h hs rfl
  | kid k => exact kid_yes w g i sl k h hs

/-- Has of no bits. -/
theorem has_zero (w : World) (i : Int) : Calls Try.prog 65 #[.int .u32 0, .int .i64 i] w fun e w' => e = .returned (.bool false) ∧ Ext w w' := by
  by_cases h : 0 ≤ i ∧ i < 32
  · obtain ⟨j, rfl⟩ := Int.eq_ofNat_of_zero_le h.1
    refine (has_c w 0 j (by decide) (by omega)).mono ?_
    rintro e w' ⟨rfl, rfl⟩
    exact ⟨by simp, Ext.refl _⟩
  · have hr : Calls Try.prog 108 #[.int .i64 i] w fun e w' => e = .returned (.bool false) ∧ w = w' := by
      by_cases h0 : 0 ≤ i
      · have h3 : decide ((0 : Int) ≤ i) = true := by simp; omega
        have h4 : decide (i < 32) = false := by simp; omega
        go_enter Try.func108, Try.ntmps108
        repeat' (first | go_skip | go_guarded | go_step)
        go_ret
        exact ⟨rfl, rfl⟩
      · have h3 : decide ((0 : Int) ≤ i) = false := by simp; omega
        go_enter Try.func108, Try.ntmps108
        repeat' (first | go_skip | go_guarded | go_step)
        go_ret
        exact ⟨rfl, rfl⟩
    have HR := Lib.hid hr
    clear hr h
    go_enter Try.func65, Try.ntmps65
    repeat' go_step
    refine HR.out.mono ?_
    rintro e w1 ⟨rfl, rfl⟩
    go_simp
    repeat' (first | go_skip | go_guarded | go_step)
    go_ret
    exact ⟨rfl, Ext.refl _⟩
theorem pair_z (w : World) (i : Int) : Calls Try.prog 21 #[nil0, .int .i64 i] w fun e w' => e = .returned (.tuple #[.agg #[str [], str []], .bool false]) ∧ Ext w w' :=
  pair_noD w nil0 0 i (Lib.hid fun w' f => data_nil w') (Lib.hid fun w' f => has_zero w' i)
theorem kid_z (w : World) (i : Int) : Calls Try.prog 61 #[nil0, .int .i64 i] w fun e w' => e = .returned (.tuple #[.pointer none, .bool false]) ∧ Ext w w' :=
  kid_noD w nil0 0 i (Lib.hid fun w' f => nodes_nil w') (Lib.hid fun w' f => has_zero w' i)
end Go.Proofs.Ytclcgelbcbnekaa
