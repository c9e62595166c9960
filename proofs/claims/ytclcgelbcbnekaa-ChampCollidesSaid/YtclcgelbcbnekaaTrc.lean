/- ChampCollides, walked. -/
import Derived.Test.YtclcgelbcbnekaaCa2
set_option linter.unusedVariables false
set_option linter.unusedSimpArgs false
namespace Go.Proofs.Ytclcgelbcbnekaa
open Go Go.RowKit Go.QS Go.QS.Nk
set_option linter.unusedVariables false
variable [Zero (Nat → Prop)]
set_option linter.unusedSectionVars false

theorem hash0 (a b : Nat) (s : List UInt8) : (Hs.mk a b 0).hash s = 0 := by unfold Hs.hash; exact Nat.and_zero _
set_option maxRecDepth 100000 in
set_option maxHeartbeats 4000000 in
theorem champCollides_c (w : World) (k0 k1 : Nat) (h0 : k0 < 18446744073709551616) (h1 : k1 < 18446744073709551616) (va : Value) (L : List Pr) (ha : PS w va L) :
    Calls Try.prog 11 #[.agg #[.int .u64 k0, .int .u64 k1], va] w fun e w' => e = .returned (.bool true) ∧ Ext w w' := by
  obtain ⟨A, C, rfl, _, hn0, hnC, hnS⟩ := ha
  obtain ⟨n, hn2⟩ : ∃ n, n = L.length := ⟨_, rfl⟩
  have hn9 : n ≤ 9223372036854775807 := by unfold maxLen at hnC; omega
  rw [← hn2] at hn0 ⊢
  have HN : Hid (n = L.length ∧ Seg w A (flat L)) := Lib.hid ⟨hn2, hnS⟩
  clear hn2 hnS
  have hkO : Hs.Ok ⟨k0, k1, 0⟩ := ⟨h0, h1, (by decide : (0 : Nat) < 18446744073709551616)⟩
  go_enter Try.func11, Try.ntmps11
  repeat' (first | go_at_call 44 | go_skip | go_guarded | go_step)
  obtain ⟨gk, hgk⟩ : ∃ g, g = w.heap.size := ⟨_, rfl⟩
  rw [← hgk]
  refine calls_named (fun w' => w'.heap[gk]? = some (.cells #[.int .u64 k0, .int .u64 k1] 90 (0, 0)) ∧ Ext w w') ⟨by rw [hgk]; exact heap_new w _, (Ext.refl w).alloc (Nat.le_refl _) _⟩ ?_
  clear hgk
  intro wh HW
  refine (awake6_c wh).mono ?_
  rintro e w1 ⟨rfl, f1⟩
  have hkc := (f1.block gk (heap_lt HW.out.1)).trans HW.out.1
  have H1 : Hid (Ext w w1) := Lib.hid (HW.out.2.trans f1)
  have d0 : w1.cell? ⟨gk, 0, none⟩ = some (.int .u64 k0) := by simp [World.cell?, hkc]
  have d1 : w1.cell? ⟨gk, 1, none⟩ = some (.int .u64 k1) := by simp [World.cell?, hkc]
  clear f1 hkc HW
  go_simp
  repeat' (first | go_at_call 45 | go_skip | go_guarded | go_step)
  obtain ⟨gh, hgh⟩ : ∃ g, g = w1.heap.size := ⟨_, rfl⟩
  rw [← hgh]
  refine calls_named (fun w' => HsAt w' gh ⟨k0, k1, 0⟩ ∧ Ext w w') ⟨by rw [hgh]; exact heap_new w1 _, H1.out.trans ((Ext.refl _).alloc (Nat.le_refl _) _)⟩ ?_
  clear hgh
  intro wi HI
  refine (T6V.empty (v := nil9) ⟨k0, k1, 0⟩ wi (fun b hb => by cases hb)).mono ?_
  rintro e w2 ⟨g0, rfl, f2, t2⟩
  have H2 : Hid (Ext w w2 ∧ T6V nil9 w2 gh ⟨k0, k1, 0⟩ g0 []) := Lib.hid ⟨HI.out.2.trans f2, t2 gh (HI.out.1.ext f2)⟩
  clear f2 t2 H1
  go_simp
  repeat' (go_not_at_region 6; (first | go_skip | go_guarded | go_step))
  rename_i K hK
  refine coll_6 w2 gh g0 n C _ hkO A L (Lib.hid ⟨H2.out.2, HN.out.2.below H2.out.1, HN.out.1⟩) hn9 _ _ K _ _ _ _ _ _ _ _ _ _ _ _ _ _ _ _ _ _ _ _ _ _ _ _ _ _ _ _ _ _ _ _ _ _ _ _ _ _ _ _ _ _ _ _ _ _ _ _ _ _ _ _ _ _ _ _ _ _ _ _ _ _ _ _ _ _ _ _ _ _ _ _ _ _ _ _ _ _ (by kernel_rfl) (by kernel_rfl) hK ?_
  intro g3 v3 z8 z9 z15 z16 z17 z18 z19 z20 z21 z22 z23 z24 z25 z26 z27 z28 z29 z30 z31 z32 z33 z34 z35 z36 z37 w3 hpo
  obtain ⟨M, hM⟩ : ∃ M, M = cutM 25 L n := ⟨_, rfl⟩
  rw [← hM] at hpo
  have hM9 : M.length ≤ 25 := by rw [hM]; exact cutM_length 25 L n
  have H3 : Hid (Ext w w3 ∧ T6V v3 w3 gh ⟨k0, k1, 0⟩ g3 (rsort M) ∧ PS w3 v3 M) := Lib.hid ⟨H2.out.1.trans hpo.1, hpo.2.1, hpo.2.2⟩
  clear hpo hM H2
  repeat' (first | go_at_call 57 | go_skip | go_guarded | go_step)
  refine (Pch.sorted_c w3 v3 M H3.out.2.2 (by omega)).mono ?_
  rintro e w4 ⟨vs, rfl, o4, f4⟩
  rw [sortedP_eq] at o4
  obtain ⟨X, hX⟩ : ∃ X, X = rsort M := ⟨_, rfl⟩
  have hXl : X.length ≤ 25 := by rw [hX]; exact Nat.le_trans (rsort_length M) hM9
  rw [← hX] at o4
  obtain ⟨SA, sc, rfl⟩ := own_slice' o4
  have H4 : Hid (Ext w w4 ∧ T6V v3 w4 gh ⟨k0, k1, 0⟩ g3 X ∧ PS w4 (.slice SA X.length sc) X) := Lib.hid ⟨H3.out.1.trans f4, by rw [hX]; exact H3.out.2.1.ext f4, PS.of_own o4⟩
  clear f4 o4 hX H3
  obtain ⟨m, hm⟩ : ∃ m, m = X.length := ⟨_, rfl⟩
  rw [← hm] at H4 hXl ⊢
  have HM := Lib.hid hm
  clear hm
  have hT : @TR (SV v3) ND (Hs.mk k0 k1 0).hash w4 13 g3 X := @T6.tr (SV v3) _ _ _ _ _ H4.out.2.1
  go_simp
  rcases Nat.lt_or_ge m 2 with hlt | hge
  · have d5 : decide (m < 2) = true := by simp [hlt]
    have d5' : decide ((m : Int) < 2) = true := by simp; omega
    obtain ⟨s, hN, hs⟩ := @tr_zero (SV v3) _ (hash0 k0 k1) _ _ _ _ _ hT
    have hl : (prsOf (one0 s)).length + (kdsOf (one0 s)).length = m := by
      cases s with
      | no => have e : X = [] := hs; rw [HM.out, e, one0_no.1, one0_no.2]; rfl
      | pr p => have e : X = [p] := hs; rw [HM.out, e, (one0_pr p).1, (one0_pr p).2]; rfl
      | kid k => have := hs.1; rw [← HM.out] at this; omega
    obtain ⟨h32, ow, pv, kv, nd⟩ := hN
    obtain ⟨b0, b1, b2, b3, b4, b5⟩ := (@Nd.node (SV v3) _ _ _ _ _ _ _ _ _ _ _ nd).cells
    obtain ⟨A1, C1, rfl, _⟩ := @Nd.pairs (SV v3) _ _ _ _ _ _ _ _ _ _ _ nd
    obtain ⟨A2, C2, rfl, _⟩ := @Nd.kids (SV v3) _ _ _ _ _ _ _ _ _ _ _ nd
    have HL := Lib.hid (nlen_c w4 g3 _ _ _ _ _ _ b2 b3 (by omega))
    have HB := Lib.hid b4
    rw [hl] at HL
    clear hl nd hT hs b0 b1 b2 b3 b4 b5 h32
    repeat' (first | go_at_call 18 | go_skip | go_guarded | go_step)
    refine HL.out.mono ?_
    rintro e w5 ⟨rfl, f5⟩
    have F5 := Lib.hid f5
    clear f5
    go_simp
    repeat' (first | go_at_call 58 | go_skip | go_guarded | go_step)
    refine (isb_c w5 g3 false (keep1c F5.out HB.out)).mono ?_
    rintro e w6 ⟨rfl, f6⟩
    have F6 := Lib.hid (H4.out.1.trans (F5.out.trans f6))
    clear f6
    go_simp
    repeat' (first | go_skip | go_guarded | go_step)
    go_ret
    exact ⟨rfl, F6.out⟩
  · have d5 : decide (m < 2) = false := by simp; omega
    have d5' : decide ((m : Int) < 2) = false := by simp; omega
    repeat' (go_not_at_region 16; (first | go_skip | go_guarded | go_step))
    rename_i K hK
    refine @coll_16 (SV v3) w4 g3 _ X (hash0 k0 k1) (by rw [← HM.out]; exact hge) (Lib.hid hT) _ _ K _ _ _ _ _ _ _ _ _ _ _ _ _ _ _ _ _ _ _ _ _ _ _ _ _ _ _ _ _ _ _ _ _ _ _ _ _ _ _ _ _ _ _ _ _ _ _ _ _ _ _ _ _ _ _ _ _ _ _ _ _ _ _ _ _ _ _ _ _ _ _ _ _ _ _ _ _ _ _ _ _ (by kernel_rfl) (by kernel_rfl) hK ?_
    intro g5 z4 z53 z54 z55 z56 z57 z58 z59 z60 z61 z62 z63 z64 z65 z66 z67 z68 z69 z70 z71 z72 w5 hpo
    have H5 : Hid (Ext w4 w5 ∧ @TR (SV v3) ND (Hs.mk k0 k1 0).hash w5 0 g5 X) := Lib.hid hpo
    clear hpo hT
    have hB : @Bk (SV v3) ND w5 g5 X := H5.out.2
    obtain ⟨ow, pv, kv, nd⟩ := hB
    obtain ⟨b0, b1, b2, b3, b4, b5⟩ := (@Nd.node (SV v3) _ _ _ _ _ _ _ _ _ _ _ nd).cells
    have HB := Lib.hid (And.intro b4 (And.intro b2 (@Nd.pairs (SV v3) _ _ _ _ _ _ _ _ _ _ _ nd)))
    clear b0 b1 b2 b3 b4 b5 nd
    repeat' (first | go_at_call 58 | go_skip | go_guarded | go_step)
    refine (isb_c w5 g5 true HB.out.1).mono ?_
    rintro e w6 ⟨rfl, f6⟩
    have F6 := Lib.hid f6
    clear f6
    go_simp
    repeat' (first | go_at_call 38 | go_skip | go_guarded | go_step)
    refine (npairs_c w6 g5 pv X (keep1c F6.out HB.out.2.1) (HB.out.2.2.below F6.out) (by rw [← HM.out]; omega)).mono ?_
    rintro e w7 ⟨v7, rfl, o7, f7⟩
    have H7 : Hid (Ext w4 w7 ∧ PS w7 v7 X) := Lib.hid ⟨H5.out.1.trans (F6.out.trans f7), PS.of_own o7⟩
    clear o7 f7
    go_simp
    repeat' (first | go_at_call 62 | go_skip | go_guarded | go_step)
    refine (same_c w7 _ _ X X H7.out.2 (H4.out.2.2.below H7.out.1) (by rw [← HM.out]; omega) (by rw [← HM.out]; omega)).mono ?_
    rintro e w8 ⟨rfl, f8⟩
    have F8 := Lib.hid (H4.out.1.trans (H7.out.1.trans f8))
    have dX : decide (X = X) = true := by simp
    clear f8
    go_simp
    repeat' (first | go_skip | go_guarded | go_step)
    go_ret
    exact ⟨rfl, F8.out⟩
end Go.Proofs.Ytclcgelbcbnekaa
