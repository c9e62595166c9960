/- CodePatches: its walk. -/
import Derived.Test.YtigoffdehdobiaaGreatCxi
import Derived.Test.YtigoffdehdobiaaGreatCxj
import Derived.Test.YtigoffdehdobiaaGreatN01
import Derived.Test.YtigoffdehdobiaaGreatM25
set_option linter.unusedVariables false
set_option linter.unusedSimpArgs false
namespace Go.Proofs.YtigoffdehdobiaaGreat
open Go.RowKit Go.QS Go.QS.Nk
set_option linter.unusedVariables false

theorem flatMap_ge : ∀ m : List Ch, m.length ≤ (m.flatMap putCh).length
  | [] => by simp
  | c :: m => by
    have := flatMap_ge m
    have h : 0 < (putCh c).length := by simp only [putCh, List.length_append, List.length_cons]; omega
    rw [List.flatMap_cons, List.length_append, List.length_cons]; omega
theorem putChs_ge (m : List Ch) : m.length ≤ (putChs m).length := by
  unfold putChs
  have := flatMap_ge m
  rw [List.length_append]; omega

set_option maxRecDepth 100000 in
set_option maxHeartbeats 4000000 in
theorem codepatches_c (w : World) (vp : Value) (P0 : List UInt8) (hP : BS w vp P0) :
    Calls Tryz.prog 3 #[vp] w fun e w' => e = .returned (.bool true) ∧ Ext w w' := by
  have HP0 := Lib.hid hP
  clear hP
  go_enter Tryz.func3, Tryz.ntmps3
  repeat' (first | go_at_call 6 | go_skip | go_guarded | go_step)
  refine (awakeC_c w).mono ?_
  rintro e w1 ⟨rfl, f1⟩
  have H1 := Lib.hid f1
  clear f1
  go_simp
  repeat' (first | go_at_call 7 | go_skip | go_guarded | go_step)
  refine (cutB_c w1 vp P0 5000 (by decide) (HP0.out.below H1.out)).mono ?_
  rintro e w2 ⟨v2, rfl, r2, f2⟩
  obtain ⟨P, hPP⟩ : ∃ P, P = P0.take 5000 := ⟨_, rfl⟩
  have hPl : P.length ≤ 5000 := by rw [hPP, List.length_take]; omega
  rw [← hPP] at r2
  obtain ⟨A2, C2, rfl⟩ := own_slice r2
  have H2 := Lib.hid (And.intro r2 (Ext.trans H1.out f2))
  clear r2 f2 hPP
  go_simp
  have HR3 := Lib.hid (readchanges_c w2 _ P (BS.of_own H2.out.1) (by omega))
  obtain ⟨l, hl⟩ : ∃ l, l = (readP P).1 := ⟨_, rfl⟩
  obtain ⟨E, hE⟩ : ∃ E, E = (readP P).2 := ⟨_, rfl⟩
  have hread : Hid (readP P = (l, E)) := Lib.hid (by rw [hl, hE])
  have hlen : l.length ≤ 5000 ∧ (E ≠ 0 → l = []) ∧ (E = 0 → rightL l = 0 ∧ putChs l = P) := by
    by_cases h0 : E = 0
    · have h := put_read (P := P) (l := l) (by rw [hread.out, h0])
      refine ⟨?_, fun h => absurd h0 h, fun _ => h⟩
      have := putChs_ge l
      rw [h.2] at this
      omega
    · have := readP_err (P := P) (by rw [← hE]; exact h0)
      rw [← hl] at this
      exact ⟨by rw [this]; simp, fun _ => this, fun h => absurd h h0⟩
  rw [← hl, ← hE] at HR3
  have HRR : Hid (∀ (W : World) (v : Value), W.ownsRow w1.heap.size 5 1 v P.length (encB P) → Calls Tryz.prog 9 #[v] W fun x w' => ∃ v, x = .returned (.tuple #[v, .int .i64 (E : Nat)]) ∧ w'.ownsRow W.heap.size RcT 5 v l.length (flatE encCh l) ∧ Ext W w') := Lib.hid (fun W v h => by
    have := rreadchanges_c W v P _ h (by omega)
    rw [← hl, ← hE] at this; exact this)
  have HL := Lib.hid (And.intro hlen.2.1 hlen.2.2)
  have hl9 := hlen.1
  clear hlen hl hE
  repeat' (first | go_at_call 8 | go_skip | go_guarded | go_step)
  refine HR3.out.mono ?_
  rintro e w3 ⟨v3, rfl, r3, f3⟩
  obtain ⟨A3, C3, rfl⟩ := own_slice r3
  have H3 := Lib.hid (And.intro r3 (And.intro (row_ext H2.out.1 f3) (Ext.trans H2.out.2 f3)))
  clear r3 f3 HR3
  go_simp
  have HR4 := Lib.hid (HRR.out w3 _ H3.out.2.1)
  repeat' (first | go_at_call 9 | go_skip | go_guarded | go_step)
  refine HR4.out.mono ?_
  rintro e w4 ⟨v4, rfl, r4, f4⟩
  obtain ⟨A4, C4, rfl⟩ := own_slice r4
  have H4 : Hid (Sl w4 5 (.slice A3 l.length C3) l.length (flatE encCh l) ∧ Sl w4 5 (.slice A4 l.length C4) l.length (flatE encCh l) ∧ BS w4 (.slice A2 P.length C2) P ∧ Ext w w4) := Lib.hid ⟨(Sl.of_own H3.out.1).below f4, Sl.of_own r4, (BS.of_own H3.out.2.1).below f4, Ext.trans H3.out.2.2 f4⟩
  clear r4 f4 HR4 H3
  have hEE : ((E : Int) != (E : Int)) = false := by simp
  go_simp
  repeat' (first | go_at_call 11 | go_skip | go_guarded | go_step)
  refine (chgs_c w4 _ l H4.out.1 (by omega)).mono ?_
  rintro e w5 ⟨v5, rfl, r5, f5⟩
  have H5 := Lib.hid (And.intro (Sl.of_own r5) f5)
  clear r5 f5
  go_simp
  repeat' (first | go_at_call 10 | go_skip | go_guarded | go_step)
  refine (rsameCh_c w5 v5 _ l l H5.out.1 (H4.out.2.1.below H5.out.2) (by omega) (by omega)).mono ?_
  rintro e w6 ⟨rfl, f6⟩
  have H6 : Hid (Sl w6 5 (.slice A3 l.length C3) l.length (flatE encCh l) ∧ BS w6 (.slice A2 P.length C2) P ∧ Ext w w6) := Lib.hid ⟨(H4.out.1.below H5.out.2).below f6, (H4.out.2.2.1.below H5.out.2).below f6, Ext.trans H4.out.2.2.2 (Ext.trans H5.out.2 f6)⟩
  clear f6 H4 H5
  have hll : decide (l = l) = true := by simp
  go_simp
  by_cases hE0 : E = 0
  · have d1 : ((E : Int) != 0) = false := by rw [bne_eq_false_iff_eq]; omega
    have d2 : ((E : Int) == 0) = true := by rw [beq_iff_eq]; omega
    have HW := Lib.hid (wchanges_c w6 _ l H6.out.1 (by omega) (by rw [(HL.out.2 hE0).2]; omega))
    rw [(HL.out.2 hE0).1, if_pos rfl, (HL.out.2 hE0).2] at HW
    replace hE0 := Lib.hid hE0
    repeat' (first | go_at_call 12 | go_skip | go_guarded | go_step)
    refine HW.out.mono ?_
    rintro e w7 ⟨v7, rfl, r7, f7⟩
    have H7 := Lib.hid (And.intro (BS.of_own r7) (And.intro (H6.out.2.1.below f7) (Ext.trans H6.out.2.2 f7)))
    clear r7 f7 HW
    go_simp
    repeat' (first | go_at_call 13 | go_skip | go_guarded | go_step)
    refine (rsame_c w7 _ _ P P H7.out.1 H7.out.2.1).mono ?_
    rintro e w8 ⟨rfl, f8⟩
    have H8 := Lib.hid (Ext.trans H7.out.2.2 f8)
    clear f8
    go_simp
    repeat' (first | go_skip | go_guarded | go_step)
    go_ret
    exact ⟨rfl, H8.out⟩
  · have d1 : ((E : Int) != 0) = true := by rw [bne_iff_ne]; omega
    have d2 : ((E : Int) == 0) = false := by rw [beq_eq_false_iff_ne]; omega
    have hl0 : l.length = 0 := by rw [HL.out.1 hE0]; rfl
    have d3 : ((l.length : Int) == 0) = true := by rw [beq_iff_eq]; omega
    have d4 : (l.length == 0) = true := by rw [beq_iff_eq]; omega
    have HL0 := Lib.hid hl0
    replace hE0 := Lib.hid hE0
    clear hl0
    repeat' (first | go_skip | go_guarded | go_step)
    go_ret
    exact ⟨rfl, H6.out.2.2⟩
end Go.Proofs.YtigoffdehdobiaaGreat
