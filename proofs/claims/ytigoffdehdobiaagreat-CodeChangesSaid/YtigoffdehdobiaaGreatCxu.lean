/- CodeChanges: its walk. -/
import Derived.Test.YtigoffdehdobiaaGreatN05
import Derived.Test.YtigoffdehdobiaaGreatN06
import Derived.Test.YtigoffdehdobiaaGreatM25
set_option linter.unusedVariables false
set_option linter.unusedSimpArgs false
namespace Go.Proofs.YtigoffdehdobiaaGreat
open Go.RowKit Go.QS Go.QS.Nk
set_option linter.unusedVariables false

theorem putText_le (s : List UInt8) (h : s.length ≤ 1000) : (putText s).length ≤ s.length + 10 := by
  have := putNum_len 9 s.length (by omega)
  rw [putText, List.length_append]; omega
theorem smallCh_len {c : Ch} (h : smallCh c) : (putCh c).length ≤ 500 := by
  obtain ⟨k, o, n, a, b⟩ := c
  obtain ⟨h1, h2, h3⟩ := h
  simp only at h1 h2 h3
  have e1 := putText_le k (by omega)
  have e2 := putText_le o (by omega)
  have e3 := putText_le n (by omega)
  rw [putCh_len]
  cases a <;> cases b <;> simp <;> omega
theorem small_flat : ∀ {L : List Ch}, (∀ c ∈ L, smallCh c) → (L.flatMap putCh).length ≤ 500 * L.length
  | [], _ => by simp
  | c :: L, h => by
    have h1 := smallCh_len (h c (List.mem_cons_self ..))
    have h2 := small_flat (L := L) (fun x hx => h x (List.mem_cons_of_mem _ hx))
    rw [List.flatMap_cons, List.length_append, List.length_cons]; omega
theorem small_put {L : List Ch} (h : ∀ c ∈ L, smallCh c) (hl : L.length ≤ 15) : (putChs L).length ≤ 8000 := by
  have h1 := small_flat h
  have h2 := putNum_len 9 L.length (by omega)
  unfold putChs
  rw [List.length_append]; omega

set_option maxRecDepth 100000 in
set_option maxHeartbeats 4000000 in
theorem codechanges_c (w : World) (vl : Value) (l : List Ch) (at' more : Nat) (h : Sl w 5 vl l.length (flatE encCh l)) (hm9 : more ≤ 65535) (ha9 : at' ≤ 255) :
    Calls Tryz.prog 4 #[vl, .int .u8 (at' : Int), .int .u16 (more : Int)] w fun e w' => e = .returned (.bool true) ∧ Ext w w' := by
  have HL0 := Lib.hid h
  clear h
  go_enter Tryz.func4, Tryz.ntmps4
  repeat' (first | go_at_call 6 | go_skip | go_guarded | go_step)
  refine (awakeC_c w).mono ?_
  rintro e w1 ⟨rfl, f1⟩
  have H1 := Lib.hid f1
  clear f1
  go_simp
  repeat' (first | go_at_call 14 | go_skip | go_guarded | go_step)
  refine (some_c w1 vl l at' more (HL0.out.below H1.out) hm9 ha9).mono ?_
  rintro e w2 ⟨v2, L, rfl, r2, f2, hL, hS⟩
  obtain ⟨A2, C2, rfl⟩ := own_slice r2
  have H2 := Lib.hid (And.intro (Sl.of_own r2) (Ext.trans H1.out f2))
  have hP9 := small_put hS hL
  have HW := Lib.hid (wchanges_c w2 _ L H2.out.1 (by omega) (by omega))
  obtain ⟨E, hE⟩ : ∃ E, E = rightL L := ⟨_, rfl⟩
  obtain ⟨X, hX⟩ : ∃ X, X = (if E = 0 then putChs L else []) := ⟨_, rfl⟩
  have HRC : Hid (∀ (W : World) (v : Value), Sl W 5 v L.length (flatE encCh L) → Calls Tryz.prog 15 #[v] W fun e w' => ∃ v', e = .returned (.tuple #[v', .int .i64 (E : Nat)]) ∧ w'.ownsRow W.heap.size 5 1 v' X.length (encB X) ∧ Ext W w') := Lib.hid (fun W v h => by
    have := rchanges_c W v L h (by omega) (by omega) (fun c hc => Nat.le_trans (hS c hc).1 (by decide))
    rw [← hE, ← hX] at this
    exact this)
  rw [← hE, ← hX] at HW
  have HEX : Hid (E = 0 → X = putChs L ∧ readP X = (L, 0)) := Lib.hid (fun h0 => by
    have e : X = putChs L := by rw [hX, if_pos h0]
    exact ⟨e, by rw [e]; exact read_put L (by rw [← hE]; exact h0) (by omega)⟩)
  have hX9 : X.length ≤ 8000 := by
    rw [hX]; split
    · exact hP9
    · simp
  clear r2 f2 hE hX hP9 hS
  go_simp
  repeat' (first | go_at_call 12 | go_skip | go_guarded | go_step)
  refine HW.out.mono ?_
  rintro e w3 ⟨v3, rfl, r3, f3⟩
  obtain ⟨A3, C3, rfl⟩ := own_slice r3
  have H3 : Hid (Sl w3 5 (.slice A2 L.length C2) L.length (flatE encCh L) ∧ BS w3 (.slice A3 X.length C3) X ∧ Ext w w3) := Lib.hid ⟨H2.out.1.below f3, BS.of_own r3, Ext.trans H2.out.2 f3⟩
  clear r3 f3 HW H2
  go_simp
  repeat' (first | go_at_call 11 | go_skip | go_guarded | go_step)
  refine (chgs_c w3 _ L H3.out.1 (by omega)).mono ?_
  rintro e w4 ⟨v4, rfl, r4, f4⟩
  have H4 := Lib.hid (And.intro (Sl.of_own r4) f4)
  clear r4 f4
  go_simp
  repeat' (first | go_at_call 15 | go_skip | go_guarded | go_step)
  refine (HRC.out w4 v4 H4.out.1).mono ?_
  rintro e w5 ⟨v5, rfl, r5, f5⟩
  obtain ⟨A5, C5, rfl⟩ := own_slice r5
  have H5 : Hid (Sl w5 5 (.slice A2 L.length C2) L.length (flatE encCh L) ∧ BS w5 (.slice A3 X.length C3) X ∧ BS w5 (.slice A5 X.length C5) X ∧ Ext w w5) := Lib.hid ⟨(H3.out.1.below H4.out.2).below f5, (H3.out.2.1.below H4.out.2).below f5, BS.of_own r5, Ext.trans H3.out.2.2 (Ext.trans H4.out.2 f5)⟩
  clear r5 f5 H3 H4
  have hEE : ((E : Int) != (E : Int)) = false := by simp
  go_simp
  repeat' (first | go_at_call 13 | go_skip | go_guarded | go_step)
  refine (rsame_c w5 _ _ X X H5.out.2.1 H5.out.2.2.1).mono ?_
  rintro e w6 ⟨rfl, f6⟩
  have H6 : Hid (Sl w6 5 (.slice A2 L.length C2) L.length (flatE encCh L) ∧ BS w6 (.slice A3 X.length C3) X ∧ Ext w w6) := Lib.hid ⟨H5.out.1.below f6, H5.out.2.1.below f6, Ext.trans H5.out.2.2.2 f6⟩
  clear f6 H5
  go_simp
  by_cases hE0 : E = 0
  · have d1 : ((E : Int) != 0) = false := by rw [bne_eq_false_iff_eq]; omega
    have d2 : ((E : Int) == 0) = true := by rw [beq_iff_eq]; omega
    have HR := Lib.hid (readchanges_c w6 _ X H6.out.2.1 (by omega))
    rw [(HEX.out hE0).2] at HR
    replace hE0 := Lib.hid hE0
    repeat' (first | go_at_call 8 | go_skip | go_guarded | go_step)
    refine HR.out.mono ?_
    rintro e w7 ⟨v7, rfl, r7, f7⟩
    have H7 := Lib.hid (And.intro (Sl.of_own r7) (And.intro (H6.out.1.below f7) (Ext.trans H6.out.2.2 f7)))
    clear r7 f7 HR
    go_simp
    repeat' (first | go_at_call 16 | go_skip | go_guarded | go_step)
    refine (dsame_c w7 _ _ L L H7.out.2.1 H7.out.1 (by omega) (by omega)).mono ?_
    rintro e w8 ⟨rfl, f8⟩
    have H8 := Lib.hid (Ext.trans H7.out.2.2 f8)
    clear f8
    go_simp
    repeat' (first | go_skip | go_guarded | go_step)
    go_ret
    exact ⟨rfl, H8.out⟩
  · have d1 : ((E : Int) != 0) = true := by rw [bne_iff_ne]; omega
    have d2 : ((E : Int) == 0) = false := by rw [beq_eq_false_iff_ne]; omega
    replace hE0 := Lib.hid hE0
    repeat' (first | go_skip | go_guarded | go_step)
    go_ret
    exact ⟨rfl, H6.out.2.2⟩
end Go.Proofs.YtigoffdehdobiaaGreat
