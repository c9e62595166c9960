/- What the document reads: in memory; contracts of its Fail, End, Byte, GetFixed. -/
import Derived.Test.YtigoffdehdobiaaGreatBf
import Derived.Deep.RegionHeld3
set_option linter.unusedVariables false
set_option linter.unusedSimpArgs false
namespace Go.Proofs.YtigoffdehdobiaaGreat
open Go.RowKit Go.QS
set_option linter.unusedVariables false

abbrev RfT : TypeId := 79
/-- Bytes, how far, and the error. -/
structure RefAt (V : Nat → Prop) (x : Nat) (w : World) (P l : List UInt8) (e : Nat) : Prop where
  ex : ∃ A c at', w.heap[x]? = some (.cells #[.slice A P.length c, .int .i64 ((at' : Nat) : Int), .int .i64 (e : Int)] RfT (0, 0)) ∧ P.length ≤ c ∧ c ≤ maxLen ∧ Seg w A (encB P) ∧ (∀ a, A = some a → a.block ≠ x ∧ V a.block) ∧ at' ≤ P.length ∧ l = P.drop at'
theorem RefAt.ext {V : Nat → Prop} {x : Nat} {w w' : World} {P l : List UInt8} {e : Nat} (h : RefAt V x w P l e) (f : Ext w w') : RefAt V x w' P l e := by
  obtain ⟨A, c, at', h1, h2, h3, h4, h5, h6, h7⟩ := h.ex
  exact ⟨A, c, at', box_extG h1 f, h2, h3, h4.below f, h5, h6, h7⟩
theorem box3G {w : World} {g : Nat} {a b d : Value} {t : TypeId} {f : Nat × Nat} (h : w.heap[g]? = some (.cells #[a, b, d] t f)) : w.cell? ⟨g, 0, none⟩ = some a ∧ w.cell? ⟨g, 1, none⟩ = some b ∧ w.cell? ⟨g, 2, none⟩ = some d :=
  ⟨by rw [cellG h]; rfl, by rw [cellG h]; rfl, by rw [cellG h]; rfl⟩

set_option maxRecDepth 100000 in
theorem rfail_c {V : Nat → Prop} {x : Nat} {w : World} {P l : List UInt8} {e : Nat} (h : RefAt V x w P l e) (k : Nat) : Calls Tryz.prog 38 #[ptr x, .int .i64 (k : Int)] w fun y w' => y = .returned (.tuple #[]) ∧ RefAt V x w' P l (sFail k (l, e)).2 ∧ One x w w' := by
  obtain ⟨A, c, at', h1, h2, h3, h4, h5, h6, h7⟩ := h.ex
  obtain ⟨b0, b1, b2⟩ := box3G h1
  have f1 := freeG h1 2
  have hl := heap_lt h1
  have HH := Lib.hid (And.intro h1 (And.intro h4 (And.intro h5 (And.intro h7 h))))
  clear h h4 h5 h1 h7
  unfold sFail
  by_cases he : e = 0
  · subst he
    go_enter Tryz.func38, Tryz.ntmps38
    repeat' (first | go_skip | go_guarded | go_step)
    (try simp only [Exit.inBlock, Exit.then])
    first | refine bodyPost_ret (results_none rfl _ _ _) rfl ?_ | refine bodyPost_end (results_none rfl _ _ _) rfl ?_
    have hO : One x w (w.setCell ⟨x, 2, none⟩ (.int .i64 (k : Int))) := (One.refl w).setCell 2 _
    exact ⟨rfl, ⟨A, c, at', heap_set HH.out.1 2 _, h2, h3, HH.out.2.1.one hO HH.out.2.2.1, HH.out.2.2.1, h6, HH.out.2.2.2.1⟩, hO⟩
  · have hd : ¬ (e : Int) = 0 := by omega
    have d1 : ((e : Int) == 0) = false := by rw [beq_eq_false_iff_ne]; exact hd
    rw [if_neg he]
    go_enter Tryz.func38, Tryz.ntmps38
    repeat' (first | go_skip | go_guarded | go_step)
    (try simp only [Exit.inBlock, Exit.then])
    first | refine bodyPost_ret (results_none rfl _ _ _) rfl ?_ | refine bodyPost_end (results_none rfl _ _ _) rfl ?_
    exact ⟨rfl, HH.out.2.2.2.2, One.refl w⟩

def sEnd (s : St2) : St2 := if s.1 = [] then s else sFail 9 s
set_option maxRecDepth 100000 in
theorem rend_c {V : Nat → Prop} {x : Nat} {w : World} {P l : List UInt8} {e : Nat} (h : RefAt V x w P l e) : Calls Tryz.prog 39 #[ptr x] w fun y w' => y = .returned (.int .i64 ((sEnd (l, e)).2 : Int)) ∧ RefAt V x w' P l (sEnd (l, e)).2 ∧ One x w w' := by
  obtain ⟨A, c, at', h1, h2, h3, h4, h5, h6, h7⟩ := h.ex
  obtain ⟨b0, b1, b2⟩ := box3G h1
  have hl := heap_lt h1
  have HH := Lib.hid (And.intro h1 (And.intro h7 h))
  obtain ⟨m, hm⟩ : ∃ m, m = P.length := ⟨_, rfl⟩
  rw [← hm] at b0 h6
  unfold sEnd
  by_cases hlt : at' < m
  · have hne : ¬ l = [] := by
      intro e
      have := congrArg List.length e
      rw [h7, List.length_drop] at this
      simp at this; omega
    simp only
    rw [if_neg hne]
    have e1 : (at' : Int) < (m : Int) := by omega
    have d1 : decide (at' < m) = true := decide_eq_true hlt
    clear h h4 h5 h1 h7 hne hm
    go_enter Tryz.func39, Tryz.ntmps39
    repeat' (go_not_at_region 1; (first | go_skip | go_guarded | go_step))
    go_quiet (fail)
    have HF := Lib.hid (rfail_c (HH.out.2.2.ext (below_drewN (Ext.refl w) nq)) 9)
    repeat' (first
      | (go_at_call 38; refine HF.out.mono ?_; rintro y w1 ⟨rfl, hR, hO⟩
         obtain ⟨A', c', a', q1, qr⟩ := hR.ex
         obtain ⟨k0, k1, k2⟩ := box3G q1
         have k3 := heap_lt q1
         replace hR := Lib.hid hR; replace hO := Lib.hid hO; clear q1 qr; go_simp)
      | go_skip | go_guarded | go_step)
    go_ret
    exact ⟨rfl, hR.out, (One.of_ext (below_drewN (Ext.refl w) nq)).trans hO.out⟩
  · have hne : l = [] := by rw [h7]; exact List.drop_eq_nil_of_le (by omega)
    simp only
    rw [if_pos hne]
    have e1 : ¬ (at' : Int) < (m : Int) := by omega
    have d1 : decide (at' < m) = false := decide_eq_false hlt
    clear h h4 h5 h1 h7 hne hm
    go_enter Tryz.func39, Tryz.ntmps39
    repeat' (go_not_at_region 1; (first | go_skip | go_guarded | go_step))
    go_quiet (fail)
    repeat' (first | go_skip | go_guarded | go_step)
    go_ret
    exact ⟨rfl, HH.out.2.2.ext (below_drewN (Ext.refl w) nq), One.of_ext (below_drewN (Ext.refl w) nq)⟩

set_option maxRecDepth 100000 in
set_option maxHeartbeats 1000000 in
theorem rbyte_c {V : Nat → Prop} {x : Nat} {w : World} {P l : List UInt8} {e : Nat} (h : RefAt V x w P l e) :
    Calls Tryz.prog 37 #[ptr x] w fun y w' => y = .returned (.int .u8 ((sByte (l, e)).1 : Int)) ∧ RefAt V x w' P (sByte (l, e)).2.1 (sByte (l, e)).2.2 ∧ One x w w' := by
  obtain ⟨A, c, at', h1, h2, h3, h4, h5, h6, h7⟩ := h.ex
  obtain ⟨b0, b1, b2⟩ := box3G h1
  have f1 := freeG h1 1
  have f2 := freeG h1 2
  have hl := heap_lt h1
  have HH := Lib.hid (And.intro h1 (And.intro h4 (And.intro h5 (And.intro h7 h))))
  obtain ⟨m, hm⟩ : ∃ m, m = P.length := ⟨_, rfl⟩
  rw [← hm] at b0
  have HM := Lib.hid hm
  obtain ⟨T, hT⟩ : ∃ T, T = sByte (l, e) := ⟨_, rfl⟩
  rw [← hT]
  have HT := Lib.hid hT
  have h6' : at' ≤ m := by omega
  have hm9 : m ≤ 9223372036854775807 := by have := HM.out; unfold maxLen at h3; omega
  clear h h4 h5 h1 h7 hT hm
  by_cases he : e = 0
  · subst he
    by_cases hlt : at' < m
    · obtain ⟨b, hb⟩ := get_of_lt P (show at' < P.length by have := HM.out; omega)
      have hd : P.drop at' = b :: P.drop (at' + 1) := by rw [List.drop_eq_getElem?_toList_append, hb]; rfl
      have hTe : T = (b.toNat, (P.drop (at' + 1), 0)) := by
        rw [HT.out, HH.out.2.2.2.1, hd]
        simp [sByte, sTake]
      have HTE := Lib.hid hTe
      obtain ⟨b1', o1, rfl, hc1⟩ := HH.out.2.1 (by intro e; have := congrArg List.length e; rw [encB_length] at this; have := HM.out; simp only [List.length_nil] at *; omega)
      have hq := hc1 at' _ (encB_get hb)
      have hbx : b1' ≠ x := (HH.out.2.2.1 _ rfl).1
      have e1 : ¬ (m : Int) ≤ (at' : Int) := by omega
      have e2 : (at' : Int) < (m : Int) := by omega
      clear hTe hd hc1 hb
      have HQ := Lib.hid hq
      clear hq
      go_enter Tryz.func37, Tryz.ntmps37
      repeat' (go_not_at_region 3; (first | go_skip | go_guarded | go_step))
      go_quiet (fail)
      repeat' (go_not_at_region 7; (first | go_skip | go_guarded | go_step))
      obtain ⟨w2, hw2⟩ : ∃ w2, w2 = (w.drewN nq).setCell ⟨x, 1, none⟩ (.int .i64 ((at' : Int) + 1)) := ⟨_, rfl⟩
      have hw2' := hw2.symm
      rw [hw2']
      have hq1 := box_extG HH.out.1 (below_drewN (Ext.refl w) nq)
      have hO : One x w w2 := by rw [hw2]; exact (One.of_ext (below_drewN (Ext.refl w) nq)).setCell 1 _
      have hq2 : w2.heap[x]? = some (.cells #[.slice (some ⟨b1', o1, none⟩) P.length c, .int .i64 ((at' : Int) + 1), .int .i64 0] RfT (0, 0)) := by rw [hw2]; exact heap_set hq1 1 _
      rw [← HM.out] at hq2
      clear b0 b1 b2 hq1
      obtain ⟨b0, b1, b2⟩ := box3G hq2
      have hcell : w2.cell? ⟨b1', o1 + at', none⟩ = some (.int .u8 (b.toNat : Int)) := (World.cell?_of_block (w := w) (hO.block b1' (World.block_lt_of_cell? w _ HQ.out) hbx)).trans HQ.out
      have H2 := Lib.hid (And.intro hq2 hO)
      clear hw2 hw2' hq2 hO
      go_quiet (fail)
      repeat' (first | go_skip | go_guarded | go_step)
      go_ret
      rw [HTE.out]
      have hf := below_drewN (Ext.refl w2) nq
      refine ⟨rfl, ⟨_, c, at' + 1, ?_, h2, h3, (HH.out.2.1.one H2.out.2 HH.out.2.2.1).below hf, HH.out.2.2.1, by have := HM.out; omega, rfl⟩, H2.out.2.trans (One.of_ext hf)⟩
      have := box_extG H2.out.1 hf
      rw [HM.out] at this
      exact this
    · have hd : P.drop at' = [] := List.drop_eq_nil_of_le (by have := HM.out; omega)
      have hTe : T = (0, (l, 9)) := by
        rw [HT.out, HH.out.2.2.2.1, hd]
        simp [sByte, sTake]
      have HTE := Lib.hid hTe
      have e1 : (m : Int) ≤ (at' : Int) := by omega
      clear hTe hd
      go_enter Tryz.func37, Tryz.ntmps37
      repeat' (go_not_at_region 3; (first | go_skip | go_guarded | go_step))
      go_quiet (fail)
      repeat' (first | go_skip | go_guarded | go_step)
      go_ret
      rw [HTE.out]
      have hf := below_drewN (Ext.refl w) nq
      have hO := (One.of_ext (g := x) hf).setCell 2 (.int .i64 9)
      exact ⟨rfl, ⟨A, c, at', heap_set (box_extG HH.out.1 hf) 2 _, h2, h3, HH.out.2.1.one hO HH.out.2.2.1, HH.out.2.2.1, h6, HH.out.2.2.2.1⟩, hO⟩
  · have hTe : T = (0, (l, e)) := by
      rw [HT.out]
      simp [sByte, sTake, he]
    have HTE := Lib.hid hTe
    have d1 : ((e : Int) != 0) = true := by rw [bne_iff_ne]; omega
    have d2 : ((e : Int) == 0) = false := by rw [beq_eq_false_iff_ne]; omega
    clear hTe
    go_enter Tryz.func37, Tryz.ntmps37
    repeat' (first | go_skip | go_guarded | go_step)
    go_ret
    rw [HTE.out]
    exact ⟨rfl, HH.out.2.2.2.2, One.refl w⟩

end Go.Proofs.YtigoffdehdobiaaGreat
