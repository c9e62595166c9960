/- Texts joined. -/
import Derived.Test.YtigoffdehdobiaaGreatBg
set_option linter.unusedVariables false
set_option linter.unusedSimpArgs false
/- Contracts: the document's GetNum, GetText. -/
namespace Go.Proofs.YtigoffdehdobiaaGreat
open Go.RowKit Go.QS
set_option linter.unusedVariables false

theorem numD_some {l r : List UInt8} {n : Nat} (h : numA 0 0 l = some (n, r)) : numD l = (n, l.length - r.length) ∧ 0 < l.length - r.length ∧ r = l.drop (l.length - r.length) := by
  have h1 := (numA_iff.1 h).1
  have h2 : 0 < (putNum n).length := by
    by_cases hn : n < 128
    · rw [putNum_lt hn]; simp
    · rw [putNum_ge hn]; simp
  have h3 : l.length - r.length = (putNum n).length := by rw [h1, List.length_append]; omega
  refine ⟨by unfold numD; rw [h], by omega, ?_⟩
  rw [h3, h1, List.drop_left]
theorem numD_none {l : List UInt8} (h : numA 0 0 l = none) : numD l = (0, 0) := by unfold numD; rw [h]

set_option maxRecDepth 100000 in
set_option maxHeartbeats 1000000 in
theorem rnum_c {V : Nat → Prop} {x : Nat} {w : World} {P l : List UInt8} {e : Nat} (h : RefAt V x w P l e) (hP9 : P.length ≤ 1000000000) :
    Calls Tryz.prog 35 #[ptr x] w fun y w' => y = .returned (.int .u64 ((sNum (l, e)).1 : Int)) ∧ RefAt V x w' P (sNum (l, e)).2.1 (sNum (l, e)).2.2 ∧ One x w w' := by
  obtain ⟨A, c, at', h1, h2, h3, h4, h5, h6, h7⟩ := h.ex
  obtain ⟨b0, b1, b2⟩ := box3G h1
  have f1 := freeG h1 1
  have f2 := freeG h1 2
  have hl := heap_lt h1
  have HH := Lib.hid (And.intro h1 (And.intro h4 (And.intro h5 (And.intro h7 h))))
  obtain ⟨m, hm⟩ : ∃ m, m = P.length := ⟨_, rfl⟩
  rw [← hm] at b0 hP9
  have HM := Lib.hid hm
  obtain ⟨T, hT⟩ : ∃ T, T = sNum (l, e) := ⟨_, rfl⟩
  rw [← hT]
  have HT := Lib.hid hT
  have h6' : at' ≤ m := by omega
  have HK : Hid (∀ y, Ext w y → (y.cell? ⟨x, 0, none⟩ = some (.slice A m c) ∧ y.cell? ⟨x, 1, none⟩ = some (.int .i64 (at' : Int)))) := Lib.hid (fun y hy => by
    obtain ⟨q0, q1, q2⟩ := box3G (box_extG HH.out.1 hy)
    exact ⟨by rw [q0, HM.out], q1⟩)
  have HN : Hid (∀ y, Ext w y → Calls Tryz.prog 55 #[.slice A m c, .int .i64 (at' : Int)] y fun z w' => z = .returned (.tuple #[.int .u64 ((numD l).1 : Int), .int .i64 ((numD l).2 : Int)]) ∧ y = w') := Lib.hid (fun y hy => by
    have := number_c y (.slice A m c) P at' ⟨A, c, by rw [HM.out], by rw [encB_length]; omega, h2, h3, HH.out.2.1.below hy⟩ h6 (by rw [← HM.out]; exact hP9)
    rw [HH.out.2.2.2.1]
    exact this)
  clear h h4 h5 h1 h7 hT hm
  by_cases he : e = 0
  · subst he
    cases hnum : numA 0 0 l with
    | none =>
      have hd := numD_none hnum
      have hTe : T = (0, (l, 9)) := by rw [HT.out]; simp [sNum, hnum]
      have HTE := Lib.hid hTe
      rw [hd] at HN
      clear hnum hTe hd
      go_enter Tryz.func35, Tryz.ntmps35
      repeat' (go_not_at_region 3; (first | go_skip | go_guarded | go_step))
      go_region_held3 (fun y => y.cell? ⟨x, 0, none⟩ = some (.slice A m c) ∧ y.cell? ⟨x, 1, none⟩ = some (.int .i64 (at' : Int)))
        (first | exact HK.out _ k1.out | exact HK.out _ (below_drewN (Ext.refl _) 1) | exact HK.out _ (Ext.refl _))
        (first
          | (go_at_call 55; refine (HN.out _ (below_drewN (Ext.refl _) 1)).mono ?_; rintro z y1 ⟨rfl, rfl⟩; have k1 : Hid (Ext w (w.drewN 1)) := Lib.hid (below_drewN (Ext.refl _) 1)))
      have hbx := box_extG HH.out.1 k1.out
      rw [← HM.out] at hbx
      obtain ⟨v0, v1, v2⟩ := box3G hbx
      have g1 := freeG hbx 1
      have g2 := freeG hbx 2
      have hl1 := heap_lt hbx
      clear hbx
      repeat' (first | go_skip | go_guarded | go_step)
      go_ret
      rw [HTE.out]
      have hO1 := (One.of_ext (g := x) k1.out).setCell 2 (.int .i64 9)
      have hO := hO1.setCell 1 (.int .i64 (at' : Int))
      exact ⟨rfl, ⟨A, c, at', heap_set (heap_set (box_extG HH.out.1 k1.out) 2 _) 1 _, h2, h3, HH.out.2.1.one hO HH.out.2.2.1, HH.out.2.2.1, h6, HH.out.2.2.2.1⟩, hO⟩
    | some nr =>
      obtain ⟨n, r⟩ := nr
      obtain ⟨hd, hpos, hr⟩ := numD_some hnum
      have hTe : T = (n, (r, 0)) := by rw [HT.out]; simp [sNum, hnum]
      have HTE := Lib.hid hTe
      obtain ⟨k, hk⟩ : ∃ k, k = l.length - r.length := ⟨_, rfl⟩
      rw [← hk] at hd hpos hr
      rw [hd] at HN
      have hkm : at' + k ≤ m := by
        have h1 : l.length = m - at' := by rw [HH.out.2.2.2.1, List.length_drop, HM.out]
        omega
      have HR : Hid (r = P.drop (at' + k)) := Lib.hid (by rw [hr, HH.out.2.2.2.1, List.drop_drop])
      have d3 : ((k : Int) == 0) = false := by rw [beq_eq_false_iff_ne]; omega
      clear hnum hTe hd hr hk
      go_enter Tryz.func35, Tryz.ntmps35
      repeat' (go_not_at_region 3; (first | go_skip | go_guarded | go_step))
      go_region_held3 (fun y => y.cell? ⟨x, 0, none⟩ = some (.slice A m c) ∧ y.cell? ⟨x, 1, none⟩ = some (.int .i64 (at' : Int)))
        (first | exact HK.out _ k1.out | exact HK.out _ (below_drewN (Ext.refl _) 1) | exact HK.out _ (Ext.refl _))
        (first
          | (go_at_call 55; refine (HN.out _ (below_drewN (Ext.refl _) 1)).mono ?_; rintro z y1 ⟨rfl, rfl⟩; have k1 : Hid (Ext w (w.drewN 1)) := Lib.hid (below_drewN (Ext.refl _) 1)))
      have hbx := box_extG HH.out.1 k1.out
      rw [← HM.out] at hbx
      obtain ⟨v0, v1, v2⟩ := box3G hbx
      have g1 := freeG hbx 1
      have g2 := freeG hbx 2
      have hl1 := heap_lt hbx
      clear hbx
      repeat' (first | go_skip | go_guarded | go_step)
      go_ret
      rw [HTE.out]
      have hO := (One.of_ext (g := x) k1.out).setCell 1 (.int .i64 ((at' : Int) + (k : Int)))
      exact ⟨rfl, ⟨A, c, at' + k, heap_set (box_extG HH.out.1 k1.out) 1 _, h2, h3, HH.out.2.1.one hO HH.out.2.2.1, HH.out.2.2.1, by rw [← HM.out]; exact hkm, HR.out⟩, hO⟩
  · have hTe : T = (0, (l, e)) := by
      rw [HT.out]
      simp [sNum, he]
    have HTE := Lib.hid hTe
    have d1 : ((e : Int) != 0) = true := by rw [bne_iff_ne]; omega
    have d2 : ((e : Int) == 0) = false := by rw [beq_eq_false_iff_ne]; omega
    clear hTe
    go_enter Tryz.func35, Tryz.ntmps35
    repeat' (first | go_skip | go_guarded | go_step)
    go_ret
    rw [HTE.out]
    exact ⟨rfl, HH.out.2.2.2.2, One.refl w⟩

theorem run_midB {t e : TypeId} (ht : Tryz.prog.underlying t = some (.slice e)) (hi : ∃ i z, Tryz.prog.info? e = some i ∧ i.zero = some z ∧ i.size = 1 ∧ i.bytes = 1 ∧ z.cells.size = 1) (A : Option Addr) {n c lo up : Nat} (h1 : lo ≤ up) (h2 : up ≤ n) (hnc : n ≤ c) :
    ∃ A2, (∀ w, (Instr.slice t (.slice A n c) (some (.int .i64 (lo : Int))) (some (.int .i64 (up : Int))) none).run Tryz.prog w = .ok (.slice A2 (up - lo) (c - lo)) w) ∧
      (∀ (w : World) (xs : List Value), xs.length = n → Seg w A xs → Seg w A2 ((xs.drop lo).take (up - lo))) := by
  obtain ⟨inf, z, hi, hz, hs, hb, hzs⟩ := hi
  refine ⟨if c = lo then A else A.map (·.add lo), fun w => ?_, fun w xs hl hs => ?_⟩
  · have g1 : (0 : Int) ≤ (lo : Int) := by omega
    have g2 : (lo : Int) ≤ (up : Int) := by omega
    have g3 : (up : Int) ≤ (c : Int) := by omega
    have g4 : up ≤ c := by omega
    simp [Instr.slice, Instr.sliceBounds, Instr.sliceBound, asIntOf, run_underlying ht, sizeOf, typeInfo, hi, hs, h1, g4]
  · by_cases h : c = lo
    · have : (xs.drop lo).take (up - lo) = [] := by rw [List.drop_eq_nil_of_le (by omega), List.take_nil]
      rw [this]; exact Seg.nil _ _
    · rw [if_neg h]
      refine Seg.take ?_ _
      intro hne
      obtain ⟨b, o, hA, hc⟩ := hs (fun e => hne (by simp [e]))
      subst hA
      obtain ⟨b', o', hA', hc'⟩ := Seg.drop (w := w) (b := b) (o := o) hs lo hne
      cases hA'
      exact ⟨b, o + lo, by simp [Addr.add_lit], hc'⟩

set_option maxRecDepth 100000 in
set_option maxHeartbeats 1000000 in
theorem rtext_c {V : Nat → Prop} {x : Nat} {w : World} {P l : List UInt8} {e : Nat} (h : RefAt V x w P l e) (hP9 : P.length ≤ 1000000000) (most : Int) (long : Nat) (hmost : most ≤ 9223372036854775807) :
    Calls Tryz.prog 36 #[ptr x, .int .i64 most, .int .i64 (long : Int)] w fun y w' => y = .returned (str (sText most long (l, e)).1) ∧ RefAt V x w' P (sText most long (l, e)).2.1 (sText most long (l, e)).2.2 ∧ One x w w' := by
  obtain ⟨A, c, at', h1, h2, h3, h4, h5, h6, h7⟩ := h.ex
  obtain ⟨b0, b1, b2⟩ := box3G h1
  have f1 := freeG h1 1
  have f2 := freeG h1 2
  have hl := heap_lt h1
  have HH := Lib.hid (And.intro h1 (And.intro h4 (And.intro h5 (And.intro h7 h))))
  obtain ⟨m, hm⟩ : ∃ m, m = P.length := ⟨_, rfl⟩
  rw [← hm] at b0 hP9
  have HM := Lib.hid hm
  obtain ⟨T, hT⟩ : ∃ T : List UInt8 × St2, T = sText most long (l, e) := ⟨_, rfl⟩
  rw [← hT]
  have HT := Lib.hid hT
  have h6' : at' ≤ m := by omega
  have HK : Hid (∀ y, Ext w y → (y.cell? ⟨x, 0, none⟩ = some (.slice A m c) ∧ y.cell? ⟨x, 1, none⟩ = some (.int .i64 (at' : Int)))) := Lib.hid (fun y hy => by
    obtain ⟨q0, q1, q2⟩ := box3G (box_extG HH.out.1 hy)
    exact ⟨by rw [q0, HM.out], q1⟩)
  have HN : Hid (∀ y, Ext w y → Calls Tryz.prog 55 #[.slice A m c, .int .i64 (at' : Int)] y fun z w' => z = .returned (.tuple #[.int .u64 ((numD l).1 : Int), .int .i64 ((numD l).2 : Int)]) ∧ y = w') := Lib.hid (fun y hy => by
    have := number_c y (.slice A m c) P at' ⟨A, c, by rw [HM.out], by rw [encB_length]; omega, h2, h3, HH.out.2.1.below hy⟩ h6 (by rw [← HM.out]; exact hP9)
    rw [HH.out.2.2.2.1]
    exact this)
  clear h h4 h5 h1 h7 hT hm
  by_cases he : e = 0
  · subst he
    have hTT : T = (match numA 0 0 l with
      | none => ([], (l, 9))
      | some (n, r) => if most < 0 ∨ most < (n : Int) then ([], (l, long)) else if r.length < n then ([], (l, 9)) else (r.take n, (r.drop n, 0))) := by
      rw [HT.out]; unfold sText; rw [if_pos rfl]; rfl
    cases hnum : numA 0 0 l with
    | none =>
      have hd := numD_none hnum
      rw [hnum] at hTT
      have HTE := Lib.hid hTT
      rw [hd] at HN
      clear hnum hTT hd
      go_enter Tryz.func36, Tryz.ntmps36
      repeat' (go_not_at_region 3; (first | go_skip | go_guarded | go_step))
      go_region_held3 (fun y => y.cell? ⟨x, 0, none⟩ = some (.slice A m c) ∧ y.cell? ⟨x, 1, none⟩ = some (.int .i64 (at' : Int)))
        (first | exact HK.out _ k1.out | exact HK.out _ (below_drewN (Ext.refl _) 1) | exact HK.out _ (Ext.refl _))
        (first
          | (go_at_call 55; refine (HN.out _ (below_drewN (Ext.refl _) 1)).mono ?_; rintro z y1 ⟨rfl, rfl⟩; have k1 : Hid (Ext w (w.drewN 1)) := Lib.hid (below_drewN (Ext.refl _) 1)))
      have hbx := box_extG HH.out.1 k1.out
      rw [← HM.out] at hbx
      obtain ⟨v0, v1, v2⟩ := box3G hbx
      have g1 := freeG hbx 1
      have g2 := freeG hbx 2
      have hl1 := heap_lt hbx
      clear hbx
      repeat' (first | go_skip | go_guarded | go_step)
      go_ret
      rw [HTE.out]
      have hO := (One.of_ext (g := x) k1.out).setCell 2 (.int .i64 9)
      exact ⟨rfl, ⟨A, c, at', heap_set (box_extG HH.out.1 k1.out) 2 _, h2, h3, HH.out.2.1.one hO HH.out.2.2.1, HH.out.2.2.1, h6, HH.out.2.2.2.1⟩, hO⟩
    | some nr =>
      obtain ⟨n, r⟩ := nr
      obtain ⟨hd, hpos, hr⟩ := numD_some hnum
      have hn64 := numA_lt hnum
      rw [hnum] at hTT
      simp only at hTT
      have HTT := Lib.hid hTT
      obtain ⟨k, hk⟩ : ∃ k, k = l.length - r.length := ⟨_, rfl⟩
      rw [← hk] at hd hpos hr
      rw [hd] at HN
      have hll : l.length = m - at' := by rw [HH.out.2.2.2.1, List.length_drop, HM.out]
      have hkm : at' + k ≤ m := by omega
      have HR : Hid (r = P.drop (at' + k)) := Lib.hid (by rw [hr, HH.out.2.2.2.1, List.drop_drop])
      obtain ⟨q, hq⟩ : ∃ q, q = r.length := ⟨_, rfl⟩
      have hqm : at' + k + q = m := by rw [hq, HR.out, List.length_drop, ← HM.out]; omega
      have HQ := Lib.hid hq
      have d3 : ((k : Int) == 0) = false := by rw [beq_eq_false_iff_ne]; omega
      clear hnum hTT hd hr hk hll hq
      go_enter Tryz.func36, Tryz.ntmps36
      repeat' (go_not_at_region 3; (first | go_skip | go_guarded | go_step))
      go_region_held3 (fun y => y.cell? ⟨x, 0, none⟩ = some (.slice A m c) ∧ y.cell? ⟨x, 1, none⟩ = some (.int .i64 (at' : Int)))
        (first | exact HK.out _ k1.out | exact HK.out _ (below_drewN (Ext.refl _) 1) | exact HK.out _ (Ext.refl _))
        (first
          | (go_at_call 55; refine (HN.out _ (below_drewN (Ext.refl _) 1)).mono ?_; rintro z y1 ⟨rfl, rfl⟩; have k1 : Hid (Ext w (w.drewN 1)) := Lib.hid (below_drewN (Ext.refl _) 1)))
      have hbx := box_extG HH.out.1 k1.out
      rw [← HM.out] at hbx
      obtain ⟨v0, v1, v2⟩ := box3G hbx
      have g1 := freeG hbx 1
      have g2 := freeG hbx 2
      have hl1 := heap_lt hbx
      clear hbx
      repeat' (go_not_at_region 7; (first | go_skip | go_guarded | go_step))
      by_cases hmo : most < 0 ∨ most < (n : Int)
      · have hTe : T = ([], (l, long)) := by rw [HTT.out, if_pos hmo]
        have HTE := Lib.hid hTe
        clear hTe
        by_cases hm0 : most < 0
        · clear hmo
          repeat' (first | go_skip | go_guarded | go_step)
          go_ret
          rw [HTE.out]
          have hO := (One.of_ext (g := x) k1.out).setCell 2 (.int .i64 (long : Int))
          exact ⟨rfl, ⟨A, c, at', heap_set (box_extG HH.out.1 k1.out) 2 _, h2, h3, HH.out.2.1.one hO HH.out.2.2.1, HH.out.2.2.1, h6, HH.out.2.2.2.1⟩, hO⟩
        · have hmn : most < (n : Int) := by omega
          have hw1 : IntKind.u64.wrap most = most := by rw [IntKind.wrap_u64]; omega
          have hw2 : most % 18446744073709551616 = most := by omega
          clear hmo
          repeat' (first | go_skip | go_guarded | go_step)
          go_ret
          rw [HTE.out]
          have hO := (One.of_ext (g := x) k1.out).setCell 2 (.int .i64 (long : Int))
          exact ⟨rfl, ⟨A, c, at', heap_set (box_extG HH.out.1 k1.out) 2 _, h2, h3, HH.out.2.1.one hO HH.out.2.2.1, HH.out.2.2.1, h6, HH.out.2.2.2.1⟩, hO⟩
      · have hm0 : ¬ most < 0 := fun h => hmo (.inl h)
        have hmn : ¬ most < (n : Int) := fun h => hmo (.inr h)
        have hmn' : (n : Int) ≤ most := by omega
        have hw1 : IntKind.u64.wrap most = most := by rw [IntKind.wrap_u64]; omega
        have hw2 : most % 18446744073709551616 = most := by omega
        have hsub : (m : Int) - (at' : Int) - (k : Int) = (q : Int) := by omega
        have hw3 : IntKind.u64.wrap (q : Int) = (q : Int) := by rw [IntKind.wrap_u64]; omega
        have hw4 : (q : Int) % 18446744073709551616 = (q : Int) := by omega
        by_cases hqn : q < n
        · have hTe : T = ([], (l, 9)) := by rw [HTT.out, if_neg hmo, if_pos (by rw [← HQ.out]; exact hqn)]
          have HTE := Lib.hid hTe
          have hqn1 : (q : Int) < (n : Int) := by omega
          clear hTe hmo
          repeat' (go_not_at_region 10; (first | go_skip | go_guarded | go_step))
          go_quiet (fail)
          repeat' (first | go_skip | go_guarded | go_step)
          go_ret
          rw [HTE.out]
          have hf := below_drewN (Ext.refl w) (1 + nq)
          have hO := (One.of_ext (g := x) hf).setCell 2 (.int .i64 9)
          exact ⟨rfl, ⟨A, c, at', heap_set (box_extG HH.out.1 hf) 2 _, h2, h3, HH.out.2.1.one hO HH.out.2.2.1, HH.out.2.2.1, h6, HH.out.2.2.2.1⟩, hO⟩
        · have hTe : T = (r.take n, (r.drop n, 0)) := by rw [HTT.out, if_neg hmo, if_neg (by rw [← HQ.out]; exact hqn)]
          have HTE := Lib.hid hTe
          have hqn1 : ¬ (q : Int) < (n : Int) := by omega
          have hw5 : IntKind.i64.wrap (n : Int) = (n : Int) := by rw [IntKind.wrap_i64]; omega
          clear hTe hmo
          repeat' (go_not_at_region 10; (first | go_skip | go_guarded | go_step))
          go_quiet (fail)
          repeat' (go_not_at_region 14; (first | go_skip | go_guarded | go_step))
          have hf := below_drewN (Ext.refl w) (1 + nq)
          have hO := (One.of_ext (g := x) hf).setCell 1 (.int .i64 ((at' : Int) + ((k : Int) + (n : Int))))
          have hbx2 := heap_set (box_extG HH.out.1 hf) 1 (.int .i64 ((at' : Int) + ((k : Int) + (n : Int))))
          rw [← HM.out] at hbx2
          have hs2 := HH.out.2.1.one hO HH.out.2.2.1
          have hnl : (r.take n).length = n := by rw [List.length_take, ← HQ.out]; omega
          have hlo : at' + k ≤ at' + k + n := by omega
          have hup : at' + k + n ≤ m := by omega
          obtain ⟨A2, hrun, hseg⟩ := run_midB Tryz.underlying22 infoU8 A (n := m) (c := c) hlo hup (by rw [HM.out]; exact h2)
          rw [Nat.add_sub_cancel_left] at hrun hseg
          have el1 : ((at' + k : Nat) : Int) = (at' : Int) + (k : Int) := by omega
          have el2 : ((at' + k + n : Nat) : Int) = (at' : Int) + ((k : Int) + (n : Int)) := by omega
          rw [el1, el2] at hrun
          obtain ⟨w2, hw2⟩ : ∃ w2, w2 = (w.drewN (1 + nq)).setCell ⟨x, 1, none⟩ (.int .i64 ((at' : Int) + ((k : Int) + (n : Int)))) := ⟨_, rfl⟩
          have hB2 : BS w2 (.slice A2 n (c - (at' + k))) (r.take n) := by
            refine ⟨A2, c - (at' + k), by rw [hnl], by rw [encB_length, Nat.mul_one], by rw [hnl]; have := HM.out; omega, by omega, ?_⟩
            rw [HR.out, encB_take, encB_drop]
            refine hseg w2 (encB P) (by rw [encB_length]; exact HM.out.symm) ?_
            rw [hw2]; exact hs2
          have hcv := conv_bs (P := Tryz.prog) Tryz.underlying22 Tryz.underlying5 Tryz.underlying9 hB2
          have hcv' : ∀ j, (convert 22 9 (.slice A2 n (c - (at' + k)))).run Tryz.prog (w2.drewN j) = .ok (str (r.take n)) (w2.drewN j) := fun j =>
            conv_bs (P := Tryz.prog) Tryz.underlying22 Tryz.underlying5 Tryz.underlying9 (hB2.below (below_drewN (Ext.refl w2) j))
          rw [← hw2] at hbx2 hO
          obtain ⟨u0, u1, u2⟩ := box3G hbx2
          have hl2 := heap_lt hbx2
          have hsb : (at' : Int) + ((k : Int) + (n : Int)) - (n : Int) = (at' : Int) + (k : Int) := by omega
          have HS2 := Lib.hid (And.intro hbx2 (And.intro hs2 (And.intro hO hw2)))
          rw [← hw2]
          clear hbx2 hs2 hO hseg hB2 hf el1 el2 hw2 v0 v1 v2 g1 g2 hl1
          go_quiet (fail)
          repeat' (first | go_skip | go_guarded | go_step)
          go_ret
          rw [HTE.out]
          have hf2 := below_drewN (Ext.refl w2) nq
          have hb := box_extG HS2.out.1 hf2
          rw [HM.out] at hb
          refine ⟨rfl, ⟨A, c, at' + k + n, ?_, h2, h3, HS2.out.2.1.below (by rw [← HS2.out.2.2.2]; exact hf2), HH.out.2.2.1, by rw [← HM.out]; omega, by rw [HR.out, List.drop_drop]⟩, HS2.out.2.2.1.trans (One.of_ext hf2)⟩
          rw [show ((at' + k + n : Nat) : Int) = (at' : Int) + ((k : Int) + (n : Int)) by omega]
          exact hb
  · have hTe : T = ([], (l, e)) := by rw [HT.out]; unfold sText; rw [if_neg he]
    have HTE := Lib.hid hTe
    have d1 : ((e : Int) != 0) = true := by rw [bne_iff_ne]; omega
    have d2 : ((e : Int) == 0) = false := by rw [beq_eq_false_iff_ne]; omega
    clear hTe
    go_enter Tryz.func36, Tryz.ntmps36
    repeat' (first | go_skip | go_guarded | go_step)
    go_ret
    rw [HTE.out]
    exact ⟨rfl, HH.out.2.2.2.2, One.refl w⟩
end Go.Proofs.YtigoffdehdobiaaGreat
/- Two readers side by side: one stays where the other turns. -/
namespace Go.Proofs.YtigoffdehdobiaaGreat
open Go.RowKit Go.QS
set_option linter.unusedVariables false

theorem InAt.one {V : Nat → Prop} {g x : Nat} {w w' : World} {l : List UInt8} {e : Nat} (h : InAt V g w l e) (k : One x w w') (hgx : g ≠ x) (hV : ∀ b, V b → b ≠ x) : InAt V g w' l e := by
  obtain ⟨A, c, h1, h2, h3, h4, h5⟩ := h.ex
  exact ⟨A, c, k.heap h1 hgx, h2, h3, h4.one (V := V) k (fun a ha => ⟨hV _ (h5 a ha).2, (h5 a ha).2⟩), h5⟩

theorem RefAt.one {V : Nat → Prop} {g x : Nat} {w w' : World} {P l : List UInt8} {e : Nat} (h : RefAt V x w P l e) (k : One g w w') (hgx : x ≠ g) (hV : ∀ b, V b → b ≠ g) : RefAt V x w' P l e := by
  obtain ⟨A, c, at', h1, h2, h3, h4, h5, h6, h7⟩ := h.ex
  exact ⟨A, c, at', k.heap h1 hgx, h2, h3, h4.one (V := V) k (fun a ha => ⟨hV _ (h5 a ha).2, (h5 a ha).2⟩), h5, h6, h7⟩

/-- What is left, by the place. -/
theorem RefAt.left {V : Nat → Prop} {x : Nat} {w : World} {P l : List UInt8} {e : Nat} (h : RefAt V x w P l e) :
    ∃ at' : Nat, w.cell? ⟨x, 1, none⟩ = some (.int .i64 (at' : Int)) ∧ w.cell? ⟨x, 2, none⟩ = some (.int .i64 (e : Int)) ∧ at' ≤ P.length ∧ l.length = P.length - at' := by
  obtain ⟨A, c, at', h1, h2, h3, h4, h5, h6, h7⟩ := h.ex
  obtain ⟨b0, b1, b2⟩ := box3G h1
  exact ⟨at', b1, b2, h6, by rw [h7, List.length_drop]⟩

/-- Both sides' End are one. -/
theorem end_eq (l : List UInt8) (e : Nat) : ((if l = [] then (l, e) else sFail 9 (l, e)) : St2).2 = (sEnd (l, e)).2 := by
  unfold sEnd
  cases l <;> simp
end Go.Proofs.YtigoffdehdobiaaGreat
