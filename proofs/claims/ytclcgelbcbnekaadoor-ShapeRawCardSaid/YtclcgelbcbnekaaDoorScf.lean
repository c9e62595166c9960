/- Contract: shape.canon at a bucket. -/
import Derived.Test.YtclcgelbcbnekaaDoorSce
import Derived.Test.YtclcgelbcbnekaaDoorM30
set_option linter.unusedVariables false
set_option linter.unusedSimpArgs false
namespace Go.Proofs.YtclcgelbcbnekaaDoor
open Go Go.RowKit Go.QS Go.QS.Nk
set_option linter.unusedVariables false
variable [Zero (Nat → Prop)]
set_option linter.unusedSectionVars false
attribute [local go_sem] Oper.semAt_some

/-- canon's boxes. -/
structure BxC (gh g : Nat) (h : Hs) (v : Value) (w : World) : Prop where
  b0 : HsAt w gh h
  b1 : w.heap[gh + 1]? = some (.cells #[ptr g] 29 (0, 0))
  b2 : w.heap[gh + 2]? = some (.cells #[v] 124 (0, 0))
  b3 : w.heap[gh + 3]? = some (.cells #[.int .i64 0] 3 (0, 0))
  b4 : w.heap[gh + 4]? = some (.cells #[.bool false] 4 (0, 0))
section
variable {gh g : Nat} {h : Hs} {v : Value} {w w' W : World}
theorem BxC.ext (H : BxC gh g h v w) (f : Ext w w') : BxC gh g h v w' := ⟨H.b0.ext f, box_extG H.b1 f, box_extG H.b2 f, box_extG H.b3 f, box_extG H.b4 f⟩
theorem BxC.own {row : Option Nat} (H : BxC gh g h v w) (hg : w.grownBy w' row) (hr : ∀ r, row = some r → ∃ o : Obj, w.heap[r]? = some o ∧ o.isCells = false) : BxC gh g h v w' :=
  ⟨heap_own H.b0 hg hr, heap_own H.b1 hg hr, heap_own H.b2 hg hr, heap_own H.b3 hg hr, heap_own H.b4 hg hr⟩
theorem BxC.stT {B : Nat} {τ : TypeId → Prop} (H : BxC gh g h v w) (k : StT B τ w w') (h0 : ¬ τ HT) (h1 : ¬ τ 29) (h2 : ¬ τ 124) (h3 : ¬ τ 3) (h4 : ¬ τ 4) : BxC gh g h v w' :=
  ⟨stT_heap k H.b0 h0, stT_heap k H.b1 h1, stT_heap k H.b2 h2, stT_heap k H.b3 h3, stT_heap k H.b4 h4⟩
/-- The results, stored. -/
theorem bx_res (H : BxC gh g h v w') (f : Ext w w') (hg : w.heap.size ≤ gh) (a : Int) (b : Bool) {z : World} (hz : z = (w'.setCell ⟨gh + 1 + 1 + 1, 0, none⟩ (.int .i64 a)).setCell ⟨gh + 1 + 1 + 1 + 1, 0, none⟩ (.bool b)) :
    z.heap[gh + 3]? = some (.cells #[.int .i64 a] 3 (0, 0)) ∧ z.heap[gh + 4]? = some (.cells #[.bool b] 4 (0, 0)) ∧ Ext w z ∧ (∀ j, j ≠ gh + 3 → j ≠ gh + 4 → z.heap[j]? = w'.heap[j]?) ∧ KeepsOthers w' z := by
  subst hz
  refine ⟨(Below.heap_setCell _ ⟨gh + 1 + 1 + 1 + 1, 0, none⟩ _ (gh + 3) (fun (e : gh + 3 = gh + 4) => by omega)).trans (heap_set H.b3 0 _), heap_set ((Below.heap_setCell _ ⟨gh + 1 + 1 + 1, 0, none⟩ _ (gh + 4) (fun (e : gh + 4 = gh + 3) => by omega)).trans H.b4) 0 _, (f.setCell (show w.heap.size ≤ gh + 3 by omega) _).setCell (show w.heap.size ≤ gh + 4 by omega) _, fun j h1 h2 => (Below.heap_setCell _ ⟨gh + 1 + 1 + 1 + 1, 0, none⟩ _ j h2).trans (Below.heap_setCell _ ⟨gh + 1 + 1 + 1, 0, none⟩ _ j h1), (KeepsOthers.setCell _ _ _).trans (KeepsOthers.setCell _ _ _)⟩
theorem BxC.res (H : BxC gh g h v w') (f : Ext w w') (hg : w.heap.size ≤ gh) {z : World} (hz : z = (w'.setCell ⟨gh + 1 + 1 + 1, 0, none⟩ (.int .i64 0)).setCell ⟨gh + 1 + 1 + 1 + 1, 0, none⟩ (.bool false)) : BxC gh g h v z := by
  obtain ⟨h3, h4, _, h5, _⟩ := bx_res H f hg 0 false hz
  exact ⟨(h5 _ (by omega) (by omega)).trans H.b0, (h5 _ (by omega) (by omega)).trans H.b1, (h5 _ (by omega) (by omega)).trans H.b2, h3, h4⟩
theorem bxC_new (w : World) (h : Hs) (g : Nat) (v : Value) (hgh : gh = w.heap.size) :
    BxC gh g h v (((((w.alloc (.cells #[.int .u64 h.k0, .int .u64 h.k1, .int .u64 h.mask] 26)).alloc (.cells #[ptr g] 29)).alloc (.cells #[v] 124)).alloc (.cells #[.int .i64 0] 3)).alloc (.cells #[.bool false] 4)) ∧
    Ext w (((((w.alloc (.cells #[.int .u64 h.k0, .int .u64 h.k1, .int .u64 h.mask] 26)).alloc (.cells #[ptr g] 29)).alloc (.cells #[v] 124)).alloc (.cells #[.int .i64 0] 3)).alloc (.cells #[.bool false] 4)) := by
  obtain ⟨wa, hwa⟩ : ∃ x, x = w.alloc (.cells #[.int .u64 h.k0, .int .u64 h.k1, .int .u64 h.mask] 26) := ⟨_, rfl⟩
  obtain ⟨wb, hwb⟩ : ∃ x, x = wa.alloc (.cells #[ptr g] 29) := ⟨_, rfl⟩
  obtain ⟨wc, hwc⟩ : ∃ x, x = wb.alloc (.cells #[v] 124) := ⟨_, rfl⟩
  obtain ⟨wd, hwd⟩ : ∃ x, x = wc.alloc (.cells #[.int .i64 0] 3) := ⟨_, rfl⟩
  obtain ⟨we, hwe⟩ : ∃ x, x = wd.alloc (.cells #[.bool false] 4) := ⟨_, rfl⟩
  have sa : wa.heap.size = gh + 1 := by rw [hwa]; simp [hgh]
  have sb : wb.heap.size = gh + 2 := by rw [hwb]; simp [sa]
  have sc : wc.heap.size = gh + 3 := by rw [hwc]; simp [sb]
  have sd : wd.heap.size = gh + 4 := by rw [hwd]; simp [sc]
  have ea : Ext w wa := by rw [hwa]; exact (Ext.refl _).alloc (Nat.le_refl _) _
  have ea' : Ext wa wb := by rw [hwb]; exact (Ext.refl _).alloc (Nat.le_refl _) _
  have eb : Ext wb wc := by rw [hwc]; exact (Ext.refl _).alloc (Nat.le_refl _) _
  have ec : Ext wc wd := by rw [hwd]; exact (Ext.refl _).alloc (Nat.le_refl _) _
  have ed : Ext wd we := by rw [hwe]; exact (Ext.refl _).alloc (Nat.le_refl _) _
  have ha := heap_newG w (.cells #[.int .u64 h.k0, .int .u64 h.k1, .int .u64 h.mask] 26)
  rw [← hwa, ← hgh] at ha
  have hb := heap_newG wa (.cells #[ptr g] 29)
  rw [← hwb, sa] at hb
  have hc := heap_newG wb (.cells #[v] 124)
  rw [← hwc, sb] at hc
  have hd := heap_newG wc (.cells #[.int .i64 0] 3)
  rw [← hwd, sc] at hd
  have he := heap_newG wd (.cells #[.bool false] 4)
  rw [← hwe, sd] at he
  have hB : BxC gh g h v we := ⟨box_extG ha (Ext.trans ea' (Ext.trans eb (Ext.trans ec ed))), box_extG hb (Ext.trans eb (Ext.trans ec ed)), box_extG hc (Ext.trans ec ed), box_extG hd ed, he⟩
  have hE : Ext w we := Ext.trans ea (Ext.trans ea' (Ext.trans eb (Ext.trans ec ed)))
  rw [hwe, hwd, hwc, hwb, hwa] at hB hE
  exact ⟨hB, hE⟩
end

set_option maxRecDepth 100000 in
set_option maxHeartbeats 2000000 in
theorem canon_bk (w : World) (h : Hs) (hk : h.Ok) (g : Nat) (l : List Pr) (hB : Bk ND w g l) (hl9 : l.length ≤ 1000000) (hkey : ∀ p ∈ l, p.1.length ≤ 1000000) (way : List Nat) (v : Value) (hn13 : way.length ≤ 13) (hS : Sl w 1 v way.length (wayV way)) :
    Calls Tryd.prog 34 #[hsV h, ptr g, v] w (CanR w (okN h.hash (.bk l) way) l.length) := by
  obtain ⟨ow, pv, kv, nd⟩ := hB
  have HN := Lib.hid nd
  obtain ⟨A, C, rfl, hx1, hnC, hC9, hs⟩ := hS
  obtain ⟨n, hn⟩ : ∃ n, n = way.length := ⟨_, rfl⟩
  rw [← hn] at hnC hn13 ⊢
  have HS : Hid (Sl w 1 (.slice A n C) n (wayV way) ∧ n = way.length) := Lib.hid ⟨⟨A, C, rfl, by rw [hn]; exact hx1, hnC, hC9, hs⟩, hn⟩
  have HK := Lib.hid hkey
  clear nd hx1 hs hn hkey
  refine calls_of_wp_marks Tryd.func34 rfl ?_
  simp only [Tryd.ntmps34, List.size_toArray, List.length_cons, List.length_nil, Nat.reduceAdd, Nat.reduceSub, Array.replicate_succ, Array.replicate_zero, List.push_toArray, List.append_toArray, List.nil_append, List.cons_append]
  repeat' (go_not_at_region 1; (first | go_skip | go_guarded | go_step))
  obtain ⟨gh, hgh⟩ : ∃ g, g = w.heap.size := ⟨_, rfl⟩
  rw [← hgh]
  refine wp_nameS (fun w' => BxC gh g h (.slice A n C) w' ∧ Ext w w' ∧ w.heap.size ≤ gh) ⟨(bxC_new w h g _ hgh).1, (bxC_new w h g _ hgh).2, by omega⟩ ?_
  clear hgh
  intro w1 H1
  have hgw : w.heap.size ≤ gh := H1.out.2.2
  have c1 : w1.cell? ⟨gh + 1, 0, none⟩ = some (ptr g) := by rw [cellG H1.out.1.b1]; rfl
  repeat' (first | go_at_call 59 | go_skip | go_guarded | go_step)
  refine (npairs_c w1 g pv l (HN.out.node.ext H1.out.2.1).cells.2.2.1 (HN.out.pairs.below H1.out.2.1) (by omega)).mono ?_
  rintro e w2 ⟨v2, rfl, r2, f2⟩
  obtain ⟨A2, C2, rfl⟩ := own_slice r2
  have H2 : Hid (BxC gh g h (.slice A n C) w2 ∧ Ext w w2 ∧ PS w2 (.slice A2 (l).length C2) l) := Lib.hid ⟨H1.out.1.ext f2, Ext.trans H1.out.2.1 f2, PS.of_own r2⟩
  clear r2 f2 c1 H1
  have c1 : w2.cell? ⟨gh + 1, 0, none⟩ = some (ptr g) := by rw [cellG H2.out.1.b1]; rfl
  go_simp
  repeat' (first | go_at_call 52 | go_skip | go_guarded | go_step)
  refine (isb_c w2 g true (HN.out.node.ext H2.out.2.1).cells.2.2.2.2.1).mono ?_
  rintro e w3 ⟨rfl, f3⟩
  obtain ⟨m, hm⟩ : ∃ m, m = l.length := ⟨_, rfl⟩
  rw [← hm] at hl9 ⊢
  have H3 : Hid (BxC gh g h (.slice A n C) w3 ∧ Ext w w3 ∧ PS w3 (.slice A2 m C2) l ∧ m = l.length) := Lib.hid ⟨H2.out.1.ext f3, Ext.trans H2.out.2.1 f3, by rw [hm]; exact H2.out.2.2.below f3, hm⟩
  clear f3 c1 H2 hm
  have c2 : w3.cell? ⟨gh + 1 + 1, 0, none⟩ = some (.slice A n C) := by rw [cellG H3.out.1.b2]; rfl
  go_simp
  by_cases h13 : n = 13
  · have d13 : ((n : Int) != 13) = false := by rw [h13]; decide
    have HR := Lib.hid (rises_c w3 (.slice A2 m C2) l H3.out.2.2.1 (by have := H3.out.2.2.2; omega))
    repeat' (first | go_at_call 64 | go_skip | go_guarded | go_step)
    refine HR.out.mono ?_
    rintro e w4 ⟨rfl, f4⟩
    have H4 : Hid (BxC gh g h (.slice A n C) w4 ∧ Ext w w4 ∧ PS w4 (.slice A2 m C2) l ∧ m = l.length) := Lib.hid ⟨H3.out.1.ext f4, Ext.trans H3.out.2.1 f4, H3.out.2.2.1.below f4, H3.out.2.2.2⟩
    clear f4 c2 HR H3
    cases hrb : riseB l with
    | false =>
      have HNo : Hid (¬ okN h.hash (.bk l) way) := Lib.hid (fun ho => by have := (riseB_iff _).2 ho.2.1; rw [hrb] at this; cases this)
      clear hrb
      go_simp
      have c3 : w4.cell? ⟨gh + 1 + 1 + 1, 0, none⟩ = some (.int .i64 0) := by rw [cellG H4.out.1.b3]; rfl
      have c4 : w4.cell? ⟨gh + 1 + 1 + 1 + 1, 0, none⟩ = some (.bool false) := by rw [cellG H4.out.1.b4]; rfl
      have f3' := freeG H4.out.1.b3 0
      have f4' := freeG H4.out.1.b4 0
      have l3' := heap_lt H4.out.1.b3
      have l4' := heap_lt H4.out.1.b4
      repeat' (first | go_skip | go_guarded | go_step)
      obtain ⟨zz, hzz⟩ : ∃ x, x = (w4.setCell ⟨gh + 1 + 1 + 1, 0, none⟩ (.int .i64 0)).setCell ⟨gh + 1 + 1 + 1 + 1, 0, none⟩ (.bool false) := ⟨_, rfl⟩
      obtain ⟨hz3, hz4, hzE, _, _⟩ := bx_res H4.out.1 H4.out.2.1 hgw 0 false hzz
      rw [← hzz]
      refine postM_ret0 (results_box2 rfl _ _ (gh + 3) (gh + 4) (.int .i64 0) (.bool false) _ _ _ _ _ _ rfl hz3 Tryd.underlying3 rfl rfl hz4 Tryd.underlying4 rfl) rfl ?_
      exact ⟨.inr ⟨HNo.out, rfl⟩, hzE⟩
    | true =>
      have HRi : Hid (Rise l) := Lib.hid ((riseB_iff _).1 hrb)
      have hq2 : m ≤ C2 ∧ C2 ≤ maxLen ∧ Seg w4 A2 (flat l) := by
        obtain ⟨A', C', e, _, q1, q2, q3⟩ := H4.out.2.2.1
        cases e
        exact ⟨q1, q2, q3⟩
      obtain ⟨hmC, hC29, hs2⟩ := hq2
      have HS2 := Lib.hid hs2
      clear hrb hs2
      go_simp
      repeat' (go_not_at_region 6; (first | go_skip | go_guarded | go_step))
      go_loopg [34] m (fun gk v34 wr => ∃ j : Nat, v34 = .int .i64 j ∧ j ≤ m ∧ m - j ≤ gk ∧ Hid (BxC gh g h (.slice A n C) wr ∧ Ext w wr ∧ Ext w4 wr ∧ ∀ i p, i < j → l[i]? = some p → Leads (h.hash p.1) way))
      case atStart => exact ⟨0, rfl, Nat.zero_le _, Nat.le_refl _, Lib.hid ⟨H4.out.1, H4.out.2.1, Ext.refl _, fun i p hi => absurd hi (Nat.not_lt_zero _)⟩⟩
      case round =>
        obtain ⟨j, rfl, hjm, hgk, HI⟩ := hrel
        rcases Nat.lt_or_ge j m with hjl | hjg
        · have d2 : decide (j < m) = true := by simp [hjl]
          obtain ⟨⟨a, b⟩, hx⟩ := get_of_lt l (show j < l.length by have := H4.out.2.2.2; omega)
          obtain ⟨bb, o, rfl, q0, q1⟩ := seg_pair (Seg.below HS2.out HI.out.2.2.1) hx
          have hi1 : (j : Int) < (m : Int) := by omega
          have HX := Lib.hid hx
          have ha9 : a.length ≤ 1000000 := HK.out _ (List.mem_of_getElem? hx)
          clear hx
          repeat' (go_not_at_region 8; (first | go_skip | go_guarded | go_step))
          obtain ⟨gp, hgp⟩ : ∃ g, g = wr.heap.size := ⟨_, rfl⟩
          rw [← hgp]
          refine wp_nameS (fun w' => w'.cell? ⟨gp, 0, none⟩ = some (str a) ∧ Ext wr w') ⟨by rw [World.cell?_alloc_at _ _ _ _ hgp]; rfl, (Ext.refl _).alloc (Nat.le_refl _) _⟩ ?_
          clear hgp q0 q1
          intro w5 H5
          have HB5 := H5.out.2
          refine canon_8 w5 h hk gh _ gp A n C way a HS.out.2 hn13 (HI.out.1.ext HB5).b0 (by rw [cellG (HI.out.1.ext HB5).b2]; rfl) (HS.out.1.below (Ext.trans HI.out.2.1 HB5)) H5.out.1 ha9 _ _ _ _ _ _ _ _ _ _ _ _ _ _ _ _ _ _ _ _ _ _ _ _ _ _ _ _ _ _ _ _ _ _ _ _ _ _ _ _ _ _ _ _ _ _ _ _ _ _ _ _ _ _ _ _ _ _ _ _ _ _ _ _ _ _ _ _ _ _ _ _ _ _ _ _ _ _ _ _ _ _ _ _ _ _ _ _ _ _ _ _ _ _ _ _ _ _ _ _ _ _ _ _ _ _ _ _ (by kernel_rfl) ?_
          intro u38 u39 u40 u41 u42 u43 u44 w6 HL6
          have H6 : Hid (BxC gh g h (.slice A n C) w6 ∧ Ext w w6 ∧ Ext w4 w6) := Lib.hid ⟨(HI.out.1.ext HB5).ext HL6.2, Ext.trans HI.out.2.1 (Ext.trans HB5 HL6.2), Ext.trans HI.out.2.2.1 (Ext.trans HB5 HL6.2)⟩
          obtain ⟨hLL, _⟩ := HL6
          clear H5 HB5
          rcases hLL with ⟨hL, rfl⟩ | ⟨hL, rfl⟩
          · have HI2 : Hid (BxC gh g h (.slice A n C) w6 ∧ Ext w w6 ∧ Ext w4 w6 ∧ ∀ i p, i < j + 1 → l[i]? = some p → Leads (h.hash p.1) way) := Lib.hid ⟨H6.out.1, H6.out.2.1, H6.out.2.2, fun i p hi hp => by
              rcases Nat.lt_or_ge i j with h1 | h1
              · exact HI.out.2.2.2 i p h1 hp
              · obtain rfl : i = j := by omega
                rw [HX.out] at hp; cases hp; exact hL⟩
            clear hL
            repeat' (first | go_skip | go_guarded | go_step)
            go_roundg (m - (j + 1))
            case measure => omega
            case rel => exact ⟨j + 1, by go_num, by omega, Nat.le_refl _, HI2⟩
          · have HNo : Hid (¬ okN h.hash (.bk l) way) := Lib.hid (fun ho => hL (ho.2.2 (a, b) (List.mem_of_getElem? HX.out)))
            clear hL
            have c3 : w6.cell? ⟨gh + 1 + 1 + 1, 0, none⟩ = some (.int .i64 0) := by rw [cellG H6.out.1.b3]; rfl
            have c4 : w6.cell? ⟨gh + 1 + 1 + 1 + 1, 0, none⟩ = some (.bool false) := by rw [cellG H6.out.1.b4]; rfl
            have f3' := freeG H6.out.1.b3 0
            have f4' := freeG H6.out.1.b4 0
            have l3' := heap_lt H6.out.1.b3
            have l4' := heap_lt H6.out.1.b4
            repeat' (first | go_skip | go_guarded | go_step)
            obtain ⟨zz, hzz⟩ : ∃ x, x = (w6.setCell ⟨gh + 1 + 1 + 1, 0, none⟩ (.int .i64 0)).setCell ⟨gh + 1 + 1 + 1 + 1, 0, none⟩ (.bool false) := ⟨_, rfl⟩
            obtain ⟨hz3, hz4, hzE, _, _⟩ := bx_res H6.out.1 H6.out.2.1 hgw 0 false hzz
            rw [← hzz]
            refine postM_ret0 (results_box2 rfl _ _ (gh + 3) (gh + 4) (.int .i64 0) (.bool false) _ _ _ _ _ _ rfl hz3 Tryd.underlying3 rfl rfl hz4 Tryd.underlying4 rfl) rfl ?_
            exact ⟨.inr ⟨HNo.out, rfl⟩, hzE⟩
        · obtain rfl : j = m := by omega
          have d2 : decide (j < j) = false := by simp
          have HY : Hid (okN h.hash (.bk l) way) := Lib.hid ⟨by rw [← HS.out.2]; exact h13, HRi.out, fun p hp => by
            obtain ⟨i, hi⟩ := List.mem_iff_getElem?.1 hp
            exact HI.out.2.2.2 i p (by rw [H4.out.2.2.2]; exact (List.getElem?_eq_some_iff.1 hi).1) hi⟩
          have c3 : wr.cell? ⟨gh + 1 + 1 + 1, 0, none⟩ = some (.int .i64 0) := by rw [cellG HI.out.1.b3]; rfl
          have c4 : wr.cell? ⟨gh + 1 + 1 + 1 + 1, 0, none⟩ = some (.bool false) := by rw [cellG HI.out.1.b4]; rfl
          have f3' := freeG HI.out.1.b3 0
          have f4' := freeG HI.out.1.b4 0
          have l3' := heap_lt HI.out.1.b3
          have l4' := heap_lt HI.out.1.b4
          repeat' (first | go_skip | go_guarded | go_step)
          obtain ⟨zz, hzz⟩ : ∃ x, x = (wr.setCell ⟨gh + 1 + 1 + 1, 0, none⟩ (.int .i64 (j : Int))).setCell ⟨gh + 1 + 1 + 1 + 1, 0, none⟩ (.bool true) := ⟨_, rfl⟩
          obtain ⟨hz3, hz4, hzE, _, _⟩ := bx_res HI.out.1 HI.out.2.1 hgw (j : Int) true hzz
          rw [← hzz]
          refine postM_ret0 (results_box2 rfl _ _ (gh + 3) (gh + 4) (.int .i64 (j : Int)) (.bool true) _ _ _ _ _ _ rfl hz3 Tryd.underlying3 rfl rfl hz4 Tryd.underlying4 rfl) rfl ?_
          exact ⟨.inl ⟨HY.out, by rw [H4.out.2.2.2]⟩, hzE⟩
  · have d13 : ((n : Int) != 13) = true := by simp; omega
    have HNo : Hid (¬ okN h.hash (.bk l) way) := Lib.hid (fun ho => h13 (HS.out.2.trans ho.1))
    have c3 : w3.cell? ⟨gh + 1 + 1 + 1, 0, none⟩ = some (.int .i64 0) := by rw [cellG H3.out.1.b3]; rfl
    have c4 : w3.cell? ⟨gh + 1 + 1 + 1 + 1, 0, none⟩ = some (.bool false) := by rw [cellG H3.out.1.b4]; rfl
    have f3' := freeG H3.out.1.b3 0
    have f4' := freeG H3.out.1.b4 0
    have l3' := heap_lt H3.out.1.b3
    have l4' := heap_lt H3.out.1.b4
    repeat' (first | go_skip | go_guarded | go_step)
    obtain ⟨zz, hzz⟩ : ∃ x, x = (w3.setCell ⟨gh + 1 + 1 + 1, 0, none⟩ (.int .i64 0)).setCell ⟨gh + 1 + 1 + 1 + 1, 0, none⟩ (.bool false) := ⟨_, rfl⟩
    obtain ⟨hz3, hz4, hzE, _, _⟩ := bx_res H3.out.1 H3.out.2.1 hgw 0 false hzz
    rw [← hzz]
    refine postM_ret0 (results_box2 rfl _ _ (gh + 3) (gh + 4) (.int .i64 0) (.bool false) _ _ _ _ _ _ rfl hz3 Tryd.underlying3 rfl rfl hz4 Tryd.underlying4 rfl) rfl ?_
    exact ⟨.inr ⟨HNo.out, rfl⟩, hzE⟩
end Go.Proofs.YtclcgelbcbnekaaDoor
