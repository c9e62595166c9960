/- Contract: SpanGoes. -/
import Derived.Test.YtbplddiopajocaaGf
import Derived.Test.YtbplddiopajocaaDf
import Derived.Test.YtbplddiopajocaaDk
import Derived.Test.YtbplddiopajocaaGo
set_option linter.unusedVariables false
set_option linter.unusedSimpArgs false
namespace Go.Proofs.Ytbplddiopajocaa
open Go Go.RowKit Go.QS
set_option linter.unusedVariables false
attribute [local go_sem] Oper.semAt_some

/-- SpanGoes' boxes. -/
structure BxG (gb : Nat) (s : Sp) (an : Nat) (w : World) : Prop where
  b0 : w.heap[gb]? = some (.cells #[str s.f, str s.t, .bool s.o] 42 (0, 0))
  b1 : w.heap[gb + 1]? = some (.cells #[.int .u8 (an : Int)] 5 (0, 0))
  b2 : w.heap[gb + 2]? = some (.cells #[.bool false] 4 (0, 0))
theorem BxG.ext {gb : Nat} {s : Sp} {an : Nat} {w w' : World} (h : BxG gb s an w) (f : Ext w w') : BxG gb s an w' := ⟨box_extG h.b0 f, box_extG h.b1 f, box_extG h.b2 f⟩
theorem BxG.st {gb : Nat} {s : Sp} {an : Nat} {w w' : World} {B : Nat} (h : BxG gb s an w) (f : StT B tauS w w') : BxG gb s an w' :=
  ⟨stT_heap f h.b0 (by unfold tauS; decide), stT_heap f h.b1 (by unfold tauS; decide), stT_heap f h.b2 (by unfold tauS; decide)⟩
theorem BxG.own {gb : Nat} {s : Sp} {an : Nat} {w w' : World} {row : Option Nat} (h : BxG gb s an w) (hg : w.grownBy w' row) (hr : ∀ r, row = some r → ∃ o : Obj, w.heap[r]? = some o ∧ o.isCells = false) : BxG gb s an w' :=
  ⟨heap_own h.b0 hg hr, heap_own h.b1 hg hr, heap_own h.b2 hg hr⟩

set_option maxRecDepth 100000 in
set_option maxHeartbeats 4000000 in
theorem spanGoes_c (w : World) (v : Value) (l : List Pr) (s0 : Sp) (back : Bool) (an : Nat) (ha1 : an < 256) (h : PS w v l) :
    Calls Try.prog 4 #[v, s0.v, .bool back, .int .u8 (an : Int)] w fun e w' => e = .returned (.bool true) ∧ Ext w w' := by
  have HP : Hid (PS w v l) := Lib.hid h
  obtain ⟨L, hL⟩ : ∃ L, L = (l.take 40).map cutP := ⟨_, rfl⟩
  have hLk : ∀ p ∈ L, p.1.length ≤ 40 := by
    intro p hp
    rw [hL] at hp
    obtain ⟨q, _, rfl⟩ := List.mem_map.1 hp
    simp [cutP]; omega
  have hLl : L.length ≤ 40 := by rw [hL]; simp; omega
  have hXl := rsort_length L
  obtain ⟨X, hX⟩ : ∃ X, X = rsort L := ⟨_, rfl⟩
  rw [← hX] at hXl
  have hXk : ∀ q ∈ X, q.1.length ≤ 40 := by
    intro q hq
    rw [hX] at hq
    exact hLk q (lastK_mem ((mem_rsort L q).1 hq)).1
  obtain ⟨s, hs⟩ : ∃ s, s = s0.cut := ⟨_, rfl⟩
  have hsf : s.f.length ≤ 40 := by rw [hs]; simp [Sp.cut]; omega
  obtain ⟨Y, hY⟩ : ∃ Y, Y = prsS s back X := ⟨_, rfl⟩
  have hYl : Y.length ≤ 40 := by rw [hY]; unfold prsS; refine Nat.le_trans (List.length_filter_le _ _) ?_; cases back <;> simp <;> omega
  have hcom : com s back [(treeOf L, [], false)] = Y := by
    rw [root_com L hLk, ← hX, hY]
    unfold prsS
    cases back <;> simp
  obtain ⟨Z, hZ⟩ : ∃ Z, Z = prsS s false X := ⟨_, rfl⟩
  have hcomZ : com s false [(treeOf L, [], false)] = Z := by
    rw [root_com L hLk, ← hX, hZ]
    unfold prsS
    simp
  have hZl : Z.length = Y.length := by rw [hZ, hY]; unfold prsS; cases back <;> simp
  obtain ⟨m, hm⟩ : ∃ m, m = Y.length := ⟨_, rfl⟩
  have HL : Hid (L = (l.take 40).map cutP ∧ (∀ p ∈ L, p.1.length ≤ 40) ∧ X = rsort L ∧ (∀ q ∈ X, q.1.length ≤ 40)) := Lib.hid ⟨hL, hLk, hX, hXk⟩
  have HY : Hid (Y = prsS s back X ∧ com s back [(treeOf L, [], false)] = Y ∧ m = Y.length) := Lib.hid ⟨hY, hcom, hm⟩
  have HZ : Hid (Z = prsS s false X ∧ com s false [(treeOf L, [], false)] = Z ∧ m = Z.length) := Lib.hid ⟨hZ, hcomZ, by omega⟩
  have HS0 := Lib.hid hs
  have hgood := root_good L hLk
  have hwt := root_wt L hLk hLl
  have HG := Lib.hid hgood
  have hm9 : m ≤ 40 := by omega
  have hX9 : X.length ≤ 1000 := by omega
  obtain ⟨sf, stt, so⟩ := s0
  obtain ⟨zf, zt, zo⟩ := s
  simp only at hsf
  clear h hL hLk hX hXk hY hcom hm hs hgood hYl hZ hcomZ hZl
  refine calls_of_wp_marks Try.func4 rfl ?_
  simp only [Try.ntmps4, List.size_toArray, List.length_cons, List.length_nil, Nat.reduceAdd, Nat.reduceSub, Array.replicate_succ, Array.replicate_zero, List.push_toArray, List.append_toArray, List.nil_append, List.cons_append]
  repeat' (go_not_at_region 1; (first | go_skip | go_guarded | go_step))
  obtain ⟨wa, hwa⟩ : ∃ wa, wa = ((w.alloc (.cells #[str sf, str stt, .bool so] 42)).alloc (.cells #[.int .u8 (an : Int)] 5)).alloc (.cells #[.bool false] 4) := ⟨_, rfl⟩
  obtain ⟨gb, hgb⟩ : ∃ gb, gb = w.heap.size := ⟨_, rfl⟩
  have e1 : Ext w (w.alloc (.cells #[str sf, str stt, .bool so] 42)) := (Ext.refl _).alloc (Nat.le_refl _) _
  have e2 := e1.alloc e1.size (.cells #[.int .u8 (an : Int)] 5)
  have hEa : Ext w wa := by rw [hwa]; exact e2.alloc e2.size _
  have hbx : BxG gb ⟨sf, stt, so⟩ an wa := by
    have f3 := (Ext.refl ((w.alloc (.cells #[str sf, str stt, .bool so] 42)).alloc (.cells #[.int .u8 (an : Int)] 5))).alloc (Nat.le_refl _) (.cells #[.bool false] 4)
    have f2 := ((Ext.refl (w.alloc (.cells #[str sf, str stt, .bool so] 42))).alloc (Nat.le_refl _) (.cells #[.int .u8 (an : Int)] 5))
    have h0 := box_extG (heap_newG w (.cells #[str sf, str stt, .bool so] 42)) (Ext.trans f2 f3)
    have h1 := box_extG (heap_newG (w.alloc (.cells #[str sf, str stt, .bool so] 42)) (.cells #[.int .u8 (an : Int)] 5)) f3
    have h2 := heap_newG ((w.alloc (.cells #[str sf, str stt, .bool so] 42)).alloc (.cells #[.int .u8 (an : Int)] 5)) (.cells #[.bool false] 4)
    simp only [World.size_alloc] at h1 h2
    rw [hwa, hgb]
    exact ⟨h0, h1, h2⟩
  have hwa' := hwa.symm
  rw [hwa', ← hgb]
  have hgle : w.heap.size ≤ gb := Nat.le_of_eq hgb.symm
  have HA : Hid (Ext w wa ∧ BxG gb ⟨sf, stt, so⟩ an wa) := Lib.hid ⟨hEa, hbx⟩
  clear hwa hgb hEa hwa' e1 e2 hbx
  repeat' (first | go_at_call 18 | go_skip | go_guarded | go_step)
  refine (awake_c wa).mono ?_
  rintro e w1 ⟨rfl, f1⟩
  replace HA := Lib.hid (And.intro (Ext.trans HA.out.1 f1) (HA.out.2.ext f1))
  clear f1
  go_simp
  repeat' (first | go_at_call 19 | go_skip | go_guarded | go_step)
  refine (tree3_c w1 v l (HP.out.below HA.out.1)).mono ?_
  rintro e w2 ⟨g, v2, rfl, f2, r2, p2⟩
  rw [← HL.out.1] at r2 p2
  rw [← HL.out.2.2.1] at p2
  replace HA := Lib.hid (And.intro (Ext.trans HA.out.1 f2) (HA.out.2.ext f2))
  have H2 : Hid (Rep NT w2 g (treeOf L) ∧ w2.ownsRow w1.heap.size 33 2 v2 X.length (flat X)) := Lib.hid ⟨r2, p2⟩
  clear f2 r2 p2
  obtain ⟨b0, b1, b2⟩ := box3 HA.out.2.b0
  go_simp
  repeat' (first | go_at_call 20 | go_skip | go_guarded | go_step)
  refine (short_c w2 ⟨sf, stt, so⟩).mono ?_
  rintro e w3 ⟨rfl, f3⟩
  rw [← HS0.out]
  replace HA := Lib.hid (And.intro (Ext.trans HA.out.1 f3) (HA.out.2.ext f3))
  replace H2 := Lib.hid (And.intro (H2.out.1.ext f3) (row_extG H2.out.2 f3))
  clear f3 b0 b1 b2
  obtain ⟨b0, b1, b2⟩ := box3 HA.out.2.b0
  have bf := freeG HA.out.2.b0
  have hgbl := heap_lt HA.out.2.b0
  go_simp
  repeat' (go_not_at_region 5; (first | go_skip | go_guarded | go_step))
  obtain ⟨w4, hw4⟩ : ∃ w4, w4 = ((w3.setCell ⟨gb, 0, none⟩ (str zf)).setCell ⟨gb, 1, none⟩ (str zt)).setCell ⟨gb, 2, none⟩ (.bool zo) := ⟨_, rfl⟩
  have hw4' : ((w3.setCell ⟨gb, 0, none⟩ (Value.string (bs zf))).setCell ⟨gb, 1, none⟩ (Value.string (bs zt))).setCell ⟨gb, 2, none⟩ (.bool zo) = w4 := hw4.symm
  rw [hw4']
  have hw34 : ∀ j, j ≠ gb → w4.heap[j]? = w3.heap[j]? := fun j hj => by rw [hw4]; exact (Below.heap_setCell _ _ _ j hj).trans ((Below.heap_setCell _ _ _ j hj).trans (Below.heap_setCell _ _ _ j hj))
  have hbx4 : BxG gb ⟨zf, zt, zo⟩ an w4 := ⟨by rw [hw4]; exact heap_set (heap_set (heap_set HA.out.2.b0 0 _) 1 _) 2 _, (hw34 _ (by omega)).trans HA.out.2.b1, (hw34 _ (by omega)).trans HA.out.2.b2⟩
  have hE4 : Ext w w4 := by rw [hw4]; exact ((HA.out.1.setCell hgle _).setCell hgle _).setCell hgle _
  have H4 : Hid (Ext w w4 ∧ Rep NT w4 g (treeOf L) ∧ PS w4 v2 X ∧ BxG gb ⟨zf, zt, zo⟩ an w4) := Lib.hid ⟨hE4, Rep.away HA.out.2.b0 hw34 H2.out.1, PS.of_own (row_away H2.out.2 HA.out.2.b0 (by decide) hw34), hbx4⟩
  clear b0 b1 b2 bf hgbl hw4 hw4' hw34 hE4 hbx4 HA H2
  obtain ⟨b0, b1, b2⟩ := box3 H4.out.2.2.2.b0
  repeat' (first | go_at_call 21 | go_skip | go_guarded | go_step)
  refine (rpairs_c w4 v2 X ⟨zf, zt, zo⟩ back H4.out.2.2.1 hX9 (fun q hq => by have := HL.out.2.2.2 q hq; omega)).mono ?_
  rintro e w5 ⟨v13, rfl, p5, f5⟩
  rw [← HY.out.1] at p5
  obtain ⟨A13, C13, rfl, q1, q2, q3, q4⟩ := p5
  have H5 : Hid (PS w5 (.slice A13 m C13) Y) := Lib.hid (by rw [HY.out.2.2]; exact ⟨_, _, rfl, q1, q2, q3, q4⟩)
  replace H4 := Lib.hid (And.intro (Ext.trans H4.out.1 f5) (And.intro (H4.out.2.1.ext f5) (And.intro (H4.out.2.2.1.below f5) (H4.out.2.2.2.ext f5))))
  rw [← HY.out.2.2]
  clear b0 b1 b2 q1 q2 q3 q4 f5
  go_simp
  repeat' (go_not_at_region 6; (first | go_skip | go_guarded | go_step))
  obtain ⟨w6, hw6⟩ : ∃ w6, w6 = w5.alloc (.cells #[.slice A13 m C13] 28) := ⟨_, rfl⟩
  obtain ⟨g6, hg6⟩ : ∃ g6, g6 = w5.heap.size := ⟨_, rfl⟩
  have hg6le : gb + 2 < g6 := by rw [hg6]; exact heap_lt H4.out.2.2.2.b2
  have f6 : Ext w5 w6 := by rw [hw6]; exact (Ext.refl _).alloc (Nat.le_refl _) _
  have hb6 := heap_newG w5 (.cells #[.slice A13 m C13] 28)
  rw [← hw6, ← hg6] at hb6
  have hw6' := hw6.symm
  rw [hw6', ← hg6]
  replace H4 := Lib.hid (And.intro (Ext.trans H4.out.1 f6) (And.intro (H4.out.2.1.ext f6) (And.intro (H4.out.2.2.1.below f6) (H4.out.2.2.2.ext f6))))
  replace H5 := Lib.hid (And.intro (H5.out.below f6) hb6)
  clear hw6 hw6' hg6 f6 hb6
  obtain ⟨b0, b1, b2⟩ := box3 H4.out.2.2.2.b0
  repeat' (first | go_at_call 21 | go_skip | go_guarded | go_step)
  refine (rpairs_c w6 v2 X ⟨zf, zt, zo⟩ false H4.out.2.2.1 hX9 (fun q hq => by have := HL.out.2.2.2 q hq; omega)).mono ?_
  rintro e w7 ⟨v12, rfl, p7, f7⟩
  rw [← HZ.out.1] at p7
  obtain ⟨A12, C12, rfl, q1, q2, q3, q4⟩ := p7
  have H7 : Hid (Ext w w7 ∧ Rep NT w7 g (treeOf L) ∧ PS w7 (.slice A13 m C13) Y ∧ PS w7 (.slice A12 m C12) Z ∧ BxG gb ⟨zf, zt, zo⟩ an w7 ∧ w7.heap[g6]? = some (.cells #[.slice A13 m C13] 28 (0, 0))) := Lib.hid ⟨Ext.trans H4.out.1 f7, H4.out.2.1.ext f7, H5.out.1.below f7, by rw [HZ.out.2.2]; exact ⟨_, _, rfl, q1, q2, q3, q4⟩, H4.out.2.2.2.ext f7, box_extG H5.out.2 f7⟩
  rw [← HZ.out.2.2]
  clear b0 b1 b2 q1 q2 q3 q4 f7 H4 H5
  go_simp
  repeat' (go_not_at_region 7; (first | go_skip | go_guarded | go_step))
  have HK7 : Hid (∀ x, Ext w7 x → (x.cell? ⟨gb, 0, none⟩ = some (str zf) ∧ x.cell? ⟨gb, 1, none⟩ = some (str zt) ∧ x.cell? ⟨gb, 2, none⟩ = some (.bool zo) ∧ x.cell? ⟨g6, 0, none⟩ = some (.slice A13 m C13))) := Lib.hid (fun x hx => by
    obtain ⟨b0, b1, b2⟩ := box3 (box_extG H7.out.2.2.2.2.1.b0 hx)
    exact ⟨b0, b1, b2, by rw [cellG (box_extG H7.out.2.2.2.2.2 hx)]; rfl⟩)
  obtain ⟨b0, b1, b2, b3⟩ := HK7.out w7 (Ext.refl _)
  have hdec : decide (com ⟨zf, zt, zo⟩ back [(treeOf L, [], false)] = Y) = true := by rw [decide_eq_true_eq]; exact HY.out.2.1
  have HDEC := Lib.hid hdec
  clear hdec
  go_region_held3 (fun x => x.cell? ⟨gb, 0, none⟩ = some (str zf) ∧ x.cell? ⟨gb, 1, none⟩ = some (str zt) ∧ x.cell? ⟨gb, 2, none⟩ = some (.bool zo) ∧ x.cell? ⟨g6, 0, none⟩ = some (.slice A13 m C13))
    (first | exact HK7.out _ k3.out | exact HK7.out _ k2.out | exact HK7.out _ k1.out | exact HK7.out _ (below_drewN (Ext.refl _) 1) | exact HK7.out _ (Ext.refl _))
    (first
      | (go_at_call 23; refine (new_c _ g (treeOf L) ⟨zf, zt, zo⟩ back (H7.out.2.1.ext (below_drewN (Ext.refl _) 1))).mono ?_; rintro e x1 ⟨c1, V1, rfl, hC1⟩; have k1 : Hid (Ext w7 x1) := Lib.hid (Ext.trans (below_drewN (Ext.refl _) 1) hC1.ext); have K1 := Lib.hid hC1; clear hC1)
      | (go_at_call 22; refine (goes_c _ x1 c1 V1 _ [(treeOf L, [], false)] ⟨zf, zt, zo⟩ back _ _ K1.out HG.out hwt (by show zf.length ≤ 1000; omega) (H7.out.2.2.1.below (below_drewN (Ext.refl _) 1))).mono ?_; rintro e x2 ⟨he, f2⟩; rw [HDEC.out] at he; subst he; have k2 : Hid (Ext w7 x2) := Lib.hid (Ext.trans (below_drewN (Ext.refl _) 1) f2); clear f2)
      | (go_at_call 24; refine (scount_c x2 _ _ ⟨zf, zt, zo⟩ Z (.root (H7.out.2.1.ext k2.out)) HG.out hwt (by show zf.length ≤ 1000; omega) HZ.out.2.1.symm (by have := HZ.out.2.2; omega)).mono ?_; rintro e x3 ⟨he, f3⟩; rw [← HZ.out.2.2] at he; subst he; have k3 : Hid (Ext w7 x3) := Lib.hid (Ext.trans k2.out f3); clear f3))
  replace H7 := Lib.hid (And.intro (Ext.trans H7.out.1 k3.out) (And.intro (H7.out.2.1.ext k3.out) (And.intro (H7.out.2.2.1.below k3.out) (And.intro (H7.out.2.2.2.1.below k3.out) (And.intro (H7.out.2.2.2.2.1.ext k3.out) (box_extG H7.out.2.2.2.2.2 k3.out))))))
  clear HK7 b0 b1 b2 b3 k1 k2 k3 K1
  obtain ⟨b0, b1, b2⟩ := box3 H7.out.2.2.2.2.1.b0
  repeat' (first
    | (go_at_call 25
       refine (spairs_c x3 _ _ ⟨zf, zt, zo⟩ Z (.root H7.out.2.1) HG.out hwt (by show zf.length ≤ 1000; omega) HZ.out.2.1.symm (by have := HZ.out.2.2; omega)).mono ?_
       rintro e x4 ⟨v4, rfl, r4, f4⟩
       rw [← HZ.out.2.2] at r4
       obtain ⟨A4, C4, rfl⟩ := own_slice r4
       have R4 : Hid (PS x4 (.slice A4 m C4) Z) := Lib.hid (PS.of_own r4)
       have F4 := Lib.hid f4
       clear r4 f4 b0 b1 b2
       go_simp)
    | go_skip | go_guarded | (go_not_at_region 12; go_step))
  replace H7 := Lib.hid (And.intro (Ext.trans H7.out.1 F4.out) (And.intro (H7.out.2.1.ext F4.out) (And.intro (H7.out.2.2.1.below F4.out) (And.intro (H7.out.2.2.2.1.below F4.out) (And.intro (H7.out.2.2.2.2.1.ext F4.out) (box_extG H7.out.2.2.2.2.2 F4.out))))))
  clear F4
  repeat' (first | go_skip | go_guarded | go_step)
  have hR4 := R4.out
  obtain ⟨A4', C4', e4, _, _, _, hs4⟩ := hR4
  have hZ4 := H7.out.2.2.2.1
  obtain ⟨A12', C12', e12, _, _, _, hs12⟩ := hZ4
  have HS4 : Hid (Seg x4 A4 (flat Z) ∧ Seg x4 A12 (flat Z)) := Lib.hid ⟨by injection e4 with h1; rw [h1]; exact hs4, by injection e12 with h1; rw [h1]; exact hs12⟩
  clear e4 e12 hs4 hs12
  go_loopg [68] m (fun gk v68 wr => ∃ (i : Nat), v68 = .int .i64 i ∧ i ≤ m ∧ m - i ≤ gk ∧ Hid (Ext x4 wr))
  case atStart => exact ⟨0, rfl, Nat.zero_le _, by omega, Lib.hid (Ext.refl _)⟩
  case round =>
    obtain ⟨i, rfl, him, hgk, HI⟩ := hrel
    rcases Nat.lt_or_ge i m with hlt | hge
    · have d1 : decide (i < m) = true := by simp [hlt]
      obtain ⟨p, hp⟩ := get_of_lt Z (show i < Z.length by have := HZ.out.2.2; omega)
      obtain ⟨b, o, rfl, hq1, hq2⟩ := seg_pair (HS4.out.1.below HI.out) hp
      obtain ⟨b', o', rfl, hq3, hq4⟩ := seg_pair (HS4.out.2.below HI.out) hp
      have hi1 : (i : Int) < (m : Int) := by omega
      have hne : ∀ w, (binOp .neq 33 (.agg #[str p.1, str p.2]) (.agg #[str p.1, str p.2])).run Try.prog w = .ok (.bool false) w := fun w => by rw [neqR']; simp
      clear hp
      repeat' (go_not_at_region 15; (first | go_skip | go_guarded | go_step))
      go_quiet (fail)
      repeat' (first | go_skip | go_guarded | go_step)
      go_roundg (m - (i + 1))
      case measure => omega
      case rel => exact ⟨i + 1, by go_num, by omega, Nat.le_refl _, Lib.hid (below_drewN HI.out _)⟩
    · obtain rfl : i = m := by omega
      have d1 : decide (i < i) = false := by simp
      repeat' (go_not_at_region 19; (first | go_skip | go_guarded | go_step))
      obtain ⟨wa, hwa⟩ : ∃ wa, wa = wr.alloc (.cells #[.int .i64 0] 3) := ⟨_, rfl⟩
      obtain ⟨g15, hg15⟩ : ∃ g15, g15 = wr.heap.size := ⟨_, rfl⟩
      have hEa : Ext wr wa := by rw [hwa]; exact (Ext.refl wr).alloc (Nat.le_refl _) _
      have hba := heap_newG wr (.cells #[.int .i64 0] 3)
      rw [← hwa, ← hg15] at hba
      have hwa' := hwa.symm
      rw [hwa', ← hg15]
      have hgle15 : wr.heap.size ≤ g15 := Nat.le_of_eq hg15.symm
      have H9 : Hid (Ext w wr ∧ Rep NT wr g (treeOf L) ∧ PS wr (.slice A13 i C13) Y ∧ BxG gb ⟨zf, zt, zo⟩ an wr ∧ wr.heap[g6]? = some (.cells #[.slice A13 i C13] 28 (0, 0))) :=
        Lib.hid ⟨Ext.trans H7.out.1 HI.out, H7.out.2.1.ext HI.out, H7.out.2.2.1.below HI.out, H7.out.2.2.2.2.1.ext HI.out, box_extG H7.out.2.2.2.2.2 HI.out⟩
      have HWA : Hid (Ext wr wa ∧ wa.heap[g15]? = some (.cells #[.int .i64 0] 3 (0, 0))) := Lib.hid ⟨hEa, hba⟩
      clear hwa hwa' hg15 hEa hba HI HS4 R4 H7 hgk
      obtain ⟨b0, b1, b2⟩ := box3 (box_extG H9.out.2.2.2.1.b0 HWA.out.1)
      repeat' (first
        | (go_at_call 26; refine (each_c _ (some ⟨g, 0, none⟩) ⟨zf, zt, zo⟩ back).mono ?_; rintro e w6 ⟨v6, rfl, ⟨k0, k1, k2, rfl, hk⟩, f6⟩; replace hk := Lib.hid hk; replace f6 := Lib.hid f6; go_simp)
        | go_skip | go_guarded | go_step)
      clear b0 b1 b2
      obtain ⟨q, hq⟩ : ∃ q, q = an % 50 := ⟨_, rfl⟩
      have hrem : (an : Int).tmod 50 = (q : Int) := by rw [hq]; rfl
      have hq50 : q < 50 := by omega
      clear hq
      have hgle6 : wr.heap.size ≤ w6.heap.size := Nat.le_trans HWA.out.1.size f6.out.size
      refine (wpIn_wide (n := 5)).1 ?_
      refine wpIn_rangeFunc_RT (F := Fence.wide) (n := 5) rfl (by decide) (gf := 50) (lb := #[ptr k0, ptr k1, ptr k2]) rfl trivial each_enters
        (each_seq 4 (by decide) wr _ _ ⟨zf, zt, zo⟩ back k0 k1 k2 Y (.root H9.out.2.1) HG.out hwt (by show zf.length ≤ 1000; omega) HY.out.2.1.symm)
        (fun k o h hk h1 h2 => stT_other h h1 h2) kpT_t (fun W l o o' hl h1 h2 h3 => kpT_b hgle6 W l o o' hl h1 h2 h3) (fun r => ⟨Ext.trans HWA.out.1 (Ext.trans f6.out (((Ext.refl w6).alloc (Nat.le_refl _) _).alloc (by simp) _)), hk.out.ext (((Ext.refl w6).alloc (Nat.le_refl _) _).alloc (by simp) _)⟩) (fun _ => rfl)
        (fun pre W => Ext wr W ∧ W.heap[g15]? = some (.cells #[.int .i64 (pre.length : Int)] 3 (0, 0)) ∧ pre = Y.take pre.length ∧ pre.length ≤ q)
        (fun c pre W => (c = .ret ∧ ¬ pre <+: Y) ∨ (c = .exit 2 ∧ Ext wr W ∧ W.heap[g15]? = some (.cells #[.int .i64 (pre.length : Int)] 3 (0, 0)) ∧ pre.length = q + 1))
        (fun s A B row hs hg hr => ⟨ext_own hs.1 hg hgle6 (fun r e => (hr r e).1), heap_own hs.2.1 hg (fun r e => (hr r e).2), hs.2.2⟩)
        (fun c s A B row hs hg hr => hs.imp id (fun h => ⟨h.1, ext_own h.2.1 hg hgle6 (fun r e => (hr r e).1), heap_own h.2.2.1 hg (fun r e => (hr r e).2), h.2.2.2⟩))
        (fun s A B hs ht => ⟨stT_ext ht hs.1 (Nat.le_refl _), stT_heap ht hs.2.1 (by unfold tauS; decide), hs.2.2⟩)
        (fun c s A B hs ht => hs.imp id (fun h => ⟨h.1, stT_ext ht h.2.1 (Nat.le_refl _), stT_heap ht h.2.2.1 (by unfold tauS; decide), h.2.2.2⟩))
        ⟨Ext.trans HWA.out.1 f6.out, box_extG HWA.out.2 f6.out, rfl, Nat.zero_le _⟩
        (fun T x a' W => ∃ Bx, g15 < Bx ∧ W.heap[Bx]? = some (.cells #[str x.1, str x.2] 24 (0, 0)) ∧ a' = { tmps := (T.setIfInBounds 85 (.agg #[str x.1, str x.2])).setIfInBounds 16 (ptr Bx), defers := [] })
        (fun x a' s A B row hs hg hr => hs.imp fun Bx h => ⟨h.1, heap_own h.2.1 hg (fun r e => (hr r e).2), h.2.2⟩) ?assign ?body ?done ?stop
      case assign =>
        rintro l pre x W K hI hK
        have hl := heap_lt hI.2.1
        repeat' (first | gi_guarded | gi_step)
        exact hK _ _ ((KeepsOthers.alloc _ _).from _) (KeepQ.of_ext ((Ext.refl W).alloc (Nat.le_refl _) _)) ⟨hI.1.alloc hI.1.size _, box_extG hI.2.1 ((Ext.refl W).alloc (Nat.le_refl _) _), hI.2.2⟩ ⟨W.heap.size, hl, heap_newG _ _, rfl⟩
      case body =>
        rintro l pre x a' W hl _ ⟨h1, h2, h3, h4⟩ ⟨Bx, hBx, hbx, rfl⟩ hlt
        simp only [List.setIfInBounds_toArray, List.set_cons_succ, List.set_cons_zero]
        obtain ⟨p, hp⟩ := get_of_lt Y hlt
        have hil : pre.length < i := by have := HY.out.2.2; omega
        obtain ⟨A13', C13', e13, _, _, _, hs13⟩ := H9.out.2.2.1
        have hA13 : A13' = A13 := by injection e13 with h1; exact h1.symm
        rw [hA13] at hs13
        obtain ⟨b, o, rfl, hq1, hq2⟩ := seg_pair (hs13.below h1) hp
        have c15 : W.cell? ⟨g15, 0, none⟩ = some (.int .i64 (pre.length : Int)) := by rw [cellG h2]; rfl
        have f15 := freeG h2 0
        have l15 := heap_lt h2
        have c6 : W.cell? ⟨g6, 0, none⟩ = some (.slice (some ⟨b, o, none⟩) i C13) := by rw [cellG (box_extG H9.out.2.2.2.2 h1)]; rfl
        have x0 : W.cell? ⟨Bx, 0, none⟩ = some (str x.1) := by rw [cellG hbx]; rfl
        have x1 : W.cell? ⟨Bx, 1, none⟩ = some (str x.2) := by rw [cellG hbx]; rfl
        have hx' := H9.out.2.2.2.1.ext h1
        have c7 : W.cell? ⟨gb + 1, 0, none⟩ = some (.int .u8 (an : Int)) := by rw [cellG hx'.b1]; rfl
        have c8 : W.cell? ⟨gb + 1 + 1, 0, none⟩ = some (.bool false) := by rw [cellG hx'.b2]; rfl
        have f8 := freeG hx'.b2 0
        have l8 := heap_lt hx'.b2
        have hd1 : ¬ ((i : Int) ≤ (pre.length : Int)) := by omega
        have hd2 : (pre.length : Int) < (i : Int) := by omega
        have HB := Lib.hid (And.intro h1 (And.intro h2 (And.intro h3 (And.intro hbx hx'))))
        have HP2 := Lib.hid hp
        obtain ⟨k, hk9⟩ : ∃ k, k = pre.length := ⟨_, rfl⟩
        rw [← hk9] at c15 hil hd1 hd2 h4 hq1 hq2
        have HK9 := Lib.hid hk9
        have hk50 : k < 50 := by omega
        clear h1 h2 h3 hbx hx' hp hs13 e13 hA13 hlt hk9
        by_cases hxp : x = p
        · have hne : ∀ w, (binOp .neq 33 (.agg #[str x.1, str x.2]) (.agg #[str p.1, str p.2])).run Try.prog w = .ok (.bool false) w := fun w => by rw [neqR']; simp [hxp]
          have HXP := Lib.hid hxp
          clear hxp
          gi_step
          repeat' (gi_not_at_region 21; (first | gi_guarded | gi_step))
          refine wpIn_region_quiet_round (F := Fence.wide) l rfl (by kernel_rfl) (by kernel_rfl) (by kernel_rfl) ?_
          repeat (gi_big_quiet_step (fail))
          refine wpQuietIn_nil ?_
          rintro _ ⟨nq, rfl⟩
          have hn7 : gb + 1 ≠ g15 := by have := heap_lt H9.out.2.2.2.2; omega
          have hn7' : ¬ g15 = gb + 1 := fun e => hn7 e.symm
          have hEnd : Hid (KeepsFrom w6.heap.size W ((W.drewN nq).setCell ⟨g15, 0, none⟩ (.int .i64 ((k + 1 : Nat) : Int))) ∧ KpT wr.heap.size tauS W ((W.drewN nq).setCell ⟨g15, 0, none⟩ (.int .i64 ((k + 1 : Nat) : Int))) ∧
              Ext wr ((W.drewN nq).setCell ⟨g15, 0, none⟩ (.int .i64 ((k + 1 : Nat) : Int))) ∧ ((W.drewN nq).setCell ⟨g15, 0, none⟩ (.int .i64 ((k + 1 : Nat) : Int))).heap[g15]? = some (.cells #[.int .i64 ((pre ++ [x]).length : Int)] 3 (0, 0))) := Lib.hid (by
            have hd : Ext W (W.drewN nq) := below_drewN (Ext.refl _) _
            have hb := box_extG HB.out.2.1 hd
            refine ⟨?_, (KeepQ.of_ext hd).trans (kpT_box _ hb 0 _ hgle15 (by unfold tauS; decide)), (Ext.trans HB.out.1 hd).setCell hgle15 _, ?_⟩
            · refine ⟨by simp, fun j o' _ hj ho => ?_⟩
              exact (KeepsOthers.setCell (W.drewN nq) ⟨g15, 0, none⟩ _).same j o' (box_extG hj hd) ho
            · have := heap_set hb 0 (.int .i64 ((k + 1 : Nat) : Int))
              rw [HK9.out] at this ⊢
              simpa using this)
          have hkk : ((k + 1 : Nat) : Int) = (k : Int) + 1 := by omega
          rw [hkk] at hEnd
          clear hkk
          by_cases hgt : q < k + 1
          · have hd3 : (q : Int) < (k : Int) + 1 := by omega
            repeat' (first | gi_guarded | gi_step)
            exact ⟨hEnd.out.1, .inr ⟨rfl, hEnd.out.2.2.1, hEnd.out.2.2.2, by rw [List.length_append, ← HK9.out, List.length_singleton]; omega⟩⟩
          · have hd3 : ¬ ((q : Int) < (k : Int) + 1) := by omega
            have hd4 : (k : Int) + 1 ≤ (q : Int) := by omega
            repeat' (first | gi_guarded | gi_step)
            refine ⟨hEnd.out.1, hEnd.out.2.1, hEnd.out.2.2.1, hEnd.out.2.2.2, ?_, by rw [List.length_append, ← HK9.out, List.length_singleton]; omega⟩
            have ht := take_snoc HP2.out
            rw [← HB.out.2.2.1] at ht
            rw [HXP.out, List.length_append, List.length_singleton, ht]
        · have hne : ∀ w, (binOp .neq 33 (.agg #[str x.1, str x.2]) (.agg #[str p.1, str p.2])).run Try.prog w = .ok (.bool true) w := fun w => by rw [neqR']; simp [hxp]
          have HXP := Lib.hid hxp
          clear hxp
          gi_step
          repeat' (gi_not_at_region 21; (first | gi_guarded | gi_step))
          refine wpIn_region_quiet_round (F := Fence.wide) l rfl (by kernel_rfl) (by kernel_rfl) (by kernel_rfl) ?_
          repeat (gi_big_quiet_step (fail))
          refine wpQuietIn_nil ?_
          rintro _ ⟨nq, rfl⟩
          repeat' (first | gi_guarded | gi_step)
          refine ⟨?_, .inl ⟨rfl, ?_⟩⟩
          · have hd : Ext W (W.drewN nq) := below_drewN (Ext.refl _) _
            refine ⟨by simp, fun j o' _ hj ho => ?_⟩
            exact (KeepsOthers.setCell (W.drewN nq) ⟨gb + 1 + 1, 0, none⟩ _).same j o' (box_extG hj hd) ho
          · rintro ⟨t, ht⟩
            have h9 := HP2.out
            rw [← ht] at h9
            simp at h9
            exact HXP.out h9
      case done =>
        rintro D xs W hD rfl ⟨h1, h2, h3, h4⟩ hK
        have c15 : W.cell? ⟨g15, 0, none⟩ = some (.int .i64 ((i : Nat) : Int)) := by rw [cellG h2]; rw [← HY.out.2.2]; rfl
        have c6 : W.cell? ⟨g6, 0, none⟩ = some (.slice A13 i C13) := by rw [cellG (box_extG H9.out.2.2.2.2 h1)]; rfl
        have hx' := H9.out.2.2.2.1.ext h1
        have c7 : W.cell? ⟨gb + 1, 0, none⟩ = some (.int .u8 (an : Int)) := by rw [cellG hx'.b1]; rfl
        have c8 : W.cell? ⟨gb + 1 + 1, 0, none⟩ = some (.bool false) := by rw [cellG hx'.b2]; rfl
        have f8 := freeG hx'.b2 0
        have l8 := heap_lt hx'.b2
        have HB := Lib.hid (And.intro h1 (And.intro hx'.b2 hK))
        have hiq : i ≤ q := by have := HY.out.2.2; omega
        have hm1 : min (i : Int) ((q : Int) + 1) = (i : Int) := by omega
        clear h1 h2 hx' hK
        repeat' (first | go_skip | go_guarded | go_step)
        (try simp only [Exit.inBlock, Exit.then])
        repeat' (first | go_skip | go_guarded | go_step)
        have h5 := heap_set HB.out.2.1 0 (Value.bool true)
        have HE5 : Ext w (W.setCell ⟨gb + 1 + 1, 0, none⟩ (.bool true)) := (Ext.trans H9.out.1 HB.out.1).setCell (show w.heap.size ≤ gb + 1 + 1 by omega) _
        have hK5 : (W.setCell ⟨gb + 1 + 1, 0, none⟩ (.bool true)).heap[D]? = some (.deferred (some [])) := (Below.heap_setCell _ _ _ D (fun e => by have := HB.out.2.2; rw [e, HB.out.2.1] at this; cases this)).trans HB.out.2.2
        have hg := grownBy_putObj' (W.setCell ⟨gb + 1 + 1, 0, none⟩ (.bool true)) D (.deferred none)
        have hr : ∀ r, some D = some r → ∃ o : Obj, (W.setCell ⟨gb + 1 + 1, 0, none⟩ (.bool true)).heap[r]? = some o ∧ o.isCells = false := fun r e => by cases e; exact ⟨_, hK5, rfl⟩
        refine postM_ret1 (results_box1 rfl _ _ (gb + 1 + 1) (.bool true) _ _ _ rfl (heap_own h5 hg hr) Try.underlying4 rfl) rfl hK5 ⟨rfl, ?_⟩
        exact ext_own HE5 hg (Nat.le_trans H9.out.1.size hgle6) (fun r e => by cases e; exact hD)
      case stop =>
        rintro D c pre W hD hpre (⟨rfl, hno⟩ | ⟨rfl, h1, h2, h3⟩) hK
        · exact absurd hpre hno
        · refine (wpIn_wide (n := 5)).2 ?_
          have c15 : W.cell? ⟨g15, 0, none⟩ = some (.int .i64 (((q + 1 : Nat)) : Int)) := by rw [cellG h2]; rw [h3]; rfl
          have c6 : W.cell? ⟨g6, 0, none⟩ = some (.slice A13 i C13) := by rw [cellG (box_extG H9.out.2.2.2.2 h1)]; rfl
          have hx' := H9.out.2.2.2.1.ext h1
          have c7 : W.cell? ⟨gb + 1, 0, none⟩ = some (.int .u8 (an : Int)) := by rw [cellG hx'.b1]; rfl
          have c8 : W.cell? ⟨gb + 1 + 1, 0, none⟩ = some (.bool false) := by rw [cellG hx'.b2]; rfl
          have f8 := freeG hx'.b2 0
          have l8 := heap_lt hx'.b2
          have HB := Lib.hid (And.intro h1 (And.intro hx'.b2 hK))
          have hiq : q + 1 ≤ i := by have := hpre.length_le; have := HY.out.2.2; omega
          have hm1 : min (i : Int) ((q : Int) + 1) = (q : Int) + 1 := by omega
          have hqq : ((q + 1 : Nat) : Int) = (q : Int) + 1 := by omega
          rw [hqq] at c15
          clear hqq
          clear h1 h2 hx' hK
          repeat' (first | go_skip | go_guarded | go_step)
          have h5 := heap_set HB.out.2.1 0 (Value.bool true)
          have HE5 : Ext w (W.setCell ⟨gb + 1 + 1, 0, none⟩ (.bool true)) := (Ext.trans H9.out.1 HB.out.1).setCell (show w.heap.size ≤ gb + 1 + 1 by omega) _
          have hK5 : (W.setCell ⟨gb + 1 + 1, 0, none⟩ (.bool true)).heap[D]? = some (.deferred (some [])) := (Below.heap_setCell _ _ _ D (fun e => by have := HB.out.2.2; rw [e, HB.out.2.1] at this; cases this)).trans HB.out.2.2
          have hg := grownBy_putObj' (W.setCell ⟨gb + 1 + 1, 0, none⟩ (.bool true)) D (.deferred none)
          have hr : ∀ r, some D = some r → ∃ o : Obj, (W.setCell ⟨gb + 1 + 1, 0, none⟩ (.bool true)).heap[r]? = some o ∧ o.isCells = false := fun r e => by cases e; exact ⟨_, hK5, rfl⟩
          refine postM_ret1 (results_box1 rfl _ _ (gb + 1 + 1) (.bool true) _ _ _ rfl (heap_own h5 hg hr) Try.underlying4 rfl) rfl hK5 ⟨rfl, ?_⟩
          exact ext_own HE5 hg (Nat.le_trans H9.out.1.size hgle6) (fun r e => by cases e; exact hD)
end Go.Proofs.Ytbplddiopajocaa
