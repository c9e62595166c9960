/- Contract: shape.canon at a node that holds nothing. -/
import Derived.Test.YtclcgelbcbnekaaDoorM39
set_option linter.unusedVariables false
set_option linter.unusedSimpArgs false
namespace Go.Proofs.YtclcgelbcbnekaaDoor
open Go Go.RowKit Go.QS Go.QS.Nk
set_option linter.unusedVariables false
variable [Zero (Nat → Prop)]
set_option linter.unusedSectionVars false
attribute [local go_sem] Oper.semAt_some

set_option maxRecDepth 100000 in
set_option maxHeartbeats 2000000 in
theorem canon0_c (w : World) (a0 a1 a2 : Int) (g : Nat) (hN : No w g) : Calls Tryd.prog 34 #[.agg #[.int .u64 a0, .int .u64 a1, .int .u64 a2], ptr g, .slice none 0 0] w fun e w' => e = .returned (.tuple #[.int .i64 0, .bool true]) ∧ Ext w w' := by
  have HN := Lib.hid hN
  clear hN
  refine calls_of_wp_marks Tryd.func34 rfl ?_
  simp only [Tryd.ntmps34, List.size_toArray, List.length_cons, List.length_nil, Nat.reduceAdd, Nat.reduceSub, Array.replicate_succ, Array.replicate_zero, List.push_toArray, List.append_toArray, List.nil_append, List.cons_append]
  repeat' (go_not_at_region 1; (first | go_skip | go_guarded | go_step))
  obtain ⟨gh, hgh⟩ : ∃ g, g = w.heap.size := ⟨_, rfl⟩
  rw [← hgh]
  refine wp_nameS (fun w' => BxN gh g w' ∧ Ext w w' ∧ w.heap.size ≤ gh) ⟨?_, ?_, by omega⟩ ?_
  · obtain ⟨wa, hwa⟩ : ∃ x, x = w.alloc (.cells #[.int .u64 a0, .int .u64 a1, .int .u64 a2] 26) := ⟨_, rfl⟩
    obtain ⟨wb, hwb⟩ : ∃ x, x = wa.alloc (.cells #[ptr g] 29) := ⟨_, rfl⟩
    obtain ⟨wc, hwc⟩ : ∃ x, x = wb.alloc (.cells #[.slice none 0 0] 124) := ⟨_, rfl⟩
    obtain ⟨wd, hwd⟩ : ∃ x, x = wc.alloc (.cells #[.int .i64 0] 3) := ⟨_, rfl⟩
    obtain ⟨we, hwe⟩ : ∃ x, x = wd.alloc (.cells #[.bool false] 4) := ⟨_, rfl⟩
    have sa : wa.heap.size = gh + 1 := by rw [hwa]; simp [hgh]
    have sb : wb.heap.size = gh + 2 := by rw [hwb]; simp [sa]
    have sc : wc.heap.size = gh + 3 := by rw [hwc]; simp [sb]
    have sd : wd.heap.size = gh + 4 := by rw [hwd]; simp [sc]
    have eb : Ext wb wc := by rw [hwc]; exact (Ext.refl _).alloc (Nat.le_refl _) _
    have ec : Ext wc wd := by rw [hwd]; exact (Ext.refl _).alloc (Nat.le_refl _) _
    have ed : Ext wd we := by rw [hwe]; exact (Ext.refl _).alloc (Nat.le_refl _) _
    have hb := heap_newG wa (.cells #[ptr g] 29)
    rw [← hwb, sa] at hb
    have hc := heap_newG wb (.cells #[.slice none 0 0] 124)
    rw [← hwc, sb] at hc
    have hd := heap_newG wc (.cells #[.int .i64 0] 3)
    rw [← hwd, sc] at hd
    have he := heap_newG wd (.cells #[.bool false] 4)
    rw [← hwe, sd] at he
    have hB : BxN gh g we := ⟨box_extG hb (Ext.trans eb (Ext.trans ec ed)), box_extG hc (Ext.trans ec ed), box_extG hd ed, he⟩
    rw [hwe, hwd, hwc, hwb, hwa] at hB
    exact hB
  · have e1 : Ext w (w.alloc (.cells #[.int .u64 a0, .int .u64 a1, .int .u64 a2] 26)) := (Ext.refl _).alloc (Nat.le_refl _) _
    have e2 := e1.alloc e1.size (.cells #[ptr g] 29)
    have e3 := e2.alloc e2.size (.cells #[.slice none 0 0] 124)
    have e4 := e3.alloc e3.size (.cells #[.int .i64 0] 3)
    exact e4.alloc e4.size _
  clear hgh
  intro w1 H1
  have hgw : w.heap.size ≤ gh := H1.out.2.2
  have c1 : w1.cell? ⟨gh + 1, 0, none⟩ = some (ptr g) := by rw [cellG H1.out.1.b1]; rfl
  repeat' (first | go_at_call 59 | go_skip | go_guarded | go_step)
  refine (npairs_c w1 g (.slice none 0 0) [] (HN.out.ext H1.out.2.1).cells.2.2.1 (Sl.nil _ _) (by decide)).mono ?_
  rintro e w2 ⟨v2, rfl, r2, f2⟩
  obtain ⟨A2, C2, rfl⟩ := own_slice r2
  have H2 : Hid (BxN gh g w2 ∧ Ext w w2) := Lib.hid ⟨H1.out.1.ext f2, Ext.trans H1.out.2.1 f2⟩
  clear r2 f2 c1 H1
  have c1 : w2.cell? ⟨gh + 1, 0, none⟩ = some (ptr g) := by rw [cellG H2.out.1.b1]; rfl
  go_simp
  repeat' (first | go_at_call 52 | go_skip | go_guarded | go_step)
  refine (isb_c w2 g false (HN.out.ext H2.out.2).cells.2.2.2.2.1).mono ?_
  rintro e w3 ⟨rfl, f3⟩
  have H3 : Hid (BxN gh g w3 ∧ Ext w w3) := Lib.hid ⟨H2.out.1.ext f3, Ext.trans H2.out.2 f3⟩
  clear f3 c1 H2
  have c2 : w3.cell? ⟨gh + 2, 0, none⟩ = some (.slice none 0 0) := by rw [cellG H3.out.1.b2]; rfl
  go_simp
  repeat' (go_not_at_region 15; (first | go_skip | go_guarded | go_step))
  obtain ⟨g11, hg11⟩ : ∃ g, g = w3.heap.size := ⟨_, rfl⟩
  rw [← hg11]
  refine wp_nameS (fun w' => w'.heap[g11]? = some (.cells #[.int .i64 0] 3 (0, 0)) ∧ Ext w3 w' ∧ w3.heap.size ≤ g11) ⟨by rw [hg11]; exact heap_newG w3 _, (Ext.refl _).alloc (Nat.le_refl _) _, by omega⟩ ?_
  clear hg11 c2
  intro w4 H4
  have H5 : Hid (BxN gh g w4 ∧ Ext w w4 ∧ w4.heap[g11]? = some (.cells #[.int .i64 0] 3 (0, 0))) := Lib.hid ⟨H3.out.1.ext H4.out.2.1, Ext.trans H3.out.2 H4.out.2.1, H4.out.1⟩
  clear H4 H3
  have c2 : w4.cell? ⟨gh + 2, 0, none⟩ = some (.slice none 0 0) := by rw [cellG H5.out.1.b2]; rfl
  have f2 := freeG H5.out.1.b2 0
  have l2 := heap_lt H5.out.1.b2
  repeat' (go_not_at_region 16; (first | go_skip | go_guarded | go_step))
  obtain ⟨w5, hw5⟩ : ∃ x, x = w4.setCell ⟨gh + 2, 0, none⟩ (.slice none 0 0) := ⟨_, rfl⟩
  have hw54 : ∀ j, j ≠ gh + 2 → w5.heap[j]? = w4.heap[j]? := fun j hj => by rw [hw5]; exact Below.heap_setCell w4 ⟨gh + 2, 0, none⟩ _ j hj
  have H6 : Hid (BxN gh g w5 ∧ Ext w w5 ∧ w5.heap[g11]? = some (.cells #[.int .i64 0] 3 (0, 0))) := Lib.hid ⟨⟨(hw54 _ (by omega)).trans H5.out.1.b1, by rw [hw5]; exact heap_set H5.out.1.b2 0 _, (hw54 _ (by omega)).trans H5.out.1.b3, (hw54 _ (by omega)).trans H5.out.1.b4⟩, by rw [hw5]; exact H5.out.2.1.setCell (show w.heap.size ≤ gh + 2 by omega) _, (hw54 _ (fun e => by have h1 := H5.out.2.2; have h2 := H5.out.1.b2; rw [e, h2] at h1; cases h1)).trans H5.out.2.2⟩
  rw [← hw5]
  clear hw54 c2 f2 l2 H5 hw5
  have c1 : w5.cell? ⟨gh + 1, 0, none⟩ = some (ptr g) := by rw [cellG H6.out.1.b1]; rfl
  repeat' (first | go_at_call 60 | go_skip | go_guarded | go_step)
  refine (data_c w5 g 0 (HN.out.ext H6.out.2.1).cells.1).mono ?_
  rintro e w6 ⟨rfl, rfl⟩
  go_simp
  repeat' (first | go_at_call 66 | go_skip | go_guarded | go_step)
  refine (ball_c w5 0).mono ?_
  rintro e w7 ⟨k1, rfl, hk1, f7⟩
  have H7 : Hid ((BxN gh g w7 ∧ Ext w w7 ∧ w7.heap[g11]? = some (.cells #[.int .i64 0] 3 (0, 0))) ∧ w7.cell? ⟨k1, 0, none⟩ = some (.int .u32 0)) := Lib.hid ⟨⟨H6.out.1.ext f7, Ext.trans H6.out.2.1 f7, box_extG H6.out.2.2 f7⟩, hk1⟩
  have hw7 : w.heap.size ≤ w7.heap.size := H7.out.1.2.1.size
  clear c1 f7 hk1 H6
  go_simp
  repeat' (first | go_skip | go_guarded | go_step)
  refine (wpIn_wide (n := 5)).1 ?_
  refine wpIn_rangeFunc_R (F := Fence.wide) (n := 5) rfl (by decide) (gf := 90) (lb := #[ptr k1]) rfl trivial ball_enters
    (ball0_seq 4 k1 (fun A B => A = B) (fun _ _ => True)) (fun k o h _ h1 _ => h ▸ h1) (fun _ _ => trivial) (fun _ _ _ _ _ _ _ _ => trivial)
    (fun r => ext_cellS (((Ext.refl w7).alloc (Nat.le_refl _) _).alloc (by simp) _) H7.out.2) (fun _ => rfl)
    (fun pre W => BxN gh g W ∧ Ext w W ∧ W.heap[g11]? = some (.cells #[.int .i64 0] 3 (0, 0))) (fun _ _ _ => False)
    (fun s A B row hs hg hr => ⟨hs.1.own hg (fun r e => (hr r e).2), ext_own hs.2.1 hg hw7 (fun r e => (hr r e).1), heap_own hs.2.2 hg (fun r e => (hr r e).2)⟩) (fun _ s A B row hs hg hr => hs)
    (fun s A B hs ht => ht ▸ hs) (fun _ _ _ _ h _ => h) H7.out.1 (fun _ _ _ => True) (fun _ _ _ _ _ _ _ _ _ => trivial) ?assign ?body ?done ?stop
  case assign =>
    intro l pre x W K hI hK
    repeat' (first | gi_guarded | gi_step)
    exact hK _ _ (KeepsFrom.refl _ _) trivial hI trivial
  case body =>
    intro l pre x a' W _ _ _ _ hlt
    exact absurd hlt (Nat.not_lt_zero _)
  case stop =>
    intro D c pre W _ _ h
    exact h.elim
  case done =>
    rintro D1 xs x8 hD1 rfl ⟨p1, p2, p3⟩ hKD1
    have H8 : Hid ((BxN gh g x8 ∧ Ext w x8 ∧ x8.heap[g11]? = some (.cells #[.int .i64 0] 3 (0, 0))) ∧ x8.heap[D1]? = some (.deferred (some []))) := Lib.hid ⟨⟨p1, p2, p3⟩, hKD1⟩
    clear p1 p2 p3 hKD1
    have c1 : x8.cell? ⟨gh + 1, 0, none⟩ = some (ptr g) := by rw [cellG H8.out.1.1.b1]; rfl
    repeat' (first | go_at_call 61 | go_skip | go_guarded | go_step)
    refine (nodes_c x8 g 0 (HN.out.ext H8.out.1.2.1).cells.2.1).mono ?_
    rintro e w9 ⟨rfl, rfl⟩
    go_simp
    repeat' (first | go_at_call 66 | go_skip | go_guarded | go_step)
    refine (ball_c x8 0).mono ?_
    rintro e x9 ⟨k2, rfl, hk2, f9⟩
    have H9 : Hid ((BxN gh g x9 ∧ Ext w x9 ∧ x9.heap[g11]? = some (.cells #[.int .i64 0] 3 (0, 0)) ∧ x9.heap[D1]? = some (.deferred (some []))) ∧ x9.cell? ⟨k2, 0, none⟩ = some (.int .u32 0)) := Lib.hid ⟨⟨H8.out.1.1.ext f9, Ext.trans H8.out.1.2.1 f9, box_extG H8.out.1.2.2 f9, box_extG H8.out.2 f9⟩, hk2⟩
    have hw9 : w.heap.size ≤ x9.heap.size := H9.out.1.2.1.size
    have hD19 : D1 < x9.heap.size := heap_lt H9.out.1.2.2.2
    clear c1 f9 hk2 H8
    go_simp
    repeat' (first | go_skip | go_guarded | go_step)
    refine (wpIn_wide (n := 5)).1 ?_
    refine wpIn_rangeFunc_R (F := Fence.wide) (n := 5) rfl (by decide) (gf := 90) (lb := #[ptr k2]) rfl trivial ball_enters
      (ball0_seq 4 k2 (fun A B => A = B) (fun _ _ => True)) (fun k o h _ h1 _ => h ▸ h1) (fun _ _ => trivial) (fun _ _ _ _ _ _ _ _ => trivial)
      (fun r => ext_cellS (((Ext.refl x9).alloc (Nat.le_refl _) _).alloc (by simp) _) H9.out.2) (fun _ => rfl)
      (fun pre W => BxN gh g W ∧ Ext w W ∧ W.heap[g11]? = some (.cells #[.int .i64 0] 3 (0, 0)) ∧ W.heap[D1]? = some (.deferred (some []))) (fun _ _ _ => False)
      (fun s A B row hs hg hr => ⟨hs.1.own hg (fun r e => (hr r e).2), ext_own hs.2.1 hg hw9 (fun r e => (hr r e).1), heap_own hs.2.2.1 hg (fun r e => (hr r e).2), (hg.block D1 (heap_lt hs.2.2.2) (fun e => by have := (hr D1 e.symm).1; omega)).trans hs.2.2.2⟩) (fun _ s A B row hs hg hr => hs)
      (fun s A B hs ht => ht ▸ hs) (fun _ _ _ _ h _ => h) H9.out.1 (fun _ _ _ => True) (fun _ _ _ _ _ _ _ _ _ => trivial) ?assign ?body ?done ?stop
    case assign =>
      intro l pre x W K hI hK
      repeat' (first | gi_guarded | gi_step)
      exact hK _ _ (KeepsFrom.refl _ _) trivial hI trivial
    case body =>
      intro l pre x a' W _ _ _ _ hlt
      exact absurd hlt (Nat.not_lt_zero _)
    case stop =>
      intro D c pre W _ _ h
      exact h.elim
    case done =>
      rintro D2 xs z1 hD2 rfl ⟨p1, p2, p3, p4⟩ hKD2
      have H10 : Hid ((BxN gh g z1 ∧ Ext w z1 ∧ z1.heap[g11]? = some (.cells #[.int .i64 0] 3 (0, 0)) ∧ z1.heap[D1]? = some (.deferred (some []))) ∧ z1.heap[D2]? = some (.deferred (some []))) := Lib.hid ⟨⟨p1, p2, p3, p4⟩, hKD2⟩
      clear p1 p2 p3 p4 hKD2
      (try simp only [Exit.inBlock, Exit.then])
      have c11 : z1.cell? ⟨g11, 0, none⟩ = some (.int .i64 0) := by rw [cellG H10.out.1.2.2.1]; rfl
      have c3 : z1.cell? ⟨gh + 1 + 1 + 1, 0, none⟩ = some (.int .i64 0) := by rw [cellG H10.out.1.1.b3]; rfl
      have c4 : z1.cell? ⟨gh + 1 + 1 + 1 + 1, 0, none⟩ = some (.bool false) := by rw [cellG H10.out.1.1.b4]; rfl
      have f3 := freeG H10.out.1.1.b3 0
      have f4 := freeG H10.out.1.1.b4 0
      have l3 := heap_lt H10.out.1.1.b3
      have l4 := heap_lt H10.out.1.1.b4
      repeat' (first | go_skip | go_guarded | go_step)
      obtain ⟨zz, hzz⟩ : ∃ x, x = (z1.setCell ⟨gh + 1 + 1 + 1, 0, none⟩ (.int .i64 0)).setCell ⟨gh + 1 + 1 + 1 + 1, 0, none⟩ (.bool true) := ⟨_, rfl⟩
      have hz0 : ∀ j, j ≠ gh + 3 → j ≠ gh + 4 → zz.heap[j]? = z1.heap[j]? := fun j h1 h2 => by rw [hzz]; exact (Below.heap_setCell _ ⟨gh + 1 + 1 + 1 + 1, 0, none⟩ _ j h2).trans (Below.heap_setCell _ ⟨gh + 1 + 1 + 1, 0, none⟩ _ j h1)
      have hz3 : zz.heap[gh + 3]? = some (.cells #[.int .i64 0] 3 (0, 0)) := by rw [hzz]; exact (Below.heap_setCell _ ⟨gh + 1 + 1 + 1 + 1, 0, none⟩ _ (gh + 3) (fun (e : gh + 3 = gh + 4) => by omega)).trans (heap_set H10.out.1.1.b3 0 _)
      have hz4 : zz.heap[gh + 4]? = some (.cells #[.bool true] 4 (0, 0)) := by rw [hzz]; exact heap_set ((Below.heap_setCell _ ⟨gh + 1 + 1 + 1, 0, none⟩ _ (gh + 4) (fun (e : gh + 4 = gh + 3) => by omega)).trans H10.out.1.1.b4) 0 _
      have hzE : Ext w zz := by rw [hzz]; exact (H10.out.1.2.1.setCell (show w.heap.size ≤ gh + 3 by omega) _).setCell (show w.heap.size ≤ gh + 4 by omega) _
      have hd2 : zz.heap[D2]? = some (.deferred (some [])) := (hz0 D2 (fun e => by have h1 := H10.out.2; rw [e, H10.out.1.1.b3] at h1; cases h1) (fun e => by have h1 := H10.out.2; rw [e, H10.out.1.1.b4] at h1; cases h1)).trans H10.out.2
      have hd1 : zz.heap[D1]? = some (.deferred (some [])) := (hz0 D1 (fun e => by have h1 := H10.out.1.2.2.2; rw [e, H10.out.1.1.b3] at h1; cases h1) (fun e => by have h1 := H10.out.1.2.2.2; rw [e, H10.out.1.1.b4] at h1; cases h1)).trans H10.out.1.2.2.2
      have hg2 := grownBy_putObj' zz D2 (.deferred none)
      have hr2 : ∀ r, some D2 = some r → ∃ o : Obj, zz.heap[r]? = some o ∧ o.isCells = false := fun r e => by cases e; exact ⟨_, hd2, rfl⟩
      have hd1' : (zz.putObj D2 (.deferred none)).heap[D1]? = some (.deferred (some [])) := (World.putObj_heap_other (by omega)).trans hd1
      have hg1 := grownBy_putObj' (zz.putObj D2 (.deferred none)) D1 (.deferred none)
      have hr1 : ∀ r, some D1 = some r → ∃ o : Obj, (zz.putObj D2 (.deferred none)).heap[r]? = some o ∧ o.isCells = false := fun r e => by cases e; exact ⟨_, hd1', rfl⟩
      rw [← hzz]
      refine postM_ret2 (D := D1) (E := D2) (results_box2 rfl _ _ (gh + 3) (gh + 4) (.int .i64 0) (.bool true) _ _ _ _ _ _ rfl (heap_own (heap_own hz3 hg2 hr2) hg1 hr1) Tryd.underlying3 rfl rfl (heap_own (heap_own hz4 hg2 hr2) hg1 hr1) Tryd.underlying4 rfl) rfl hd2 hd1' ⟨rfl, ?_⟩
      exact ext_own (ext_own hzE hg2 hw9 (fun r e => by cases e; exact hD2)) hg1 hw7 (fun r e => by cases e; exact hD1)
end Go.Proofs.YtclcgelbcbnekaaDoor
