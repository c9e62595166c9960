/- Contract: SpanNil. -/
import Derived.Test.YtbplddiopajocaaGe
set_option linter.unusedVariables false
set_option linter.unusedSimpArgs false
namespace Go.Proofs.Ytbplddiopajocaa
open Go Go.RowKit Go.QS
set_option linter.unusedVariables false
attribute [local go_sem] Oper.semAt_some

set_option maxRecDepth 100000 in
theorem nextn_c (w : World) : Calls Try.prog 27 #[.pointer none] w fun e w' => e = .returned (.tuple #[.agg #[str [], str []], .bool false]) ∧ Ext w w' := by
  go_enter Try.func27, Try.ntmps27
  repeat' (first | go_skip | go_guarded | go_step)
  (try simp only [Exit.inBlock, Exit.then])
  refine bodyPost_ret_by (results_row_tmp rfl _ _ _ _ _ _ _ rfl (heap_newG w _) Try.underlying24 rfl (by kernel_rfl)) rfl ?_
  exact ⟨rfl, (Ext.refl w).alloc (Nat.le_refl _) _⟩

set_option maxRecDepth 100000 in
theorem copyn_c (w : World) : Calls Try.prog 28 #[.pointer none] w fun e w' => e = .returned (.pointer none) ∧ Ext w w' := by
  go_enter Try.func28, Try.ntmps28
  repeat' (first | go_skip | go_guarded | go_step)
  go_ret
  exact ⟨rfl, Ext.refl _⟩

set_option maxRecDepth 100000 in
set_option maxHeartbeats 2000000 in
theorem spanNil_c (w : World) (s0 : Sp) (back : Bool) :
    Calls Try.prog 5 #[s0.v, .bool back] w fun e w' => e = .returned (.bool true) ∧ Ext w w' := by
  obtain ⟨s, hs⟩ : ∃ s, s = s0.cut := ⟨_, rfl⟩
  have hsf : s.f.length ≤ 40 := by rw [hs]; simp [Sp.cut]; omega
  have HS0 := Lib.hid hs
  obtain ⟨sf, stt, so⟩ := s0
  obtain ⟨zf, zt, zo⟩ := s
  simp only at hsf
  clear hs
  refine calls_of_wp_marks Try.func5 rfl ?_
  simp only [Try.ntmps5, List.size_toArray, List.length_cons, List.length_nil, Nat.reduceAdd, Nat.reduceSub, Array.replicate_succ, Array.replicate_zero, List.push_toArray, List.append_toArray, List.nil_append, List.cons_append]
  repeat' (go_not_at_region 1; (first | go_skip | go_guarded | go_step))
  obtain ⟨wa, hwa⟩ : ∃ wa, wa = (w.alloc (.cells #[str sf, str stt, .bool so] 42)).alloc (.cells #[.bool false] 4) := ⟨_, rfl⟩
  obtain ⟨gb, hgb⟩ : ∃ gb, gb = w.heap.size := ⟨_, rfl⟩
  have e1 : Ext w (w.alloc (.cells #[str sf, str stt, .bool so] 42)) := (Ext.refl _).alloc (Nat.le_refl _) _
  have hEa : Ext w wa := by rw [hwa]; exact e1.alloc e1.size _
  have hba := box_extG (heap_newG w (.cells #[str sf, str stt, .bool so] 42)) ((Ext.refl _).alloc (Nat.le_refl _) (.cells #[.bool false] 4))
  have hbb := heap_newG (w.alloc (.cells #[str sf, str stt, .bool so] 42)) (.cells #[.bool false] 4)
  rw [World.size_alloc] at hbb
  have hsz : wa.heap.size = gb + 2 := by rw [hwa, hgb]; simp
  rw [← hwa, ← hgb] at hba hbb
  have hwa' := hwa.symm
  rw [hwa', ← hgb]
  have hgle : w.heap.size ≤ gb := Nat.le_of_eq hgb.symm
  have HA : Hid (Ext w wa ∧ wa.heap[gb]? = some (.cells #[str sf, str stt, .bool so] 42 (0, 0)) ∧ wa.heap[gb + 1]? = some (.cells #[.bool false] 4 (0, 0))) := Lib.hid ⟨hEa, hba, hbb⟩
  clear hwa hgb hEa hba hwa' hbb e1
  repeat' (first | go_at_call 18 | go_skip | go_guarded | go_step)
  refine (awake_c wa).mono ?_
  rintro e w1 ⟨rfl, f1⟩
  replace HA := Lib.hid (And.intro (Ext.trans HA.out.1 f1) (And.intro (box_ext HA.out.2.1 f1) (And.intro (box_ext HA.out.2.2 f1) f1.size)))
  clear f1
  obtain ⟨b0, b1, b2⟩ := box3 HA.out.2.1
  go_simp
  repeat' (first | go_at_call 20 | go_skip | go_guarded | go_step)
  refine (short_c w1 ⟨sf, stt, so⟩).mono ?_
  rintro e w2 ⟨rfl, f2⟩
  rw [← HS0.out]
  replace HA := Lib.hid (And.intro (Ext.trans HA.out.1 f2) (And.intro (box_ext HA.out.2.1 f2) (And.intro (box_ext HA.out.2.2.1 f2) (Nat.le_trans HA.out.2.2.2 f2.size))))
  clear f2 b0 b1 b2
  obtain ⟨b0, b1, b2⟩ := box3 HA.out.2.1
  have bf := freeG HA.out.2.1
  have hgbl := heap_lt HA.out.2.1
  go_simp
  repeat' (go_not_at_region 4; (first | go_skip | go_guarded | go_step))
  obtain ⟨w3, hw3⟩ : ∃ w3, w3 = ((w2.setCell ⟨gb, 0, none⟩ (str zf)).setCell ⟨gb, 1, none⟩ (str zt)).setCell ⟨gb, 2, none⟩ (.bool zo) := ⟨_, rfl⟩
  have hw3' : ((w2.setCell ⟨gb, 0, none⟩ (Value.string (bs zf))).setCell ⟨gb, 1, none⟩ (Value.string (bs zt))).setCell ⟨gb, 2, none⟩ (.bool zo) = w3 := hw3.symm
  rw [hw3']
  have hb3 : w3.heap[gb]? = some (.cells #[str zf, str zt, .bool zo] 42 (0, 0)) := by rw [hw3]; exact heap_set (heap_set (heap_set HA.out.2.1 0 _) 1 _) 2 _
  have hb4 : w3.heap[gb + 1]? = some (.cells #[.bool false] 4 (0, 0)) := by
    rw [hw3]
    exact (Below.heap_setCell _ _ _ (gb + 1) (by simp)).trans ((Below.heap_setCell _ _ _ (gb + 1) (by simp)).trans ((Below.heap_setCell _ _ _ (gb + 1) (by simp)).trans HA.out.2.2.1))
  have hE3 : Ext w w3 := by rw [hw3]; exact ((HA.out.1.setCell hgle _).setCell hgle _).setCell hgle _
  have H3 : Hid (Ext w w3 ∧ w3.heap[gb]? = some (.cells #[str zf, str zt, .bool zo] 42 (0, 0)) ∧ w3.heap[gb + 1]? = some (.cells #[.bool false] 4 (0, 0)) ∧ w3.heap.size = w2.heap.size) := Lib.hid ⟨hE3, hb3, hb4, by rw [hw3]; simp⟩
  clear hw3 hw3' hb3 hb4 hE3 b0 b1 b2 bf hgbl
  repeat' (first
    | (go_at_call 27; refine (nextn_c w3).mono ?_; rintro e w4 ⟨rfl, f4⟩; replace f4 := Lib.hid f4; go_simp)
    | (go_not_at_region 6; (first | go_skip | go_guarded | go_step)))
  have E5 : Ext w3 (w4.alloc (.cells #[str [], str []] 24)) := f4.out.alloc f4.out.size _
  obtain ⟨b0, b1, b2⟩ := box3 (box_ext H3.out.2.1 E5)
  replace E5 := Lib.hid E5
  repeat' (first
    | (go_at_call 26; refine (each_c _ none ⟨zf, zt, zo⟩ back).mono ?_; rintro e w6 ⟨v6, rfl, ⟨k0, k1, k2, rfl, hk⟩, f6⟩; replace hk := Lib.hid hk; replace f6 := Lib.hid (Ext.trans E5.out f6); go_simp)
    | go_skip | go_guarded | go_step)
  have H6 : Hid (Ext w w6 ∧ w6.heap[gb]? = some (.cells #[str zf, str zt, .bool zo] 42 (0, 0)) ∧ w6.heap[gb + 1]? = some (.cells #[.bool false] 4 (0, 0))) := Lib.hid ⟨Ext.trans H3.out.1 f6.out, box_ext H3.out.2.1 f6.out, box_ext H3.out.2.2.1 f6.out⟩
  have hgle6 := H6.out.1.size
  clear b0 b1 b2
  refine (wpIn_wide (n := 5)).1 ?_
  refine wpIn_rangeFunc_R (F := Fence.wide) (n := 5) rfl (by decide) (gf := 50) (lb := #[ptr k0, ptr k1, ptr k2]) rfl trivial each_enters
    (each_seq 4 (by decide) w6 none [] ⟨zf, zt, zo⟩ back k0 k1 k2 [] .nil (fun _ h => by cases h) (by decide) (by show zf.length ≤ 1000; omega) rfl)
    (fun k o h hk h1 h2 => stT_other h h1 h2) kpT_t (fun W l o o' hl h1 h2 h3 => kpT_b (Nat.le_refl _) W l o o' hl h1 h2 h3) (fun r => ⟨((Ext.refl w6).alloc (Nat.le_refl _) _).alloc (by simp) _, hk.out.ext (((Ext.refl w6).alloc (Nat.le_refl _) _).alloc (by simp) _)⟩) (fun _ => rfl)
    (fun pre W => W.heap[gb]? = some (.cells #[str zf, str zt, .bool zo] 42 (0, 0)) ∧ W.heap[gb + 1]? = some (.cells #[.bool false] 4 (0, 0)) ∧ Ext w W)
    (fun _ _ _ => False)
    (fun s A B row hs hg hr => ⟨heap_own hs.1 hg (fun r e => (hr r e).2), heap_own hs.2.1 hg (fun r e => (hr r e).2), ext_own hs.2.2 hg hgle6 (fun r e => (hr r e).1)⟩) (fun _ s A B row hs hg hr => hs)
    (fun s A B hs ht => ⟨stT_heap ht hs.1 (by unfold tauS; decide), stT_heap ht hs.2.1 (by unfold tauS; decide), stT_ext (ht.mono (fun k o h => by rcases h with h | h; exact .inl (by omega); exact .inr h)) hs.2.2 (Nat.le_refl _)⟩)
    (fun _ _ _ _ h _ => h) ⟨H6.out.2.1, H6.out.2.2, H6.out.1⟩
    (fun x a' W => True) (fun x a' s A B row hs hg hr => trivial) ?assign ?body ?done ?stop
  case assign =>
    rintro l pre x W K hI hK
    repeat' (first | gi_guarded | gi_step)
    exact hK _ _ (KeepsFrom.refl _ _) (KeepQ.refl _) hI trivial
  case body =>
    rintro l pre x a' W hl _ _ _ hlt
    exact absurd hlt (Nat.not_lt_zero _)
  case stop =>
    rintro D c pre W _ _ h
    exact h.elim
  case done =>
    rintro D xs W hD rfl ⟨h1, h2, h3⟩ hK
    obtain ⟨b0, b1, b2⟩ := box3 h1
    have c4 : W.cell? ⟨gb + 1, 0, none⟩ = some (.bool false) := by rw [cellG h2]; rfl
    have f4' := freeG h2 0
    have hgl := heap_lt h2
    have hgl0 := heap_lt h1
    have HI := Lib.hid (And.intro h1 (And.intro h2 h3))
    have HK := Lib.hid hK
    clear h1 h2 h3 hK
    repeat' (first
      | (go_at_call 28; refine (copyn_c W).mono ?_; rintro e x1 ⟨rfl, g1⟩; clear b0 b1 b2; obtain ⟨b0, b1, b2⟩ := box3 (box_ext HI.out.1 g1); replace g1 := Lib.hid g1; go_simp)
      | (go_at_call 23; refine (newn_c x1 ⟨zf, zt, zo⟩ back).mono ?_; rintro e x2 ⟨c2, rfl, hC2⟩; clear b0 b1 b2; replace hC2 := Lib.hid hC2; go_simp)
      | (go_at_call 22; refine (goes_c x1 x2 c2 _ _ [] ⟨zf, zt, zo⟩ back (.slice none 0 0) [] hC2.out (fun _ h => by cases h) (by decide) (by show zf.length ≤ 1000; omega) (Sl.nil _ _)).mono ?_
         rintro e x3 ⟨he, g3⟩
         rw [show decide (com ⟨zf, zt, zo⟩ back [] = []) = true from rfl] at he
         subst he
         replace g3 := Lib.hid (Ext.trans g1.out g3)
         obtain ⟨b0, b1, b2⟩ := box3 (box_ext HI.out.1 g3.out)
         go_simp)
      | (go_at_call 25; refine (spairs_c x3 none [] ⟨zf, zt, zo⟩ [] .nil (fun _ h => by cases h) (by decide) (by show zf.length ≤ 1000; omega) rfl (by decide)).mono ?_
         rintro e x4 ⟨v4, rfl, hr4, g4⟩
         obtain ⟨A4, C4, rfl⟩ := own_slice hr4
         clear b0 b1 b2 hr4
         replace g4 := Lib.hid (Ext.trans g3.out g4)
         obtain ⟨b0, b1, b2⟩ := box3 (box_ext HI.out.1 g4.out)
         go_simp)
      | (go_at_call 24; refine (scount_c x4 none [] ⟨zf, zt, zo⟩ [] .nil (fun _ h => by cases h) (by decide) (by show zf.length ≤ 1000; omega) rfl (by decide)).mono ?_
         rintro e x5 ⟨rfl, g5⟩
         clear b0 b1 b2
         replace g5 := Lib.hid (Ext.trans g4.out g5)
         have c5 : x5.cell? ⟨gb + 1, 0, none⟩ = some (.bool false) := by rw [cellG (box_ext HI.out.2.1 g5.out)]; rfl
         have f5 := freeG (box_ext HI.out.2.1 g5.out) 0
         have hgl5 := heap_lt (box_ext HI.out.2.1 g5.out)
         go_simp)
      | go_skip | go_guarded | go_step)
    have h5 := heap_set (box_ext HI.out.2.1 g5.out) 0 (Value.bool true)
    have HE5 : Ext w (x5.setCell ⟨gb + 1, 0, none⟩ (.bool true)) := (Ext.trans HI.out.2.2 g5.out).setCell (show w.heap.size ≤ gb + 1 by omega) _
    have hK5 : (x5.setCell ⟨gb + 1, 0, none⟩ (.bool true)).heap[D]? = some (.deferred (some [])) := (Below.heap_setCell _ _ _ D (fun e => by have := HK.out; rw [e, HI.out.2.1] at this; cases this)).trans (box_ext HK.out g5.out)
    have hg := grownBy_putObj' (x5.setCell ⟨gb + 1, 0, none⟩ (.bool true)) D (.deferred none)
    have hr : ∀ r, some D = some r → ∃ o : Obj, (x5.setCell ⟨gb + 1, 0, none⟩ (.bool true)).heap[r]? = some o ∧ o.isCells = false := fun r e => by cases e; exact ⟨_, hK5, rfl⟩
    refine postM_ret1 (results_box1 rfl _ _ (gb + 1) (.bool true) _ _ _ rfl (heap_own h5 hg hr) Try.underlying4 rfl) rfl hK5 ⟨rfl, ?_⟩
    exact ext_own HE5 hg hgle6 (fun r e => by cases e; exact hD)
end Go.Proofs.Ytbplddiopajocaa
