/- WalkNil: its walk. -/
import Derived.Test.YtbmakajadelckaaM31
import Derived.Test.YtbmakajadelckaaM33
import Derived.Deep.RegionHeld3
import Derived.Deep.DeepCutAuto
set_option linter.unusedVariables false
set_option linter.unusedSimpArgs false
namespace Go.Proofs.Ytbmakajadelckaa
open Go Go.RowKit Go.QS Go.QS.Nk
set_option linter.unusedVariables false
attribute [local go_sem] Oper.semAt_some

set_option maxRecDepth 100000 in
set_option maxHeartbeats 2000000 in
theorem walkNil_c (w : World) (h : Hs) (hk : h.Ok) (key : List UInt8) :
    Calls Try.prog 5 #[hsV h, str key] w fun e w' => e = .returned (.bool true) ∧ Ext w w' := by
  obtain ⟨q, hq⟩ : ∃ q, q = cutP (key, []) := ⟨_, rfl⟩
  have hq40 : q.1.length ≤ 40 := by rw [hq]; exact (cutP_short (key, [])).1
  have HFW : Hid (∀ W, Calls Try.prog 21 #[.agg #[str key, str []]] W fun e w' => e = .returned (.agg #[str q.1, str q.2]) ∧ Ext W w') := Lib.hid (fun W => by rw [hq]; exact few08_c W (key, []))
  have hfw : ∀ w' : World, (Instr.field 40 (.agg #[str q.1, str q.2]) 0).run Try.prog w' = .ok (str q.1) w' := fun w' => by unfold Instr.field; simp [go_sem, asAgg]
  clear hq
  refine calls_of_wp_marks Try.func5 rfl ?_
  simp only [Try.ntmps5, List.size_toArray, List.length_cons, List.length_nil, Nat.reduceAdd, Nat.reduceSub, Array.replicate_succ, Array.replicate_zero, List.push_toArray, List.append_toArray, List.nil_append, List.cons_append]
  repeat' (go_not_at_region 1; (first | go_skip | go_guarded | go_step))
  obtain ⟨wa, hwa⟩ : ∃ wa, wa = (w.alloc (.cells #[.int .u64 h.k0, .int .u64 h.k1, .int .u64 h.mask] HT)).alloc (.cells #[.bool false] 4) := ⟨_, rfl⟩
  obtain ⟨gb, hgb⟩ : ∃ gb, gb = w.heap.size := ⟨_, rfl⟩
  have e1 : Ext w (w.alloc (.cells #[.int .u64 h.k0, .int .u64 h.k1, .int .u64 h.mask] HT)) := (Ext.refl _).alloc (Nat.le_refl _) _
  have hEa : Ext w wa := by rw [hwa]; exact e1.alloc e1.size _
  have hba := box_extG (heap_newG w (.cells #[.int .u64 h.k0, .int .u64 h.k1, .int .u64 h.mask] HT)) ((Ext.refl _).alloc (Nat.le_refl _) (.cells #[.bool false] 4))
  have hbb := heap_newG (w.alloc (.cells #[.int .u64 h.k0, .int .u64 h.k1, .int .u64 h.mask] HT)) (.cells #[.bool false] 4)
  rw [World.size_alloc] at hbb
  rw [← hwa, ← hgb] at hba hbb
  have hwa' := hwa.symm
  rw [hwa', ← hgb]
  have hgle : w.heap.size ≤ gb := Nat.le_of_eq hgb.symm
  have HA : Hid (Ext w wa ∧ HsAt wa gb h ∧ wa.heap[gb + 1]? = some (.cells #[.bool false] 4 (0, 0))) := Lib.hid ⟨hEa, hba, hbb⟩
  clear hwa hgb hEa hba hwa' hbb e1
  repeat' (first | go_at_call 10 | go_skip | go_guarded | go_step)
  refine (awake08_c wa).mono ?_
  rintro e w1 ⟨rfl, f1⟩
  replace HA : Hid (Ext w w1 ∧ HsAt w1 gb h ∧ w1.heap[gb + 1]? = some (.cells #[.bool false] 4 (0, 0))) := Lib.hid ⟨HA.out.1.trans f1, HA.out.2.1.ext f1, box_extG HA.out.2.2 f1⟩
  clear f1
  go_simp
  repeat' (first | go_at_call 15 | go_skip | go_guarded | go_step)
  refine (wnext_nil w1).mono ?_
  rintro e w2 ⟨rfl, f2⟩
  go_simp
  repeat' (go_not_at_region 5; (first | go_skip | go_guarded | go_step))
  obtain ⟨w3, hw3⟩ : ∃ x, x = w2.alloc (.cells #[str [], str []] 40) := ⟨_, rfl⟩
  have f3 : Ext w1 w3 := by rw [hw3]; exact f2.alloc f2.size _
  replace HA : Hid (Ext w w3 ∧ HsAt w3 gb h ∧ w3.heap[gb + 1]? = some (.cells #[.bool false] 4 (0, 0))) := Lib.hid ⟨HA.out.1.trans f3, HA.out.2.1.ext f3, box_extG HA.out.2.2 f3⟩
  obtain ⟨s0, s1, s2⟩ := HA.out.2.1.cells
  try rw [← hw3]
  clear hw3 f2 f3
  go_region_held3 (fun w' => w'.cell? ⟨gb, 0, none⟩ = some (.int .u64 h.k0) ∧ w'.cell? ⟨gb, 1, none⟩ = some (.int .u64 h.k1) ∧ w'.cell? ⟨gb, 2, none⟩ = some (.int .u64 h.mask))
    (first | exact (HA.out.2.1.ext k5.out).cells | exact (HA.out.2.1.ext k4.out).cells | exact (HA.out.2.1.ext (ext_drew (Ext.refl _))).cells)
    (first
      | (go_at_call 21; refine (HFW.out w3.drew).mono ?_; rintro e w4 ⟨rfl, f4⟩; have k4 : Hid (Ext w3 w4) := Lib.hid (Ext.trans (ext_drew (Ext.refl w3)) f4); clear f4)
      | (go_at_call 20; refine (seek_nil w4 h hk q.1 (by omega)).mono ?_; rintro e w5 ⟨rfl, f5⟩; have k5 : Hid (Ext w3 w5) := Lib.hid (Ext.trans k4.out f5); clear f5))
  replace HA : Hid (Ext w w5 ∧ w5.heap[gb + 1]? = some (.cells #[.bool false] 4 (0, 0))) := Lib.hid ⟨HA.out.1.trans k5.out, box_extG HA.out.2.2 k5.out⟩
  clear s0 s1 s2 k4 k5
  repeat' (first | go_at_call 18 | go_skip | go_guarded | go_step)
  refine (walln_c w5).mono ?_
  rintro e w6 ⟨k0, rfl, hk0, f6⟩
  have H6 : Hid (Ext w w6 ∧ w6.heap[gb + 1]? = some (.cells #[.bool false] 4 (0, 0))) := Lib.hid ⟨HA.out.1.trans f6, box_extG HA.out.2 f6⟩
  have hgle6 := H6.out.1.size
  have HK0 := Lib.hid hk0
  clear f6 hk0 HA
  go_simp
  repeat' (first | go_skip | go_guarded | go_step)
  refine (wpIn_wide (n := 5)).1 ?_
  refine wpIn_rangeFunc_R (F := Fence.wide) (n := 5) rfl (by decide) (gf := 52) (lb := #[ptr k0]) rfl trivial all_enters
    (alln_seq 4 w6 (fun _ => False) k0 (KpT w6.heap.size fun _ => False))
    (fun k o h hk h1 h2 => stT_other h h1 h2) kpT_t (fun W l o o' hl h1 h2 h3 => kpT_b (Nat.le_refl _) W l o o' hl h1 h2 h3) (fun r => Ext.cell' (((Ext.refl w6).alloc (Nat.le_refl _) _).alloc (by simp) _) HK0.out) (fun _ => rfl)
    (fun pre W => W.heap[gb + 1]? = some (.cells #[.bool false] 4 (0, 0)) ∧ Ext w W)
    (fun _ _ _ => False)
    (fun s A B row hs hg hr => ⟨heap_own hs.1 hg (fun r e => (hr r e).2), ext_own hs.2 hg hgle6 (fun r e => (hr r e).1)⟩) (fun _ s A B row hs hg hr => hs)
    (fun s A B hs ht => ⟨stT_heap ht hs.1 (fun h => h), stT_ext (ht.mono (fun k o h => by rcases h with h | h; exact .inl (by omega); exact .inr h)) hs.2 (Nat.le_refl _)⟩)
    (fun _ _ _ _ h _ => h) ⟨H6.out.2, H6.out.1⟩
    (fun x a' W => True) (fun x a' s A B row hs hg hr => trivial) ?assign ?body ?done ?stop
  case assign =>
    rintro l pre x W K hI hK
    repeat' (first | gi_guarded | gi_step)
    exact hK _ _ (KeepsFrom.refl _ _) (KeepQ.refl _) hI trivial
  case body =>
    rintro l pre x a' W hl _ _ _ hlt
    exact absurd hlt (Nat.not_lt_zero _)
  case stop =>
    rintro D c pre W _ _ h
    exact h.elim
  case done =>
    rintro D xs W hD rfl ⟨h2, h3⟩ hK
    have c4 : W.cell? ⟨gb + 1, 0, none⟩ = some (.bool false) := by rw [cellG h2]; rfl
    have hgl := heap_lt h2
    have HI := Lib.hid (And.intro h2 h3)
    have HK := Lib.hid hK
    clear h2 h3 hK
    repeat' (first
      | (go_at_call 22; refine (wcopy_nil W).mono ?_; rintro e x1 ⟨rfl, g1⟩; replace g1 := Lib.hid g1; go_simp)
      | (go_at_call 17; refine (wdepth_nil x1).mono ?_; rintro e x2 ⟨rfl, g2⟩; replace g2 := Lib.hid (Ext.trans g1.out g2); go_simp)
      | (go_at_call 19; refine (wsorted_nil x2).mono ?_; rintro e x3 ⟨A3, C3, rfl, g3⟩; replace g3 := Lib.hid (Ext.trans g2.out g3); go_simp)
      | (go_at_call 14; refine (wnew_c x3 nil0 (.mk false [] []) (.inl ⟨rfl, rfl⟩)).mono ?_; rintro e x4 ⟨c4', V4, m4, rfl, hC4, g4⟩; replace hC4 := Lib.hid hC4; go_simp)
      | (go_at_call 16; refine (goes_c x3 x4 c4' V4 [m4] [([], [])] 0 [] (.slice none 0 0) hC4.out (by decide) rfl (Sl.nil _ _) (by simp)).mono ?_
         rintro e x5 ⟨rfl, g5, _⟩
         replace g5 := Lib.hid (Ext.trans g3.out g5)
         have c5 : x5.cell? ⟨gb + 1, 0, none⟩ = some (.bool false) := by rw [cellG (box_extG HI.out.1 g5.out)]; rfl
         have f5 := freeG (box_extG HI.out.1 g5.out) 0
         have hgl5 := heap_lt (box_extG HI.out.1 g5.out)
         go_simp)
      | go_skip | go_guarded | go_step)
    have h5 := heap_set (box_extG HI.out.1 g5.out) 0 (Value.bool true)
    have HE5 : Ext w (x5.setCell ⟨gb + 1, 0, none⟩ (.bool true)) := (Ext.trans HI.out.2 g5.out).setCell (show w.heap.size ≤ gb + 1 by omega) _
    have hK5 : (x5.setCell ⟨gb + 1, 0, none⟩ (.bool true)).heap[D]? = some (.deferred (some [])) := (Below.heap_setCell _ _ _ D (fun e => by have := HK.out; rw [e, HI.out.1] at this; cases this)).trans (box_extG HK.out g5.out)
    have hg := grownBy_putObj' (x5.setCell ⟨gb + 1, 0, none⟩ (.bool true)) D (.deferred none)
    have hr : ∀ r, some D = some r → ∃ o : Obj, (x5.setCell ⟨gb + 1, 0, none⟩ (.bool true)).heap[r]? = some o ∧ o.isCells = false := fun r e => by cases e; exact ⟨_, hK5, rfl⟩
    refine postM_ret1 (results_box1 rfl _ _ (gb + 1) (.bool true) _ _ _ rfl (heap_own h5 hg hr) Try.underlying4 rfl) rfl hK5 ⟨rfl, ?_⟩
    exact ext_own HE5 hg hgle6 (fun r e => by cases e; exact hD)
end Go.Proofs.Ytbmakajadelckaa
