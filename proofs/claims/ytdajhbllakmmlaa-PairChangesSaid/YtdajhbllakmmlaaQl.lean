/- Contract: PairChanges. -/
import Derived.Test.YtdajhbllakmmlaaQj
namespace Go.Proofs.Ytdajhbllakmmlaa
open Go.RowKit Go.QS
set_option linter.unusedVariables false

abbrev xy : Pr := ([120], [121])
theorem mem_sortedP {l : List Pr} {x : Pr} (h : x ∈ sortedP l) : x ∈ l := by
  rw [sortedP_eq, mem_rsort] at h
  exact (lastK_mem h).1
theorem rsame_t (w : World) (va vb : Value) (la lb : List Pr) (ha : PS w va la) (hb : PS w vb lb) (h9 : la.length ≤ 1000000000) (h9b : lb.length ≤ 1000000000) (h : la = lb) :
    Calls Try.prog 11 #[va, vb] w fun e w' => e = .returned (.bool true) ∧ Ext w w' :=
  (rsame_c w va vb la lb ha hb h9 h9b).mono fun e w' ⟨he, hx⟩ => ⟨by rw [he, decide_eq_true h], hx⟩
theorem rises_t (w : World) (v : Value) (l : List Pr) (h : PS w v l) (h9 : l.length ≤ 1000000000) (hr : Rise l) :
    Calls Try.prog 15 #[v] w fun e w' => e = .returned (.bool true) ∧ Ext w w' :=
  (rises_c w v l h h9).mono fun e w' ⟨he, hx⟩ => ⟨by rw [he, (riseB_iff l).2 hr], hx⟩
theorem eqlP (w : World) : (binOp .eql 40 (.agg #[.string ⟨#[120]⟩, .string ⟨#[121]⟩]) (.agg #[.string ⟨#[120]⟩, .string ⟨#[121]⟩])).run Try.prog w = .ok (.bool true) w := by
  simp only [go_sem]
  simp [go_sem]
theorem keep2 {w w' : World} {a1 a2 : Addr} {u1 u2 : Value} (hE : Ext w w') (h : w.cell? a1 = some u1 ∧ w.cell? a2 = some u2) : w'.cell? a1 = some u1 ∧ w'.cell? a2 = some u2 :=
  ⟨(hE.cell (World.block_lt_of_cell? w _ h.1)).trans h.1, (hE.cell (World.block_lt_of_cell? w _ h.2)).trans h.2⟩
theorem keepA4 {w w' : World} {a1 a2 a3 a4 : Addr} {u1 u2 u3 u4 : Value} (hE : Ext w w') (h : w.cell? a1 = some u1 ∧ w.cell? a2 = some u2 ∧ w.cell? a3 = some u3 ∧ w.cell? a4 = some u4) : w'.cell? a1 = some u1 ∧ w'.cell? a2 = some u2 ∧ w'.cell? a3 = some u3 ∧ w'.cell? a4 = some u4 :=
  ⟨(hE.cell (World.block_lt_of_cell? w _ h.1)).trans h.1, (hE.cell (World.block_lt_of_cell? w _ h.2.1)).trans h.2.1, (hE.cell (World.block_lt_of_cell? w _ h.2.2.1)).trans h.2.2.1, (hE.cell (World.block_lt_of_cell? w _ h.2.2.2)).trans h.2.2.2⟩
theorem ps_room {w : World} {A : Option Addr} {s : List Pr} {x : Pr} {m c : Nat} (hs : Seg w A (flat (s ++ [x]))) (hc : c ≤ maxLen) (hn : m ≤ c) (hm : m = s.length + 1) : PS w (.slice A s.length c) s := by
  refine ⟨A, c, rfl, flat_length s, by omega, hc, ?_⟩
  have := hs.take (flat s).length
  rw [flat_append, List.take_left] at this
  exact this

set_option maxRecDepth 100000 in
set_option maxHeartbeats 2000000 in
theorem pairChanges_c (w : World) (v : Value) (la : List Pr) (p : Pr) (h0 : PS w v la) (hk9 : ∀ x ∈ la, x.1.length ≤ 9223372036854775807) (hp9 : p.1.length ≤ 9223372036854775807) : Calls Try.prog 7 #[v, .agg #[str p.1, str p.2]] w fun e w' => e = .returned (.bool true) ∧ Ext w w' := by
  go_enter Try.func7, Try.ntmps7
  repeat' go_step
  obtain ⟨wa, hwa⟩ : ∃ wa, wa = w.alloc (.cells #[str p.1, str p.2] 40) := ⟨_, rfl⟩
  have hEa : Ext w wa := by rw [hwa]; exact (Ext.refl w).alloc (Nat.le_refl _) _
  obtain ⟨g, hg⟩ : ∃ g, g = w.heap.size := ⟨_, rfl⟩
  have hB : Hid (wa.cell? ⟨g, 0, none⟩ = some (str p.1) ∧ wa.cell? ⟨g, 1, none⟩ = some (str p.2)) := Lib.hid (by
    rw [hwa, hg]
    exact ⟨by rw [World.cell?_alloc_at _ _ _ _ rfl]; rfl, by rw [World.cell?_alloc_at _ _ _ _ rfl]; rfl⟩)
  rw [← hwa, ← hg]
  replace h0 := h0.below hEa
  clear hwa hg
  refine (awake_c _).mono ?_
  rintro e w1 ⟨rfl, b1⟩
  replace h0 := h0.below b1
  have E := Ext.trans hEa b1
  replace hB := Lib.hid (keep2 b1 hB.out)
  clear b1 hEa
  go_simp
  repeat' go_step
  refine (few_c _ _ la h0).mono ?_
  rintro e w2 ⟨v2, rfl, o2, b2⟩
  replace E := Ext.trans E b2
  replace hB := Lib.hid (keep2 b2 hB.out)
  have h2 := own_to_ps o2
  have l2 : (la.take 40).length ≤ 40 := by rw [List.length_take]; omega
  clear o2 b2 h0
  go_simp
  repeat' go_step
  refine (sorted_c _ _ (la.take 40) h2 (by omega)).mono ?_
  rintro e w3 ⟨vs, rfl, o3, b3⟩
  replace E := Ext.trans E b3
  replace hB := Lib.hid (keep2 b3 hB.out)
  obtain ⟨s, hs⟩ : ∃ s, s = sortedP (la.take 40) := ⟨_, rfl⟩
  rw [← hs] at o3
  have h3 := own_to_ps o3
  have s9 : s.length ≤ 40 := by rw [hs]; exact Nat.le_trans (sortedP_length _) l2
  have hr := Lib.hid (show Rise s by rw [hs]; exact sortedP_rise _)
  have sk9 : ∀ x ∈ s, x.1.length ≤ 9223372036854775807 := fun x hx => hk9 x (List.mem_of_mem_take (mem_sortedP (by rw [← hs]; exact hx)))
  replace sk9 := Lib.hid sk9
  clear o3 b3 h2 l2 hs hk9
  go_simp
  repeat' go_step
  refine (few40_c _ _ s h3 s9).mono ?_
  rintro e w4 ⟨v4, rfl, o4, b4⟩
  have E4 := Lib.hid E
  clear E
  go_simp
  repeat' (first | (at_builtin; (refine wpList_appE (W := w3) rfl (.tmp 20) (.tmp 22) _ rfl 40 2 32 Try.underlying22 infoP (by decide) _ s.length _ rfl (o4.alloc _) (b4.alloc b4.size _) _ 1 1 [str xy.1, str xy.2] rfl rfl (Seg.new _ [_, _] _ rfl) (by intro u hu; simp at hu; rcases hu with rfl | rfl <;> rfl) (by unfold maxLen; omega) (by omega) ?_); intro v5 w5 o5 b5) | go_step)
  have hp5 : PS w5 v5 (s ++ [xy]) := PS.of_own (n := s.length + 1) (by rw [flat_append]; exact o5)
  replace h3 := h3.below b5
  replace hB := Lib.hid (keep2 b5 hB.out)
  have E5 := Lib.hid (Ext.trans E4.out b5)
  clear o4 o5 b4 b5 E4
  refine (own_c _ vs s h3 (by omega)).mono ?_
  rintro e w6 ⟨v7, rfl, o7, b7⟩
  have h7 := Lib.hid (own_to_ps o7)
  replace h3 := Lib.hid (h3.below b7)
  replace hp5 := hp5.below b7
  replace hB := Lib.hid (keep2 b7 hB.out)
  obtain ⟨A3, c3, rfl, -, -, -, -⟩ := h3.out
  have E6 := Lib.hid (Ext.trans E5.out b7)
  clear o7 b7 E5
  obtain ⟨m, hm⟩ : ∃ m, m = (s ++ [xy]).length := ⟨_, rfl⟩
  obtain ⟨A, c, rfl, hl5, hn5, hc5, hs5⟩ := hp5
  rw [← hm] at hn5 ⊢
  obtain ⟨b, o, rfl, e1, e2⟩ := seg_pair (i := s.length) (p := xy) hs5 (by simp)
  have hm1 : m = s.length + 1 := by rw [hm]; simp
  have h5 := Lib.hid (ps_room hs5 hc5 hn5 hm1)
  have m1 : s.length + 1 ≤ m := by omega
  have m2 : m ≤ s.length + 1 := by omega
  have m3 : (s.length : Int) < (m : Int) := by omega
  have m4 : (s.length : Int) ≤ (c : Int) := by omega
  have HE : Hid (w6.cell? ⟨b, o + s.length * 2, none⟩ = some (.string ⟨#[120]⟩) ∧ w6.cell? ⟨b, o + s.length * 2 + 1, none⟩ = some (.string ⟨#[121]⟩)) := Lib.hid ⟨e1, e2⟩
  clear hm hm1 hl5 hs5 e1 e2
  go_simp
  repeat' (go_not_at_region 6; go_step)
  obtain ⟨c1, c2⟩ := hB.out
  go_region_held3 (fun w' => w'.cell? ⟨g, 0, none⟩ = some (str p.1) ∧ w'.cell? ⟨g, 1, none⟩ = some (str p.2))
    (first | exact keep2 f1 (by assumption) | exact keep2 f1 (by first | exact ⟨c1, c2⟩ | exact keep2 (below_drewN (Ext.refl _) _) ⟨c1, c2⟩) | exact keep2 (below_drewN (Ext.refl _) _) ⟨c1, c2⟩)
    (first
      | (go_at_call_of 20 (Value.slice (some { block := b, off := o }) s.length c); refine (find_c _ _ s p.1 (h5.out.below (below_drewN (Ext.refl _) 1)) hr.out (by omega)).mono ?_; rintro e x1 ⟨rfl, f1⟩))
  have k1 := Lib.hid (Ext.trans (below_drewN (Ext.refl w6) 1) f1)
  replace hB := Lib.hid (keep2 k1.out hB.out)
  clear f1 c1 c2
  obtain ⟨c1, c2⟩ := hB.out
  obtain ⟨i, hi⟩ : ∃ i, i = fndI s p.1 := ⟨_, rfl⟩
  obtain ⟨bb, hbb⟩ : ∃ bb, bb = hasK s p.1 := ⟨_, rfl⟩
  rw [← hi, ← hbb]
  repeat' go_step
  refine (rfind_c _ v7 s p.1 (h7.out.below k1.out) hr.out (by omega) sk9.out).mono ?_
  rintro e x2 ⟨rfl, f2⟩
  have k2 := Lib.hid (Ext.trans k1.out f2)
  replace hB := Lib.hid (keep2 f2 hB.out)
  clear f2 c1 c2
  obtain ⟨c1, c2⟩ := hB.out
  rw [← hi, ← hbb]
  clear hi hbb k1
  go_simp
  repeat' (go_not_at_region 8; go_step)
  have L1 := rput_length s p
  have L2 := rdrop_length s p.1
  go_region_held3 (fun w' => w'.cell? ⟨g, 0, none⟩ = some (str p.1) ∧ w'.cell? ⟨g, 1, none⟩ = some (str p.2))
    (first | exact keep2 f3 (by assumption) | exact keep2 f3 (by first | exact ⟨c1, c2⟩ | exact keep2 (below_drewN (Ext.refl _) _) ⟨c1, c2⟩) | exact keep2 f4 (by assumption) | exact keep2 (below_drewN (Ext.refl _) _) ⟨c1, c2⟩)
    (first
      | (go_at_call_of 19 (Value.slice (some { block := b, off := o }) s.length c); refine (put_c _ _ s p ((h5.out.below k2.out).below (below_drewN (Ext.refl _) 1)) hr.out (by omega)).mono ?_; rintro e x3 ⟨y3, rfl, z3, f3⟩; have k3 := Lib.hid (Ext.trans k2.out (Ext.trans (below_drewN (Ext.refl _) 1) f3)); replace z3 := Lib.hid (own_to_ps z3))
      | (go_at_call_of 21 (Value.slice (some { block := b, off := o }) s.length c); refine (drop_c _ _ s p.1 (h5.out.below k3.out) hr.out (by omega)).mono ?_; rintro e x4 ⟨y4, rfl, z4, f4⟩; have k4 := Lib.hid (Ext.trans k3.out f4); replace z4 := Lib.hid (own_to_ps z4); replace z3 := Lib.hid (z3.out.below f4)))
  replace hB := Lib.hid (keep2 (Ext.trans (below_drewN (Ext.refl _) _) (Ext.trans f3 f4)) hB.out)
  replace HE := Lib.hid (keep2 k4.out HE.out)
  have D4 := Lib.hid f4
  clear f3 f4 c1 c2 k2 k3
  obtain ⟨c1, c2⟩ := hB.out
  obtain ⟨e1, e2⟩ := HE.out
  repeat' (go_not_at_region 9; go_step)
  have hne := eqlP
  have t1 : ((i : Int) == (i : Int)) = true := by simp
  have t2 : (bb == bb) = true := by simp
  go_region_held3 (fun w' => w'.cell? ⟨g, 0, none⟩ = some (str p.1) ∧ w'.cell? ⟨g, 1, none⟩ = some (str p.2) ∧ w'.cell? ⟨b, o + s.length * 2, none⟩ = some (.string ⟨#[120]⟩) ∧ w'.cell? ⟨b, o + s.length * 2 + 1, none⟩ = some (.string ⟨#[121]⟩))
    (first | exact keepA4 f5 (by assumption) | exact keepA4 f6 (by assumption) | exact keepA4 f7 (by assumption) | exact keepA4 f8 (by assumption) | exact keepA4 f9 (by assumption) | exact keepA4 f10 (by assumption) | exact keepA4 f11 (by assumption) | exact keepA4 f12 (by assumption) | exact keepA4 f13 (by assumption) | exact keepA4 f5 (by first | exact ⟨c1, c2, e1, e2⟩ | exact keepA4 (below_drewN (Ext.refl _) _) ⟨c1, c2, e1, e2⟩) | exact keepA4 (below_drewN (Ext.refl _) _) ⟨c1, c2, e1, e2⟩)
    (first
      | (go_at_call_of 12 y3; refine (own_c _ y3 (rput s p) (z3.out.below (below_drewN (Ext.refl x4) 1)) (by omega)).mono ?_; rintro e x5 ⟨u5, rfl, o5, f5⟩; have k5 := Lib.hid (Ext.trans (Ext.trans k4.out (below_drewN (Ext.refl _) 1)) f5); replace o5 := Lib.hid (own_to_ps o5); have r5 := Lib.hid (Ext.trans (below_drewN (Ext.refl x4) 1) f5))
      | (go_at_call_of 23 v7; refine (rput_c _ v7 s p (h7.out.below k5.out) (by omega) hp9).mono ?_; rintro e x6 ⟨u6, rfl, o6, f6⟩; have k6 := Lib.hid (Ext.trans k5.out f6); replace o6 := Lib.hid (own_to_ps o6); have r6 := Lib.hid (Ext.trans r5.out f6))
      | (go_at_call_of 11 u5; refine (rsame_t _ u5 u6 _ _ (o5.out.below f6) o6.out (by omega) (by omega) rfl).mono ?_; rintro e x7 ⟨rfl, f7⟩; have k7 := Lib.hid (Ext.trans k6.out f7); have r7 := Lib.hid (Ext.trans r6.out f7))
      | (go_at_call_of 12 y4; refine (own_c _ y4 (rdrop s p.1) (z4.out.below r7.out) (by omega)).mono ?_; rintro e x8 ⟨u8, rfl, o8, f8⟩; have k8 := Lib.hid (Ext.trans k7.out f8); replace o8 := Lib.hid (own_to_ps o8); have r8 := Lib.hid (Ext.trans r7.out f8))
      | (go_at_call_of 24 v7; refine (rdrop_c _ v7 s p.1 (h7.out.below k8.out) (by omega)).mono ?_; rintro e x9 ⟨u9, rfl, o9, f9⟩; have k9 := Lib.hid (Ext.trans k8.out f9); replace o9 := Lib.hid (own_to_ps o9); have r9 := Lib.hid (Ext.trans r8.out f9))
      | (go_at_call_of 11 u8; refine (rsame_t _ u8 u9 _ _ (o8.out.below f9) o9.out (by omega) (by omega) rfl).mono ?_; rintro e x10 ⟨rfl, f10⟩; have k10 := Lib.hid (Ext.trans k9.out f10); have r10 := Lib.hid (Ext.trans r9.out f10))
      | (go_at_call_of 15 y3; refine (rises_t _ y3 (rput s p) (z3.out.below r10.out) (by omega) (rput_rise hr.out p)).mono ?_; rintro e x11 ⟨rfl, f11⟩; have k11 := Lib.hid (Ext.trans k10.out f11); have r11 := Lib.hid (Ext.trans r10.out f11))
      | (go_at_call_of 15 y4; refine (rises_t _ y4 (rdrop s p.1) (z4.out.below r11.out) (by omega) (rdrop_rise hr.out p.1)).mono ?_; rintro e x12 ⟨rfl, f12⟩; have k12 := Lib.hid (Ext.trans k11.out f12); have r12 := Lib.hid (Ext.trans r11.out f12))
      | (go_at_call_of 10 (Value.slice (some { block := b, off := o }) s.length c); refine (same_t _ _ _ s s (h5.out.below k12.out) (h3.out.below k12.out) (by omega) (by omega) rfl).mono ?_; rintro e x13 ⟨rfl, f13⟩; have k13 := Lib.hid (Ext.trans k12.out f13); have r13 := Lib.hid (Ext.trans r12.out f13)))
  repeat' go_step
  go_ret
  exact ⟨rfl, Ext.trans E6.out k13.out⟩
end Go.Proofs.Ytdajhbllakmmlaa
