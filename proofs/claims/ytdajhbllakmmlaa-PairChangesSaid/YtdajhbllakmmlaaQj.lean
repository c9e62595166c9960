/- Contract: PairTurns. -/
import Derived.Test.YtdajhbllakmmlaaQf
import Derived.Deep.RegionHeld3
import Derived.Deep.DeepCutAuto
namespace Go.Proofs.Ytdajhbllakmmlaa
open Go.RowKit Go.QS
set_option linter.unusedVariables false

/-- Two boxes of pairs. -/
def Box2 (w : World) (g4 g5 : Nat) (p q : Pr) : Prop := w.cell? ⟨g4, 0, none⟩ = some (str p.1) ∧ w.cell? ⟨g4, 1, none⟩ = some (str p.2) ∧ w.cell? ⟨g5, 0, none⟩ = some (str q.1) ∧ w.cell? ⟨g5, 1, none⟩ = some (str q.2)
theorem keep4 {w w' : World} {g4 g5 : Nat} {u1 u2 u3 u4 : Value} (hE : Ext w w') (h : w.cell? ⟨g4, 0, none⟩ = some u1 ∧ w.cell? ⟨g4, 1, none⟩ = some u2 ∧ w.cell? ⟨g5, 0, none⟩ = some u3 ∧ w.cell? ⟨g5, 1, none⟩ = some u4) :
    w'.cell? ⟨g4, 0, none⟩ = some u1 ∧ w'.cell? ⟨g4, 1, none⟩ = some u2 ∧ w'.cell? ⟨g5, 0, none⟩ = some u3 ∧ w'.cell? ⟨g5, 1, none⟩ = some u4 := by
  obtain ⟨h1, h2, h3, h4⟩ := h
  exact ⟨(hE.cell (p := ⟨g4, 0, none⟩) (World.block_lt_of_cell? w _ h1)).trans h1, (hE.cell (p := ⟨g4, 1, none⟩) (World.block_lt_of_cell? w _ h2)).trans h2, (hE.cell (p := ⟨g5, 0, none⟩) (World.block_lt_of_cell? w _ h3)).trans h3, (hE.cell (p := ⟨g5, 1, none⟩) (World.block_lt_of_cell? w _ h4)).trans h4⟩

theorem keep3 {w w' : World} {a1 a2 a3 : Addr} {u1 u2 u3 : Value} (hE : Ext w w') (h : w.cell? a1 = some u1 ∧ w.cell? a2 = some u2 ∧ w.cell? a3 = some u3) : w'.cell? a1 = some u1 ∧ w'.cell? a2 = some u2 ∧ w'.cell? a3 = some u3 := by
  obtain ⟨h1, h2, h3⟩ := h
  exact ⟨(hE.cell (World.block_lt_of_cell? w _ h1)).trans h1, (hE.cell (World.block_lt_of_cell? w _ h2)).trans h2, (hE.cell (World.block_lt_of_cell? w _ h3)).trans h3⟩
theorem same_t (w : World) (va vb : Value) (la lb : List Pr) (ha : PS w va la) (hb : PS w vb lb) (h9 : la.length ≤ 1000000000) (h9b : lb.length ≤ 1000000000) (h : la = lb) :
    Calls Try.prog 10 #[va, vb] w fun e w' => e = .returned (.bool true) ∧ Ext w w' :=
  (same_c w va vb la lb ha hb h9 h9b).mono fun e w' ⟨he, hx⟩ => ⟨by rw [he, decide_eq_true h], hx⟩
theorem hasK_get {s : List Pr} {k : List UInt8} (hr : Rise s) (hk : hasK s k = true) : ∃ x, s[fndI s k]? = some x ∧ x.1 = k ∧ fndI s k < s.length := by
  have hx0 := hasK_at (k := k) hr
  rw [hk] at hx0
  cases hx : s[fndI s k]? with
  | none => rw [hx] at hx0; cases hx0
  | some x =>
    rw [hx] at hx0
    refine ⟨x, rfl, by simpa using hx0.symm, ?_⟩
    rcases Nat.lt_or_ge (fndI s k) s.length with h | h
    · exact h
    · rw [List.getElem?_eq_none h] at hx; cases hx
theorem own_dropx {base : Nat} {e : TypeId} {w : World} {v : Value} {l : List Pr} (h : w.ownsRow base e 2 v l.length (flat l)) : PS w v l := PS.of_own h

set_option maxRecDepth 100000 in
set_option maxHeartbeats 2000000 in
theorem pairTurns_c (w : World) (v : Value) (la : List Pr) (p q : Pr) (h0 : PS w v la) : Calls Try.prog 6 #[v, .agg #[str p.1, str p.2], .agg #[str q.1, str q.2]] w fun e w' => e = .returned (.bool true) ∧ Ext w w' := by
  go_enter Try.func6, Try.ntmps6
  repeat' go_step
  obtain ⟨wa, hwa⟩ : ∃ wa, wa = (w.alloc (.cells #[str p.1, str p.2] 40)).alloc (.cells #[str q.1, str q.2] 40) := ⟨_, rfl⟩
  have hEa : Ext w wa := by rw [hwa]; exact ((Ext.refl w).alloc (Nat.le_refl _) _).alloc (by simp) _
  have hB : Box2 wa w.heap.size (w.heap.size + 1) p q := by
    rw [hwa]
    refine ⟨?_, ?_, ?_, ?_⟩
    · rw [World.cell?_alloc_past _ _ _ (by simp), World.cell?_alloc_at _ _ _ _ rfl]; rfl
    · rw [World.cell?_alloc_past _ _ _ (by simp), World.cell?_alloc_at _ _ _ _ rfl]; rfl
    · rw [World.cell?_alloc_at _ _ _ _ (by simp)]; rfl
    · rw [World.cell?_alloc_at _ _ _ _ (by simp)]; rfl
  obtain ⟨g4, hg4⟩ : ∃ g, g = w.heap.size := ⟨_, rfl⟩
  obtain ⟨g5, hg5⟩ : ∃ g, g = w.heap.size + 1 := ⟨_, rfl⟩
  rw [← hwa, ← hg5, ← hg4]
  rw [← hg5, ← hg4] at hB
  replace h0 := h0.below hEa
  replace hB := Lib.hid hB
  clear hwa hg4 hg5
  refine (awake_c _).mono ?_
  rintro e w1 ⟨rfl, b1⟩
  replace h0 := h0.below b1
  have E := Ext.trans hEa b1
  replace hB := Lib.hid (show Box2 w1 g4 g5 p q from keep4 b1 hB.out)
  clear b1 hEa
  go_simp
  repeat' go_step
  refine (few_c _ _ la h0).mono ?_
  rintro e w2 ⟨v2, rfl, o2, b2⟩
  replace E := Ext.trans E b2
  replace hB := Lib.hid (show Box2 w2 g4 g5 p q from keep4 b2 hB.out)
  have h2 := own_to_ps o2
  have l2 : (la.take 40).length ≤ 40 := by rw [List.length_take]; omega
  clear o2 b2 h0
  go_simp
  repeat' go_step
  refine (sorted_c _ _ (la.take 40) h2 (by omega)).mono ?_
  rintro e w3 ⟨vs, rfl, o3, b3⟩
  replace E := Ext.trans E b3
  replace hB := Lib.hid (show Box2 w3 g4 g5 p q from keep4 b3 hB.out)
  obtain ⟨s, hs⟩ : ∃ s, s = sortedP (la.take 40) := ⟨_, rfl⟩
  rw [← hs] at o3
  have h3 := own_to_ps o3
  have s9 : s.length ≤ 40 := by rw [hs]; exact Nat.le_trans (sortedP_length _) l2
  have P1 := rput_length s p
  have P2 := rput_length s q
  have P3 := rput_length (rput s p) q
  have P4 := rput_length (rput s q) p
  have hr := Lib.hid (show Rise s by rw [hs]; exact sortedP_rise _)
  clear o3 b3 h2 l2 hs
  go_simp
  repeat' (go_not_at_region 4; go_step)
  go_cut [33] (fun v wx => Hid (v = .bool false ∧ Ext w3 wx))
  case first => as_aux_lemma =>
    obtain ⟨c1, c2, c3, c4⟩ := hB.out
    by_cases hpq : p.1 = q.1
    · have hne : (p.1 == q.1) = true := by simp [hpq]
      clear hpq
      go_quiet (fail)
      repeat' go_step
      go_meet
      exact Lib.hid ⟨rfl, below_drewN (Ext.refl _) _⟩
    · have hne : (p.1 == q.1) = false := by simp [hpq]
      go_region_held3 (fun w' => w'.cell? ⟨g4, 0, none⟩ = some (str p.1) ∧ w'.cell? ⟨g4, 1, none⟩ = some (str p.2) ∧ w'.cell? ⟨g5, 0, none⟩ = some (str q.1) ∧ w'.cell? ⟨g5, 1, none⟩ = some (str q.2))
        (first | exact keep4 (by assumption) (by assumption) | exact keep4 (below_drewN (Ext.refl _) 1) hB.out)
        (first
          | (go_at_call_of 19 vs; go_at_call_of 19 (Value.agg #[str p.1, str p.2]); refine (put_c _ vs s p (h3.below (below_drewN (Ext.refl _) 1)) hr.out (by omega)).mono ?_; rintro e x1 ⟨y1, rfl, z1, f1⟩; have k1 : Ext w3 x1 := Ext.trans (below_drewN (Ext.refl _) 1) f1; replace z1 := own_to_ps z1)
          | (go_at_call_of 19 y1; refine (put_c _ y1 (rput s p) q z1 (rput_rise hr.out p) (by omega)).mono ?_; rintro e x2 ⟨y2, rfl, z2, f2⟩; have k2 : Ext w3 x2 := Ext.trans k1 f2; replace z2 := own_to_ps z2)
          | (go_at_call_of 19 vs; go_at_call_of 19 (Value.agg #[str q.1, str q.2]); refine (put_c _ vs s q (h3.below k2) hr.out (by omega)).mono ?_; rintro e x3 ⟨y3, rfl, z3, f3⟩; have k3 : Ext w3 x3 := Ext.trans k2 f3; replace z3 := own_to_ps z3; replace z2 := z2.below f3)
          | (go_at_call_of 19 y3; refine (put_c _ y3 (rput s q) p z3 (rput_rise hr.out q) (by omega)).mono ?_; rintro e x4 ⟨y4, rfl, z4, f4⟩; have k4 : Ext w3 x4 := Ext.trans k3 f4; replace z4 := own_to_ps z4; replace z2 := z2.below f4)
          | (go_at_call_of 10 y2; refine (same_t _ y2 y4 _ _ z2 z4 (by omega) (by omega) (rput_comm hr.out hpq)).mono ?_; rintro e x5 ⟨rfl, f5⟩; have k5 : Ext w3 x5 := Ext.trans k4 f5))
      repeat' go_step
      go_meet
      exact Lib.hid ⟨rfl, by assumption⟩
  case rest =>
    obtain ⟨hv, k0⟩ := hcut.out
    subst hv
    replace h3 := h3.below k0
    replace E := Ext.trans E k0
    replace hB := Lib.hid (show Box2 _ g4 g5 p q from keep4 k0 hB.out)
    clear k0 hcut
    have P5 := rput_length s (p.1, q.2)
    have P6 := rput_length (rput s p) (p.1, q.2)
    repeat' (go_not_at_region 6; go_step)
    go_cut [51] (fun v wx => Hid (v = .bool false ∧ Ext wc wx))
    case first => as_aux_lemma =>
      obtain ⟨c1, c2, c3, c4⟩ := hB.out
      go_region_held3 (fun w' => w'.cell? ⟨g4, 0, none⟩ = some (str p.1) ∧ w'.cell? ⟨g4, 1, none⟩ = some (str p.2) ∧ w'.cell? ⟨g5, 0, none⟩ = some (str q.1) ∧ w'.cell? ⟨g5, 1, none⟩ = some (str q.2))
        (first | exact keep4 (by assumption) (by assumption) | exact keep4 (below_drewN (Ext.refl _) 1) hB.out)
        (first
          | (go_at_call_of 19 vs; go_at_call_of 19 (Value.agg #[str p.1, str p.2]); refine (put_c _ vs s p (h3.below (below_drewN (Ext.refl _) 1)) hr.out (by omega)).mono ?_; rintro e x1 ⟨y1, rfl, z1, f1⟩; have k1 : Ext wc x1 := Ext.trans (below_drewN (Ext.refl _) 1) f1; replace z1 := own_to_ps z1)
          | (go_at_call_of 19 y1; refine (put_c _ y1 (rput s p) (p.1, q.2) z1 (rput_rise hr.out p) (by omega)).mono ?_; rintro e x2 ⟨y2, rfl, z2, f2⟩; have k2 : Ext wc x2 := Ext.trans k1 f2; replace z2 := own_to_ps z2)
          | (go_at_call_of 19 vs; go_at_call_of 19 (Value.agg #[str p.1, str q.2]); refine (put_c _ vs s (p.1, q.2) (h3.below k2) hr.out (by omega)).mono ?_; rintro e x3 ⟨y3, rfl, z3, f3⟩; have k3 : Ext wc x3 := Ext.trans k2 f3; replace z3 := own_to_ps z3; replace z2 := z2.below f3)
          | (go_at_call_of 10 y2; refine (same_t _ y2 y3 _ _ z2 z3 (by omega) (by omega) (rput_twice hr.out rfl)).mono ?_; rintro e x5 ⟨rfl, f5⟩; have k5 : Ext wc x5 := Ext.trans k3 f5))
      repeat' go_step
      go_meet
      exact Lib.hid ⟨rfl, by assumption⟩
    case rest =>
      obtain ⟨hv, k0⟩ := hcut.out
      subst hv
      replace h3 := h3.below k0
      replace E := Ext.trans E k0
      replace hB := Lib.hid (show Box2 _ g4 g5 p q from keep4 k0 hB.out)
      clear k0 hcut
      obtain ⟨c1, c2, c3, c4⟩ := hB.out
      repeat' go_step
      refine (find_c _ vs s p.1 h3 hr.out (by omega)).mono ?_
      rintro e w4 ⟨rfl, b4⟩
      replace h3 := h3.below b4
      replace E := Ext.trans E b4
      replace hB := Lib.hid (show Box2 w4 g4 g5 p q from keep4 b4 hB.out)
      clear b4 c1 c2 c3 c4
      obtain ⟨c1, c2, c3, c4⟩ := hB.out
      obtain ⟨i, hi⟩ : ∃ i, i = fndI s p.1 := ⟨_, rfl⟩
      rw [← hi]
      replace hi := Lib.hid hi
      cases hk : hasK s p.1 with
      | true =>
        obtain ⟨x, hx, hxk, hlt⟩ := hasK_get hr.out hk
        rw [← hi.out] at hx hlt
        have hX := Lib.hid (show rput (rdrop s p.1) x = s by rw [← hxk]; exact rput_back hr.out (List.mem_of_getElem? hx))
        have hH3 := Lib.hid h3
        obtain ⟨A, c, rfl, hl, hn, hc, hs⟩ := h3
        obtain ⟨b, o, rfl, e1, e2⟩ := seg_pair hs hx
        have hb1 : (i : Int) < (s.length : Int) := by omega
        replace hl := Lib.hid hl
        clear hx hxk hk
        go_simp
        repeat' (go_not_at_region 10; go_step)
        have D1 := rdrop_length s p.1
        have D2 := rput_length (rdrop s p.1) x
        go_region_held3 (fun w' => w'.cell? ⟨g4, 0, none⟩ = some (str p.1) ∧ w'.cell? ⟨b, o + i * 2, none⟩ = some (str x.1) ∧ w'.cell? ⟨b, o + i * 2 + 1, none⟩ = some (str x.2))
          (first | exact keep3 f1 (by assumption) | exact keep3 f1 (by first | exact ⟨c1, e1, e2⟩ | exact ⟨c1, c2, c1⟩ | exact keep3 (below_drewN (Ext.refl _) _) (by first | exact ⟨c1, e1, e2⟩ | exact ⟨c1, c2, c1⟩)) | exact keep3 f2 (by assumption) | exact keep3 f3 (by assumption) | exact keep3 f4 (by assumption) | exact keep3 f5 (by assumption) | exact keep3 (below_drewN (Ext.refl _) 1) ⟨c1, e1, e2⟩)
          (first
            | (go_at_call_of 21 (Value.slice (some { block := b, off := o }) s.length c); refine (drop_c _ _ s p.1 (hH3.out.below (below_drewN (Ext.refl _) 1)) hr.out (by omega)).mono ?_; rintro e x1 ⟨y1, rfl, z1, f1⟩; have k1 : Hid (Ext w4 x1) := Lib.hid (Ext.trans (below_drewN (Ext.refl _) 1) f1); replace z1 := own_to_ps z1)
            | (go_at_call_of 19 y1; refine (put_c _ y1 (rdrop s p.1) x z1 (rdrop_rise hr.out p.1) (by omega)).mono ?_; rintro e x2 ⟨y2, rfl, z2, f2⟩; have k2 : Hid (Ext w4 x2) := Lib.hid (Ext.trans k1.out f2); replace z2 := own_to_ps z2)
            | (go_at_call_of 10 y2; refine (same_t _ y2 _ _ s z2 (hH3.out.below k2.out) (by omega) (by omega) hX.out).mono ?_; rintro e x5 ⟨rfl, f5⟩; have k5 : Hid (Ext w4 x5) := Lib.hid (Ext.trans k2.out f5)))
        repeat' go_step
        go_ret
        exact ⟨rfl, Ext.trans E k5.out⟩
      | false =>
        have hX := Lib.hid (rdrop_rput hr.out hk)
        have hY := Lib.hid (rdrop_self hk)
        have D1 := rdrop_length s p.1
        have D2 := rdrop_length (rput s p) p.1
        have hH3 := Lib.hid h3
        clear hk
        go_simp
        repeat' (go_not_at_region 11; go_step)
        go_region_held3 (fun w' => w'.cell? ⟨g4, 0, none⟩ = some (str p.1) ∧ w'.cell? ⟨g4, 1, none⟩ = some (str p.2) ∧ w'.cell? ⟨g4, 0, none⟩ = some (str p.1))
          (first | exact keep3 f1 (by assumption) | exact keep3 f1 (by first | exact ⟨c1, e1, e2⟩ | exact ⟨c1, c2, c1⟩ | exact keep3 (below_drewN (Ext.refl _) _) (by first | exact ⟨c1, e1, e2⟩ | exact ⟨c1, c2, c1⟩)) | exact keep3 f2 (by assumption) | exact keep3 f3 (by assumption) | exact keep3 f4 (by assumption) | exact keep3 f5 (by assumption) | exact keep3 (below_drewN (Ext.refl _) 1) ⟨c1, c2, c1⟩)
          (first
            | (go_at_call_of 19 vs; refine (put_c _ vs s p (hH3.out.below (below_drewN (Ext.refl _) 1)) hr.out (by omega)).mono ?_; rintro e x1 ⟨y1, rfl, z1, f1⟩; have k1 : Hid (Ext w4 x1) := Lib.hid (Ext.trans (below_drewN (Ext.refl _) 1) f1); replace z1 := own_to_ps z1)
            | (go_at_call_of 21 y1; refine (drop_c _ y1 (rput s p) p.1 z1 (rput_rise hr.out p) (by omega)).mono ?_; rintro e x2 ⟨y2, rfl, z2, f2⟩; have k2 : Hid (Ext w4 x2) := Lib.hid (Ext.trans k1.out f2); replace z2 := own_to_ps z2)
            | (go_at_call_of 10 y2; refine (same_t _ y2 vs _ s z2 (hH3.out.below k2.out) (by omega) (by omega) hX.out).mono ?_; rintro e x3 ⟨rfl, f3⟩; have k3 : Hid (Ext w4 x3) := Lib.hid (Ext.trans k2.out f3))
            | (go_at_call_of 21 vs; refine (drop_c _ vs s p.1 (hH3.out.below k3.out) hr.out (by omega)).mono ?_; rintro e x4 ⟨y4, rfl, z4, f4⟩; have k4 : Hid (Ext w4 x4) := Lib.hid (Ext.trans k3.out f4); replace z4 := own_to_ps z4)
            | (go_at_call_of 10 y4; refine (same_t _ y4 vs _ s z4 (hH3.out.below k4.out) (by omega) (by omega) hY.out).mono ?_; rintro e x5 ⟨rfl, f5⟩; have k5 : Hid (Ext w4 x5) := Lib.hid (Ext.trans k4.out f5)))
        repeat' go_step
        go_ret
        exact ⟨rfl, Ext.trans E k5.out⟩
end Go.Proofs.Ytdajhbllakmmlaa
