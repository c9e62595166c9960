/- Contracts of the radix laws' own small functions: few, like, tree. -/
import Derived.Test.YtmpeniboccahdaaUg
import Derived.Test.YtmpeniboccahdaaTh
import Derived.Laws.Rows
namespace Go.Proofs.Ytmpeniboccahdaa
open Go.RowKit Go.QS
set_option linter.unusedVariables false

set_option maxRecDepth 100000 in
theorem fewp_c (w : World) (p : Pr) :
    Calls Try.prog 14 #[.agg #[str p.1, str p.2]] w fun e w' => e = .returned (.agg #[str (cutP p).1, str (cutP p).2]) ∧ Ext w w' := by
  obtain ⟨k, v⟩ := p
  simp only [cutP]
  by_cases h1 : 40 < k.length
  · have d1 : decide (40 < k.length) = true := by simp [h1]
    have b1 : (40 : Int) ≤ (k.length : Int) := by omega
    by_cases h2 : 40 < v.length
    · have d2 : decide (40 < v.length) = true := by simp [h2]
      have b2 : (40 : Int) ≤ (v.length : Int) := by omega
      go_enter Try.func14, Try.ntmps14
      repeat' (first | go_skip | go_guarded | go_step)
      (try simp only [Exit.inBlock, Exit.then]); refine bodyPost_ret_by (results_cell_row rfl _ _ _ _ _ _ _ rfl (heap_alloc2_new _ _ _) Try.underlying24 rfl (by kernel_rfl)) rfl ?_
      exact ⟨rfl, ((Ext.refl w).alloc (Nat.le_refl _) _).alloc (by simp) _⟩
    · have d2 : decide (40 < v.length) = false := by simp; omega
      have e2 : v.take 40 = v := List.take_of_length_le (by omega)
      rw [e2]
      go_enter Try.func14, Try.ntmps14
      repeat' (first | go_skip | go_guarded | go_step)
      (try simp only [Exit.inBlock, Exit.then]); refine bodyPost_ret_by (results_cell_row rfl _ _ _ _ _ _ _ rfl (heap_alloc2_new _ _ _) Try.underlying24 rfl (by kernel_rfl)) rfl ?_
      exact ⟨rfl, ((Ext.refl w).alloc (Nat.le_refl _) _).alloc (by simp) _⟩
  · have d1 : decide (40 < k.length) = false := by simp; omega
    have e1 : k.take 40 = k := List.take_of_length_le (by omega)
    rw [e1]
    by_cases h2 : 40 < v.length
    · have d2 : decide (40 < v.length) = true := by simp [h2]
      have b2 : (40 : Int) ≤ (v.length : Int) := by omega
      go_enter Try.func14, Try.ntmps14
      repeat' (first | go_skip | go_guarded | go_step)
      (try simp only [Exit.inBlock, Exit.then]); refine bodyPost_ret_by (results_cell_row rfl _ _ _ _ _ _ _ rfl (heap_alloc2_new _ _ _) Try.underlying24 rfl (by kernel_rfl)) rfl ?_
      exact ⟨rfl, ((Ext.refl w).alloc (Nat.le_refl _) _).alloc (by simp) _⟩
    · have d2 : decide (40 < v.length) = false := by simp; omega
      have e2 : v.take 40 = v := List.take_of_length_le (by omega)
      rw [e2]
      go_enter Try.func14, Try.ntmps14
      repeat' (first | go_skip | go_guarded | go_step)
      (try simp only [Exit.inBlock, Exit.then]); refine bodyPost_ret_by (results_cell_row rfl _ _ _ _ _ _ _ rfl (heap_alloc2_new _ _ _) Try.underlying24 rfl (by kernel_rfl)) rfl ?_
      exact ⟨rfl, ((Ext.refl w).alloc (Nat.le_refl _) _).alloc (by simp) _⟩
theorem box_cells {w : World} {g : Nat} {a b : Value} {t : TypeId} {f : Nat × Nat} (h : w.heap[g]? = some (.cells #[a, b] t f)) : w.cell? ⟨g, 0, none⟩ = some a ∧ w.cell? ⟨g, 1, none⟩ = some b := by
  simp [World.cell?, h]
theorem box_free {w : World} {g : Nat} {cs : Array Value} {t : TypeId} (h : w.heap[g]? = some (.cells cs t (0, 0))) (j : Nat) : w.frozen? ⟨g, j, none⟩ = false := by
  simp [World.frozen?, h]
theorem box_ext {w w' : World} {g : Nat} {o : Obj} (h : w.heap[g]? = some o) (f : Ext w w') : w'.heap[g]? = some o := (f.block g (heap_lt h)).trans h

theorem keep3c {w w' : World} {a1 a2 a3 : Addr} {u1 u2 u3 : Value} (f : Ext w w') (h : w.cell? a1 = some u1 ∧ w.cell? a2 = some u2 ∧ w.cell? a3 = some u3) : w'.cell? a1 = some u1 ∧ w'.cell? a2 = some u2 ∧ w'.cell? a3 = some u3 :=
  ⟨(f.cell (World.block_lt_of_cell? w _ h.1)).trans h.1, (f.cell (World.block_lt_of_cell? w _ h.2.1)).trans h.2.1, (f.cell (World.block_lt_of_cell? w _ h.2.2)).trans h.2.2⟩

set_option maxRecDepth 100000 in
set_option maxHeartbeats 2000000 in
theorem like_c (S : Nat → Prop) : ∀ (N : Nat) (w : World) (g q : Nat) (t : RT), SizeOf.sizeOf t < N → Rep NT w g t → RepS DT DP S w q t → Wide t →
    Calls Try.prog 21 #[ptr g, ptr q] w fun e w' => e = .returned (.bool true) ∧ Ext w w' := by
  intro N
  induction N with
  | zero => intro w g q t h; omega
  | succ N ih =>
  intro w g q t hN hR hD hW
  have IH := Lib.hid ih
  clear ih
  obtain ⟨kv, ow, ps, nd, sl, rp⟩ := hR.open
  obtain ⟨dv, ds, dd, dl, dp⟩ := hD.open
  obtain ⟨hw1, hw2⟩ := hW.open
  have hsz : ∀ k ∈ t.kids, SizeOf.sizeOf k < N := fun k hk => by have := kid_size hk; omega
  have hpk : ps.length = ds.length := rp.1.trans dp.1.symm
  have hp9 : ps.length ≤ 1000000000 := by have := rp.1; omega
  obtain ⟨DA, dc, rfl, _, hd1, hd2, hd3⟩ := Sl.of_own dl
  obtain ⟨m, hm⟩ : ∃ m, m = ps.length := ⟨_, rfl⟩
  have hdm : ds.length = m := by omega
  rw [hdm] at hd1 dd
  have HV := Lib.hid (value_c w g _ _ nd.cells.2.1 nd.cells.2.2.1)
  have HKC : Hid (∀ W, Ext w W → Calls Try.prog 33 #[ptr g] W fun e w' => ∃ v', e = .returned v' ∧ w'.ownsRow W.heap.size 26 1 v' ps.length (ptrs ps) ∧ Ext W w') := Lib.hid (fun W hW => kids_c W g kv ps (nd.ext hW).cells.2.2.2.1 (sl.below hW) hp9)
  have HLB : Hid (∀ W, Ext w W → Calls Try.prog 32 #[ptr g] W fun e w' => e = .returned (str t.lab) ∧ W = w') := Lib.hid (fun W hW => label_c W g _ (nd.ext hW).cells.1)
  have HN : Hid (Reps NT w ps t.kids ∧ RepsS DT DP S w ds t.kids ∧ Seg w DA (ptrs ds) ∧ (∀ k ∈ t.kids, SizeOf.sizeOf k < N) ∧ (∀ k ∈ t.kids, Wide k) ∧ m = ps.length ∧ ds.length = m ∧ TreeAt DT w q t.lab t.val (.slice DA m dc)) := Lib.hid ⟨rp, dp, hd3, hsz, hw2, hm, hdm, dd⟩
  have hm9 : m ≤ 1000000000 := by omega
  obtain ⟨lab, hlab⟩ : ∃ l, l = t.lab := ⟨_, rfl⟩
  obtain ⟨val, hval⟩ : ∃ v, v = t.val := ⟨_, rfl⟩
  rw [← hlab, ← hval] at HN
  rw [← hlab] at HLB
  rw [← hval] at HV
  clear hR hD hW nd sl rp dd dl dp hw1 hw2 hsz hpk hp9 hd3 hm hdm hlab hval
  go_enter Try.func21, Try.ntmps21
  repeat' (first | go_at_call 30 | go_skip | go_guarded | go_step)
  refine HV.out.mono ?_
  rintro e w1 ⟨rfl, f1⟩
  have H1 := Lib.hid f1
  clear f1
  go_simp
  repeat' (first | go_at_call 33 | go_skip | go_guarded | go_step)
  refine (HKC.out w1 H1.out).mono ?_
  rintro e w2 ⟨v2, rfl, o2, f2⟩
  obtain ⟨A, C, rfl, _, hn, hC, hs⟩ := Sl.of_own o2
  have H2 : Hid (Ext w w2 ∧ Seg w2 A (ptrs ps)) := Lib.hid ⟨H1.out.trans f2, hs⟩
  have d2 := HN.out.2.2.2.2.2.2.2.ext H2.out.1
  obtain ⟨c0, c1, c2, c3⟩ := d2.cells
  have HLC : Hid (∀ n, Calls Try.prog 32 #[ptr g] (w2.drewN n) fun e w' => e = .returned (str lab) ∧ w' = w2.drewN n) := Lib.hid (fun n => (HLB.out (w2.drewN n) (below_drewN H2.out.1 n)).mono fun e w' h => ⟨h.1, h.2.symm⟩)
  rw [← HN.out.2.2.2.2.2.1] at hn ⊢
  clear f2 o2 hs d2
  go_simp
  repeat' (go_not_at_region 3; (first | go_skip | go_guarded | go_step))
  go_cut [63] (fun v63 wx => Hid (v63 = .bool false ∧ Ext w wx ∧ Ext w2 wx))
  case first =>
    cases val with
    | none =>
      have e1 : (none : Option (List UInt8)).isSome = false := rfl
      have e2 : (none : Option (List UInt8)).getD [] = [] := rfl
      rw [e1] at c1
      rw [e2] at c2
      rw [e1, e2]
      clear e1 e2
      go_quiet ((go_at_call 32; refine Calls.quiet_of_same (HLC.out _)))
      repeat' (first | go_skip | go_guarded | go_step)
      go_meet
      exact Lib.hid ⟨rfl, below_drewN H2.out.1 _, below_drewN (Ext.refl _) _⟩
    | some v =>
      have e1 : (some v).isSome = true := rfl
      have e2 : (some v).getD [] = v := rfl
      rw [e1] at c1
      rw [e2] at c2
      rw [e1, e2]
      clear e1 e2
      go_quiet ((go_at_call 32; refine Calls.quiet_of_same (HLC.out _)))
      repeat' (first | go_skip | go_guarded | go_step)
      go_meet
      exact Lib.hid ⟨rfl, below_drewN H2.out.1 _, below_drewN (Ext.refl _) _⟩
  case rest =>
  obtain ⟨hv, f3, f23⟩ := hcut.out
  subst hv
  have H3 : Hid (Ext w wc) := Lib.hid f3
  have F23 : Hid (Ext w2 wc) := Lib.hid f23
  have HA : Hid (Seg w2 A (ptrs ps)) := Lib.hid H2.out.2
  clear hcut f3 f23 c0 c1 c2 c3 HLC
  repeat' (go_not_at_region 6; (first | go_skip | go_guarded | go_step))
  go_loopg [66] m (fun gk v66 wr => ∃ j : Nat, v66 = .int .i64 j ∧ j ≤ m ∧ m - j ≤ gk ∧ Hid (Ext w2 wr ∧ Ext w wr))
  case atStart => exact ⟨0, rfl, Nat.zero_le _, Nat.le_refl _, Lib.hid ⟨F23.out, H3.out⟩⟩
  case round =>
    obtain ⟨j, rfl, hjm, hgk, HI⟩ := hrel
    rcases Nat.lt_or_ge j m with hlt | hge
    · have d1 : decide (j < m) = true := by simp [hlt]
      have hi1 : (j : Int) < (m : Int) := by omega
      obtain ⟨p1, hp1⟩ := get_of_lt ps (show j < ps.length by have := HN.out.2.2.2.2.2.1; omega)
      obtain ⟨p2, hp2⟩ := get_of_lt ds (show j < ds.length by have := HN.out.2.2.2.2.2.2.1; omega)
      obtain ⟨k, hk⟩ := get_of_lt t.kids (show j < t.kids.length by have := HN.out.2.2.2.2.2.1; have := HN.out.1.1; omega)
      obtain ⟨b1, o1, rfl, hcl1⟩ := (Seg.below HA.out HI.out.1) (fun e => by have := ptrs_get hp1; rw [e] at this; simp at this)
      obtain ⟨b2, o2, hDA, hcl2⟩ := (Seg.below HN.out.2.2.1 HI.out.2) (fun e => by have := ptrs_get hp2; rw [e] at this; simp at this)
      have hB : Hid (wr.cell? ⟨b1, o1 + j, none⟩ = some (ptr p1) ∧ wr.cell? ⟨b2, o2 + j, none⟩ = some (ptr p2) ∧ wr.cell? ⟨q, 3, none⟩ = some (.slice (some ⟨b2, o2, none⟩) m dc)) := Lib.hid ⟨hcl1 j _ (ptrs_get hp1), hcl2 j _ (ptrs_get hp2), by rw [← hDA]; exact (HN.out.2.2.2.2.2.2.2.ext HI.out.2).cells.2.2.2⟩
      have hmem := List.mem_of_getElem? hk
      have HC : Hid (∀ n, Calls Try.prog 21 #[ptr p1, ptr p2] (wr.drewN n) fun e w' => e = .returned (.bool true) ∧ Ext (wr.drewN n) w') := Lib.hid (fun n => IH.out _ p1 p2 k (HN.out.2.2.2.1 k hmem) ((HN.out.1.2 j p1 k hp1 hk).ext (below_drewN HI.out.2 n)) ((HN.out.2.1.2 j p2 k hp2 hk).ext (below_drewN HI.out.2 n)) (HN.out.2.2.2.2.1 k hmem))
      clear hcl1 hcl2 hp1 hp2 hk hmem hDA
      obtain ⟨q1, q2, q3⟩ := hB.out
      repeat' (go_not_at_region 8; (first | go_skip | go_guarded | go_step))
      go_region_held3 (fun w' => w'.cell? ⟨b1, o1 + j, none⟩ = some (ptr p1) ∧ w'.cell? ⟨b2, o2 + j, none⟩ = some (ptr p2) ∧ w'.cell? ⟨q, 3, none⟩ = some (.slice (some ⟨b2, o2, none⟩) m dc))
        (first | exact keep3c k2.out hB.out | exact keep3c (below_drewN (Ext.refl _) 1) hB.out)
        (first
          | (go_at_call 21; refine (HC.out 1).mono ?_; rintro e x2 ⟨rfl, f2⟩; have k2 : Hid (Ext wr x2) := Lib.hid (Ext.trans (below_drewN (Ext.refl _) 1) f2); clear f2))
      repeat' (first | go_skip | go_guarded | go_step)
      go_roundg (m - (j + 1))
      case measure => omega
      case rel => exact ⟨j + 1, by go_num, by omega, Nat.le_refl _, Lib.hid ⟨HI.out.1.trans k2.out, HI.out.2.trans k2.out⟩⟩
    · obtain rfl : j = m := by omega
      have d1 : decide (j < j) = false := by simp
      repeat' (first | go_skip | go_guarded | go_step)
      go_ret
      exact ⟨rfl, HI.out.2⟩
end Go.Proofs.Ytmpeniboccahdaa
