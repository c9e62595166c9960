/- Contract: how the document's tree looks. -/
import Derived.Test.YtmpeniboccahdaaUf
namespace Go.Proofs.Ytmpeniboccahdaa
open Go.RowKit Go.QS
set_option linter.unusedVariables false

theorem seg_own {w : World} {base : Nat} {e : TypeId} {A : Option Addr} {c n : Nat} {xs : List Value} (h : w.ownsRow base e 1 (.slice A n c) n xs) : Seg w A xs := by
  obtain ⟨A', c', e', _, _, _, hs⟩ := Sl.of_own h
  cases e'
  exact hs

set_option maxRecDepth 100000 in
set_option maxHeartbeats 2000000 in
theorem rshape_c (S : Nat → Prop) : ∀ (N : Nat) (w : World) (g : Nat) (t : RT), SizeOf.sizeOf t < N → RepS DT DP S w g t → t.shp.length ≤ 10000000 →
    Calls Try.prog 24 #[ptr g] w fun e w' => ∃ v', e = .returned v' ∧ w'.ownsRow w.heap.size 5 1 v' t.shp.length (encB t.shp) ∧ Ext w w' := by
  intro N
  induction N with
  | zero => intro w g t h; omega
  | succ N ih =>
  intro w g t hN h h9
  have IH := Lib.hid ih
  clear ih
  obtain ⟨kv, ps, nd, sl, rp⟩ := h.open
  have hcells := nd.cells
  obtain ⟨lab, val, kids⟩ := t
  simp only [RT.lab_node, RT.val_node, RT.kids_node] at *
  have hlen : (RT.node lab val kids).shp.length = 5 + lab.length + vlen val + (shps kids).length := by
    rw [shp_eq, List.length_append, headB_len]; rfl
  rw [hlen] at h9
  obtain ⟨KA, kc, rfl, _, hk1, hk2, hk3⟩ := Sl.of_own sl
  obtain ⟨c0, c1, c2, c3⟩ := hcells
  have HN : Hid ((w.cell? ⟨g, 0, none⟩ = some (str lab) ∧ w.cell? ⟨g, 1, none⟩ = some (.bool val.isSome) ∧ w.cell? ⟨g, 2, none⟩ = some (str (val.getD [])) ∧ w.cell? ⟨g, 3, none⟩ = some (.slice KA ps.length kc)) ∧ Seg w KA (ptrs ps) ∧ RepsS DT DP S w ps kids) := Lib.hid ⟨⟨c0, c1, c2, c3⟩, hk3, rp⟩
  have HT := Lib.hid (rtext_c w lab (by omega))
  have hsz : ∀ k ∈ kids, SizeOf.sizeOf k < N := fun k hk => by have := kid_size (t := RT.node lab val kids) hk; omega
  have HSZ := Lib.hid hsz
  have hpk := rp.1
  have hkl : ps.length ≤ 100000000 := by
    have := shps_ge kids
    omega
  clear hlen nd sl rp hk3 h c1 c2 c3 hN hsz hpk
  go_enter Try.func24, Try.ntmps24
  repeat' (first | go_at_call 49 | go_skip | go_guarded | go_step)
  refine HT.out.mono ?_
  rintro e w1 ⟨v1, rfl, h1, f1⟩
  have H1 := Lib.hid (And.intro h1 f1)
  have hN1 := keep_n f1 HN.out.1
  obtain ⟨A1, C1, rfl⟩ := own_slice' h1
  obtain ⟨c0, c1, c2, c3⟩ := hN1
  have hl1 : (textB lab).length ≤ 2 + lab.length := by rw [textB_len]; exact Nat.le_refl _
  clear h1 f1
  go_simp
  repeat' (go_not_at_if 14; (first | go_skip | go_guarded | go_step))
  go_cut [3] (fun vx wx => Hid (wx.ownsRow w.heap.size 5 1 vx (textB lab ++ valB val).length (encB (textB lab ++ valB val)) ∧ Ext w wx))
  case first =>
    cases val with
    | none =>
      have d1 : (none : Option (List UInt8)).isSome = false := rfl
      repeat' (first | go_skip | go_guarded | (at_builtin; refine wpList_appR (W := w) rfl (.tmp 24) (.tmp 25) _ rfl Try.underlying52 _ _ rfl (.inl (row_ext H1.out.1 (ext_alloc (Ext.refl _) _))) (ext_alloc H1.out.2 _) _ 1 1 [0] rfl (by decide) rfl (Seg.new _ [_] _ rfl) (by omega) ?_; intro v2 w2 hown hb2) | go_step)
      go_meet
      exact Lib.hid ⟨hown, hb2⟩
    | some v =>
      have d1 : (some v).isSome = true := rfl
      have h9' : lab.length + v.length + 7 ≤ 10000000 := by simp only [vlen] at h9; omega
      repeat' (go_not_at_region 3; (first | go_skip | go_guarded | go_step))
      have c2' : w1.cell? ⟨g, 2, none⟩ = some (str v) := c2
      have HC2 : Hid (w.cell? ⟨g, 2, none⟩ = some (str v)) := Lib.hid HN.out.1.2.2.1
      go_region_held3 (fun w' => w'.cell? ⟨g, 2, none⟩ = some (str v)) (first | exact (k4.out.cell (World.block_lt_of_cell? w _ HC2.out)).trans HC2.out | exact (k3.out.1.cell (World.block_lt_of_cell? w _ HC2.out)).trans HC2.out | exact (k2.out.cell (World.block_lt_of_cell? w _ HC2.out)).trans HC2.out | go_keep)
        (first
         | (refine step_appR (W := w) (by rfl) (.tmp 15) (.tmp 16) _ (by rfl) Try.underlying52 _ (textB lab) (by rfl) (.inl (row_ext H1.out.1 (by repeat' (first | exact Ext.refl _ | apply ext_alloc | apply ext_drew)))) (H1.out.2.trans (by repeat' (first | exact Ext.refl _ | apply ext_alloc | apply ext_drew))) _ 1 1 [1] (by rfl) (by decide) (by rfl) (Seg.new _ [_] _ (by rfl)) (by omega) ?_; intro v2 w2 hown2 hb2; have k2 : Hid (Ext w w2) := Lib.hid hb2; have HO2 := Lib.hid hown2; clear hown2 hb2)
         | (go_at_call 49; refine (rtext_c w2 v (by omega)).mono ?_; rintro e w3 ⟨v3, rfl, hown3, hb3⟩; have k3 : Hid (Ext w w3 ∧ Ext w2 w3) := Lib.hid ⟨k2.out.trans hb3, hb3⟩; obtain ⟨A3, C3, rfl⟩ := own_slice' hown3; have HO3 := Lib.hid hown3; clear hown3 hb3)
         | (refine step_appR (W := w) (by rfl) (.tmp 17) (.tmp 22) _ (by rfl) Try.underlying52 _ (textB lab ++ [1]) (by rfl) (.inl (row_ext HO2.out k3.out.2)) k3.out.1 _ _ _ (textB v) (by rfl) (by rw [textB_len]; omega) (by rfl) (seg_own HO3.out) (by have := textB_len v; rw [List.length_append, List.length_singleton]; omega) ?_; intro v4 w4 hown4 hb4; have k4 : Hid (Ext w w4) := Lib.hid hb4; have HO4 := Lib.hid hown4; clear hown4 hb4))
      repeat' (first | go_skip | go_guarded | go_step)
      go_meet
      have e : textB lab ++ valB (some v) = textB lab ++ [1] ++ textB v := by simp [valB]
      rw [e]
      exact Lib.hid ⟨HO4.out, k4.out⟩
  case rest =>
  have hl2 : (textB lab ++ valB val).length = (2 + lab.length) + (1 + vlen val) := by rw [List.length_append, textB_len]; cases val <;> simp [valB, vlen, textB_len]; omega
  obtain ⟨L2, hL2⟩ : ∃ L2, L2 = textB lab ++ valB val := ⟨_, rfl⟩
  rw [← hL2] at hcut hl2
  have HL2 := Lib.hid hL2
  clear hL2
  obtain ⟨hown2, f2⟩ := hcut.out
  have H2 := Lib.hid (And.intro hown2 f2)
  obtain ⟨A2, c2', rfl⟩ := own_slice' hown2
  have hN2 := keep_n f2 HN.out.1
  obtain ⟨c0, c1, c2, c3⟩ := hN2
  have hkm : ps.length < 9223372036854775808 := by omega
  have h29 : L2.length + 2 ≤ 1000000000 := by omega
  have HLL := Lib.hid hl2
  clear hown2 f2 hcut hl2 hl1
  go_simp
  repeat' (first | go_at_call 50 | go_skip | go_guarded | go_step)
  refine (two_c _ ps.length (by omega)).mono ?_
  rintro e w3 ⟨v3, rfl, o3, f3⟩
  obtain ⟨A3, C3, rfl⟩ := own_slice' o3
  have H3 := Lib.hid (And.intro o3 (And.intro f3 (H2.out.2.trans f3)))
  have hN3 := keep_n H3.out.2.2 HN.out.1
  obtain ⟨c0, c1, c2, c3⟩ := hN3
  clear o3 f3
  go_simp
  repeat' (go_not_at_region 7; (first | go_skip | go_guarded | (at_builtin; refine wpList_appR (W := w) rfl (.tmp 27) (.tmp 33) _ rfl Try.underlying52 _ L2 rfl (.inl (row_ext H2.out.1 H3.out.2.1)) H3.out.2.2 _ 2 _ (twoB ps.length) rfl (by decide) rfl (seg_own H3.out.1) (by omega) ?_; intro v4 w4 hown4 hb4; have H4 : Hid (w4.ownsRow w.heap.size 5 1 v4 (L2 ++ twoB ps.length).length (encB (L2 ++ twoB ps.length)) ∧ Ext w w4) := Lib.hid ⟨hown4, hb4⟩; have hN4 := keep_n hb4 HN.out.1; obtain ⟨q0, q1, q2, q3⟩ := hN4; clear hown4 hb4) | go_step))
  have HE3 : Hid (headB lab val kids.length = L2 ++ twoB ps.length) := Lib.hid (by rw [HL2.out, HN.out.2.2.1]; simp [headB])
  have hl3 : headB_len' lab val + (shps kids).length ≤ 10000000 := by unfold headB_len'; omega
  obtain ⟨m, hm⟩ : ∃ m, m = ps.length := ⟨_, rfl⟩
  rw [← hm] at hkm ⊢
  have HM := Lib.hid hm
  clear hm h29
  go_loopg [3, 5, 40] m (fun gk v3 v5 v40 wr => ∃ j : Nat, v40 = .int .i64 j ∧ j ≤ m ∧ m - j ≤ gk ∧ Hid (wr.ownsRow w.heap.size 5 1 v3 (headB lab val kids.length ++ shps (kids.take j)).length (encB (headB lab val kids.length ++ shps (kids.take j))) ∧ Ext w wr))
  case atStart => exact ⟨0, rfl, Nat.zero_le _, Nat.le_refl _, Lib.hid (by rw [HE3.out, List.take_zero, shps_nil, List.append_nil]; exact H4.out)⟩
  case round =>
    obtain ⟨j, rfl, hjm, hgk, HI⟩ := hrel
    rcases Nat.lt_or_ge j m with hlt | hge
    · have d1 : decide (j < m) = true := by simp [hlt]
      obtain ⟨p, hp⟩ := get_of_lt ps (show j < ps.length by have := HM.out; omega)
      obtain ⟨k, hkk⟩ := get_of_lt kids (show j < kids.length by have := HM.out; have := HN.out.2.2.1; omega)
      obtain ⟨b, o, hKA, hcl⟩ := (Seg.below HN.out.2.1 HI.out.2) (fun e => by have := ptrs_get hp; rw [e] at this; simp at this)
      subst hKA
      have hq := hcl j _ (ptrs_get hp)
      have hi1 : (j : Int) < (m : Int) := by omega
      have hbd := shps_le kids (j + 1)
      rw [shps_snoc hkk, List.length_append] at hbd
      have HC := Lib.hid (IH.out wr p k (HSZ.out k (List.mem_of_getElem? hkk)) ((HN.out.2.2.2 j p k hp hkk).ext HI.out.2) (by omega))
      have hbd2 : (headB lab val kids.length ++ shps (kids.take j)).length + k.shp.length ≤ 1000000000 := by rw [List.length_append, headB_len]; unfold headB_len' at hl3; omega
      have hksh : 0 < k.shp.length := by rw [shp_eq, List.length_append, headB_len]; omega
      have HS2 := Lib.hid (shps_snoc hkk)
      obtain ⟨L5, hL5⟩ : ∃ L, L = headB lab val kids.length ++ shps (kids.take j) := ⟨_, rfl⟩
      have HI5 : Hid (wr.ownsRow w.heap.size 5 1 u3 L5.length (encB L5) ∧ Ext w wr ∧ L5 = headB lab val kids.length ++ shps (kids.take j)) := Lib.hid (by rw [hL5]; exact ⟨HI.out.1, HI.out.2, rfl⟩)
      rw [← hL5] at hbd2
      obtain ⟨ksh, hks⟩ : ∃ s, s = k.shp := ⟨_, rfl⟩
      rw [← hks] at HC hbd2 hksh HS2
      clear hcl hp hkk hbd hL5 HI hks
      repeat' (first | go_at_call 24 | go_skip | go_guarded | go_step)
      refine HC.out.mono ?_
      rintro e x5 ⟨v5, rfl, h5, f5⟩
      obtain ⟨A5, C5, rfl⟩ := own_slice' h5
      have H5 := Lib.hid (And.intro h5 f5)
      clear h5 f5
      go_simp
      repeat' (first | go_skip | go_guarded | (at_builtin; refine wpList_appR (W := w) rfl (.tmp 44) (.tmp 46) _ rfl Try.underlying52 _ L5 rfl (.inl (row_ext HI5.out.1 H5.out.2)) (HI5.out.2.1.trans H5.out.2) _ _ _ ksh rfl hksh rfl (seg_own H5.out.1) hbd2 ?_; intro v6 w6 hown6 hb6) | go_step)
      have H6 : Hid (w6.ownsRow w.heap.size 5 1 v6 (headB lab val kids.length ++ shps (kids.take (j + 1))).length (encB (headB lab val kids.length ++ shps (kids.take (j + 1)))) ∧ Ext w w6) := by
        rw [HS2.out, ← List.append_assoc, ← HI5.out.2.2]
        exact Lib.hid ⟨hown6, hb6⟩
      clear hown6 hb6
      go_roundg (m - (j + 1))
      case measure => omega
      case rel => exact ⟨j + 1, by go_num, by omega, Nat.le_refl _, H6⟩
    · obtain rfl : j = m := by omega
      have d1 : decide (j < j) = false := by simp
      repeat' (first | go_skip | go_guarded | go_step)
      go_ret
      have h := HI.out
      rw [List.take_of_length_le (by have := HM.out; have := HN.out.2.2.1; omega)] at h
      refine ⟨_, rfl, ?_, h.2⟩
      rw [shp_eq]
      exact h.1
end Go.Proofs.Ytmpeniboccahdaa
