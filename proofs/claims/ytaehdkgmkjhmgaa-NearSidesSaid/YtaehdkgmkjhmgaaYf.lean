/- Contracts: who is near a key: in one kid; a node's own pair. -/
import Derived.Test.YtaehdkgmkjhmgaaYd
namespace Go.Proofs.Ytaehdkgmkjhmgaa
open Go.RowKit Go.QS
set_option linter.unusedVariables false

abbrev edg (d i : Bool) : Value := .agg #[.bool d, .bool i]
abbrev ET : TypeId := 100
abbrev zp : Obj := .cells #[.string ⟨#[]⟩, .string ⟨#[]⟩] 29

set_option maxRecDepth 100000 in
theorem least_c (w : World) (d i : Bool) (p : Pr) (ok : Bool) : Calls Try.prog 91 #[edg d i, .agg #[str p.1, str p.2], .bool ok] w fun e w' => e = .returned (optR (if ok then some p else none)) ∧ Ext w w' := by
  obtain ⟨a, b⟩ := p
  go_enter Try.func91, Try.ntmps91
  repeat' (go_not_at_region 1; (first | go_skip | go_guarded | go_step))
  obtain ⟨wb, hwb⟩ : ∃ wb, wb = w.alloc (.cells #[.bool d, .bool i] ET) := ⟨_, rfl⟩
  have hEb : Ext w wb := by rw [hwb]; exact (Ext.refl w).alloc (Nat.le_refl _) _
  have hsb : w.heap.size + 1 = wb.heap.size := by rw [hwb]; simp
  rw [← hwb, hsb]
  obtain ⟨wc, hwc⟩ : ∃ wc, wc = wb.alloc (.cells #[str a, str b] 29) := ⟨_, rfl⟩
  have hbc := heap_new wb (.cells #[str a, str b] 29)
  have hEc : Ext wb wc := by rw [hwc]; exact (Ext.refl _).alloc (Nat.le_refl _) _
  have hsc : wb.heap.size + 1 = wc.heap.size := by rw [hwc]; simp
  rw [← hwc] at hbc
  have hwc' : wb.alloc (.cells #[Value.string (bs a), Value.string (bs b)] 29) = wc := hwc.symm
  rw [hwc', hsc]
  obtain ⟨pb, hpb⟩ : ∃ pb, pb = wb.heap.size := ⟨_, rfl⟩
  rw [← hpb] at hbc ⊢
  obtain ⟨wa, hwa⟩ : ∃ wa, wa = wc.alloc zp := ⟨_, rfl⟩
  have hba := heap_new wc zp
  have hEa : Ext wc wa := by rw [hwa]; exact (Ext.refl _).alloc (Nat.le_refl _) _
  have hwa' : wc.alloc (.cells #[.string ⟨#[]⟩, .string ⟨#[]⟩] 29) = wa := hwa.symm
  rw [← hwa] at hba
  rw [hwa']
  obtain ⟨rb, hrb⟩ : ∃ rb, rb = wc.heap.size := ⟨_, rfl⟩
  rw [← hrb] at hba ⊢
  have hE : Ext w wa := Ext.trans hEb (Ext.trans hEc hEa)
  have hle : w.heap.size ≤ rb := by omega
  have HE : Hid (Ext w wa ∧ wa.heap[rb]? = some (.cells #[.string ⟨#[]⟩, .string ⟨#[]⟩] 29 (0, 0))) := Lib.hid ⟨hE, hba⟩
  have hne : ¬ rb = pb := by omega
  obtain ⟨p0, p1⟩ := bx_cells (bx_ext hbc hEa)
  obtain ⟨c0, c1⟩ := bx_cells hba
  have cf := bx_free hba
  clear hwb hEb hsb hwc hbc hEc hsc hwc' hpb hwa hba hEa hwa' hrb hE
  cases ok with
  | false =>
    repeat' (first | go_skip | go_guarded | go_step)
    (try simp only [Exit.inBlock, Exit.then])
    refine bodyPost_ret_by (results_ct rfl _ _ _ _ _ _ _ rfl (heap_set (heap_set HE.out.2 0 _) 1 _) Try.underlying29 rfl (by kernel_rfl)) rfl ?_
    exact ⟨rfl, (HE.out.1.setCell hle _).setCell hle _⟩
  | true =>
    repeat' (first | go_skip | go_guarded | go_step)
    refine bodyPost_ret_by (results_ct rfl _ _ _ _ _ _ _ rfl (heap_set (heap_set HE.out.2 0 _) 1 _) Try.underlying29 rfl (by kernel_rfl)) rfl ?_
    exact ⟨rfl, (HE.out.1.setCell hle _).setCell hle _⟩

set_option maxRecDepth 100000 in
set_option maxHeartbeats 1000000 in
theorem kid_c (w : World) (d i : Bool) (g : Nat) (t : RT) (ah rest : List UInt8) (N : Nat) (hr : Rep NT w g t) (hb : Br N t) (hl : ah.length + N ≤ 1000) (hrl : rest.length ≤ 1000)
    (hseek : ∀ w' : World, Ext w w' → Calls Try.prog 70 #[edg d i, ptr g, str ah, str (rest.drop t.lab.length)] w' fun e w'' => e = .returned (optR (opre (ah ++ t.lab) (nearL d i (rest.drop t.lab.length) t.prs))) ∧ Ext w' w'') :
    Calls Try.prog 90 #[edg d i, ptr g, str ah, str rest] w fun e w' => e = .returned (optR (opre ah (nearL d i rest (pre t.lab t.prs)))) ∧ Ext w w' := by
  have HS := Lib.hid hseek
  have HB := Lib.hid hb
  have HR := Lib.hid hr
  have hln := hb.2.1
  have hgl := hr.lt
  have HT := Lib.hid (trn_cases t.lab rest)
  clear hseek hb hr
  go_enter Try.func90, Try.ntmps90
  repeat' (first | go_at_call 62 | go_skip | go_guarded | go_step)
  obtain ⟨wb, hwb⟩ : ∃ wb, wb = w.alloc (.cells #[.bool d, .bool i] ET) := ⟨_, rfl⟩
  obtain ⟨gb, hgb⟩ : ∃ gb, gb = w.heap.size := ⟨_, rfl⟩
  have hEb : Ext w wb := by rw [hwb]; exact (Ext.refl w).alloc (Nat.le_refl _) _
  have hbb := heap_new w (.cells #[.bool d, .bool i] ET)
  have hsb : w.heap.size + 1 = wb.heap.size := by rw [hwb]; simp
  rw [← hwb, ← hgb] at hbb
  rw [← hwb, hsb, ← hgb]
  obtain ⟨wa, hwa⟩ : ∃ wa, wa = wb.alloc zp := ⟨_, rfl⟩
  obtain ⟨rb, hrb⟩ : ∃ rb, rb = wb.heap.size := ⟨_, rfl⟩
  have hEa : Ext wb wa := by rw [hwa]; exact (Ext.refl wb).alloc (Nat.le_refl _) _
  have hba := heap_new wb zp
  rw [← hwa, ← hrb] at hba
  have hwa' : wb.alloc (.cells #[.string ⟨#[]⟩, .string ⟨#[]⟩] 29) = wa := hwa.symm
  rw [hwa', ← hrb]
  have HA : Hid (wa.heap[rb]? = some (.cells #[.string ⟨#[]⟩, .string ⟨#[]⟩] 29 (0, 0)) ∧ Ext w wb ∧ Ext wb wa ∧ wb.heap.size ≤ rb ∧ w.heap.size ≤ rb) := Lib.hid ⟨hba, hEb, hEa, by omega, by have := hEb.size; omega⟩
  have hbc : ∀ x : World, Ext wb x → x.cell? ⟨gb, 0, none⟩ = some (.bool d) ∧ x.cell? ⟨gb, 1, none⟩ = some (.bool i) := fun x hx => bx_cells (bx_ext hbb hx)
  have HC := Lib.hid hbc
  have hgr : gb ≠ rb := by have := heap_lt hbb; omega
  have hgbl : gb < wb.heap.size := heap_lt hbb
  clear hwb hgb hEb hbb hsb hwa hrb hEa hba hwa' hbc
  refine (labelO_c wa (ptr g) t (.of (HR.out.ext (Ext.trans HA.out.2.1 HA.out.2.2.1)))).mono ?_
  rintro e x1 ⟨rfl, rfl⟩
  go_simp
  repeat' (first | go_at_call 75 | go_skip | go_guarded | go_step)
  refine (turn_c wa t.lab rest (by omega) (by omega)).mono ?_
  rintro e x2 ⟨rfl, f2⟩
  have hb2 := bx_ext HA.out.1 f2
  have H2 : Hid (_ ∧ Ext wb x2 ∧ Ext w x2) := Lib.hid ⟨hb2, Ext.trans HA.out.2.2.1 f2, Ext.trans HA.out.2.1 (Ext.trans HA.out.2.2.1 f2)⟩
  have hrl2 := heap_lt hb2
  obtain ⟨b0, b1⟩ := HC.out x2 H2.out.2.1
  clear f2 hb2
  rcases HT.out with h0 | h0 | h0
  · have hk := trn_zero h0
    have HN := Lib.hid (nearL_zero (d := d) (i := i) h0 t.prs)
    rw [h0]
    have hlr : t.lab.length ≤ rest.length := by rw [hk]; simp
    have hi1 : (t.lab.length : Int) ≤ (rest.length : Int) := by omega
    have hi0 : (0 : Int) ≤ (t.lab.length : Int) := by omega
    obtain ⟨rest', hrest⟩ : ∃ rest', rest' = rest.drop t.lab.length := ⟨_, rfl⟩
    have HSK : Hid (∀ x, Ext wb x → Calls Try.prog 70 #[edg d i, ptr g, str ah, str rest'] x fun e w'' => e = .returned (optR (opre (ah ++ t.lab) (nearL d i rest' t.prs))) ∧ Ext x w'') := Lib.hid fun x hx => by rw [hrest]; exact HS.out x (Ext.trans HA.out.2.1 hx)
    have HLB : Hid (∀ x, Ext wb x → Calls Try.prog 62 #[ptr g] x fun e w' => e = .returned (str t.lab) ∧ x = w') := Lib.hid fun x hx => labelO_c x (ptr g) t (.of (HR.out.ext (Ext.trans HA.out.2.1 hx)))
    have hdr : List.take (rest.length - t.lab.length) rest' = rest' := by rw [hrest]; exact List.take_of_length_le (by simp)
    have hdr2 : rest.drop t.lab.length = rest' := hrest.symm
    rw [← hrest] at HN
    have HBX : Hid (∀ x, Ext x2 x → x.heap[rb]? = some (.cells #[.string ⟨#[]⟩, .string ⟨#[]⟩] 29 (0, 0))) := Lib.hid fun x hx => bx_ext H2.out.1 hx
    have hE2 := H2.out.2.1
    have HP : Hid (∀ (x : World) (u v : Value), Ext wb x → Ext wb ((x.setCell ⟨rb, 0, none⟩ u).setCell ⟨rb, 1, none⟩ v)) := Lib.hid fun x u v hx => (hx.setCell HA.out.2.2.2.1 _).setCell HA.out.2.2.2.1 _
    clear hk h0 hrest
    go_simp
    repeat' (go_not_at_region 3; (first | go_skip | go_guarded | go_step))
    go_region_with (first
      | (go_at_call 62; refine (HLB.out _ (by first | exact hE2 | exact hE2.drew | exact below_drewN hE2 _)).mono ?_; rintro e x3 ⟨rfl, rfl⟩)
      | (go_at_call 70; refine (HSK.out _ (by first | exact hE2 | exact hE2.drew | exact below_drewN hE2 _)).mono ?_; rintro e x4 ⟨rfl, f4⟩; obtain ⟨ra, rv, rc, hlit⟩ := optR_lit (opre (ah ++ t.lab) (nearL d i rest' t.prs)); rw [hlit]; have f6 : Ext x2 x4 := (by first | exact Ext.trans (Ext.refl x2).drew f4 | exact Ext.trans (below_drewN (Ext.refl x2) _) f4 | exact f4); have f5 : Ext wb x4 := Ext.trans hE2 f6; obtain ⟨c0, c1⟩ := bx_cells (HBX.out x4 f6); have cf := bx_free (HBX.out x4 f6)))
    all_goals
      have HLL := Lib.hid hlit
      have H4 : Hid (_ ∧ Ext w x4) := Lib.hid ⟨HBX.out x4 f6, Ext.trans H2.out.2.2 f6⟩
      clear f4 f5 f6 hlit
      repeat' (first | go_skip | go_guarded | go_step)
      (try simp only [Exit.inBlock, Exit.then])
      refine bodyPost_ret_by (results_ct rfl _ _ _ _ _ _ _ rfl (heap_set (heap_set H4.out.1 0 _) 1 _) Try.underlying29 rfl (by kernel_rfl)) rfl ?_
      refine ⟨?_, (H4.out.2.setCell HA.out.2.2.2.2 _).setCell HA.out.2.2.2.2 _⟩
      rw [HN.out, opre_opre, HLL.out]
      rfl
  · have HN := Lib.hid (nearL_pos (d := d) (i := i) h0 t.prs)
    rw [h0]
    clear h0
    cases d with
    | false =>
      obtain ⟨c0, c1⟩ := bx_cells H2.out.1
      have cf := bx_free H2.out.1
      go_simp
      repeat' (first | go_at_call 69 | go_skip | go_guarded | go_step)
      refine (first_c (N - t.lab.length) x2 (ptr g) t ah (.of (HR.out.ext H2.out.2.2)) HB.out.2.2.2 (by omega)).mono ?_
      rintro e x4 ⟨rfl, f4⟩
      obtain ⟨ra, rv, rc, hlit⟩ := optR_lit (opre (ah ++ t.lab) (pick false t.prs))
      rw [hlit]
      have HL := Lib.hid hlit
      have hb4 := bx_ext H2.out.1 f4
      have H4 : Hid (_ ∧ Ext w x4) := Lib.hid ⟨hb4, Ext.trans H2.out.2.2 f4⟩
      have hrl4 := heap_lt hb4
      clear c0 c1 cf
      obtain ⟨c0, c1⟩ := bx_cells hb4
      have cf := bx_free hb4
      clear f4 hb4 hlit
      go_simp
      repeat' (first | go_skip | go_guarded | go_step)
      (try simp only [Exit.inBlock, Exit.then])
      refine bodyPost_ret_by (results_ct rfl _ _ _ _ _ _ _ rfl (heap_set (heap_set H4.out.1 0 _) 1 _) Try.underlying29 rfl (by kernel_rfl)) rfl ?_
      refine ⟨?_, (H4.out.2.setCell HA.out.2.2.2.2 _).setCell HA.out.2.2.2.2 _⟩
      rw [HN.out, if_neg (by simp), opre_opre, HL.out]
      rfl
    | true =>
      obtain ⟨c0, c1⟩ := bx_cells H2.out.1
      have cf := bx_free H2.out.1
      go_simp
      repeat' (first | go_skip | go_guarded | go_step)
      (try simp only [Exit.inBlock, Exit.then])
      refine bodyPost_ret_by (results_ct rfl _ _ _ _ _ _ _ rfl (heap_set (heap_set H2.out.1 0 _) 1 _) Try.underlying29 rfl (by kernel_rfl)) rfl ?_
      refine ⟨?_, (H2.out.2.2.setCell HA.out.2.2.2.2 _).setCell HA.out.2.2.2.2 _⟩
      rw [HN.out, if_pos rfl]
      rfl
  · have HN := Lib.hid (nearL_neg (d := d) (i := i) h0 t.prs)
    rw [h0]
    clear h0
    cases d with
    | true =>
      obtain ⟨c0, c1⟩ := bx_cells H2.out.1
      have cf := bx_free H2.out.1
      go_simp
      repeat' (first | go_at_call 71 | go_skip | go_guarded | go_step)
      refine (last_c (N - t.lab.length) x2 (ptr g) t ah (.of (HR.out.ext H2.out.2.2)) HB.out.2.2.2 (by omega)).mono ?_
      rintro e x4 ⟨rfl, f4⟩
      obtain ⟨ra, rv, rc, hlit⟩ := optR_lit (opre (ah ++ t.lab) (pick true t.prs))
      rw [hlit]
      have HL := Lib.hid hlit
      have hb4 := bx_ext H2.out.1 f4
      have H4 : Hid (_ ∧ Ext w x4) := Lib.hid ⟨hb4, Ext.trans H2.out.2.2 f4⟩
      have hrl4 := heap_lt hb4
      clear c0 c1 cf
      obtain ⟨c0, c1⟩ := bx_cells hb4
      have cf := bx_free hb4
      clear f4 hb4 hlit
      go_simp
      repeat' (first | go_skip | go_guarded | go_step)
      (try simp only [Exit.inBlock, Exit.then])
      refine bodyPost_ret_by (results_ct rfl _ _ _ _ _ _ _ rfl (heap_set (heap_set H4.out.1 0 _) 1 _) Try.underlying29 rfl (by kernel_rfl)) rfl ?_
      refine ⟨?_, (H4.out.2.setCell HA.out.2.2.2.2 _).setCell HA.out.2.2.2.2 _⟩
      rw [HN.out, if_pos rfl, opre_opre, HL.out]
      rfl
    | false =>
      obtain ⟨c0, c1⟩ := bx_cells H2.out.1
      have cf := bx_free H2.out.1
      go_simp
      repeat' (first | go_skip | go_guarded | go_step)
      (try simp only [Exit.inBlock, Exit.then])
      refine bodyPost_ret_by (results_ct rfl _ _ _ _ _ _ _ rfl (heap_set (heap_set H2.out.1 0 _) 1 _) Try.underlying29 rfl (by kernel_rfl)) rfl ?_
      refine ⟨?_, (H2.out.2.2.setCell HA.out.2.2.2.2 _).setCell HA.out.2.2.2.2 _⟩
      rw [HN.out, if_neg (by simp)]
      rfl
end Go.Proofs.Ytaehdkgmkjhmgaa
