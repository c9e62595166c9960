/- Contract: who is near a key below a node. -/
import Derived.Test.YtaehdkgmkjhmgaaYf
namespace Go.Proofs.Ytaehdkgmkjhmgaa
open Go.RowKit Go.QS
set_option linter.unusedVariables false

set_option maxRecDepth 100000 in
set_option maxHeartbeats 2000000 in
theorem seek_c : ∀ (N : Nat) (w : World) (d i : Bool) (v : Value) (t : RT) (ah rest : List UInt8), RepO w v t → Kd N t.kids → ah.length + t.lab.length + N ≤ 1000 → rest.length ≤ 1000 →
    Calls Try.prog 70 #[edg d i, v, str ah, str rest] w fun e w' => e = .returned (optR (opre (ah ++ t.lab) (nearL d i rest t.prs))) ∧ Ext w w' := by
  intro N
  induction N using Nat.strongRecOn with
  | ind N ih =>
  intro w d i v t ah rest h hk hl hrl
  have H := Lib.hid h
  have HK := Lib.hid hk
  obtain ⟨key, hkey⟩ : ∃ key, key = ah ++ t.lab := ⟨_, rfl⟩
  rw [← hkey]
  have hkl : key.length + N ≤ 1000 := by rw [hkey, List.length_append]; exact hl
  have hclt : (9223372036854775807 < ah.length + t.lab.length) = False := by simp; omega
  have hclm : (maxLen < ah.length + t.lab.length) = False := by unfold maxLen; simp; omega
  have hcat : bs ah ++ bs t.lab = bs key := by rw [bs_append, hkey]
  have hk9 := hk.len
  have HKID : Hid (∀ (x : World) (p : Nat) (k : RT), Rep NT x p k → Br N k → Calls Try.prog 90 #[edg d i, ptr p, str key, str rest] x fun e w' => e = .returned (optR (opre key (nearL d i rest (pre k.lab k.prs)))) ∧ Ext x w') := Lib.hid fun x p k hr hb => by
    have h1 := hb.2.1
    have h2 : 0 < k.lab.length := List.length_pos_iff.2 hb.1
    exact kid_c x d i p k key rest N hr hb hkl hrl fun y hy => ih (N - k.lab.length) (by omega) y d i (ptr p) k key _ (.of (hr.ext hy)) hb.2.2.2 (by omega) (by rw [List.length_drop]; omega)
  clear ih h hk hkey
  go_enter Try.func70, Try.ntmps70
  repeat' (first | go_at_call 62 | go_skip | go_guarded | go_step)
  obtain ⟨wb, hwb⟩ : ∃ wb, wb = w.alloc (.cells #[.bool d, .bool i] ET) := ⟨_, rfl⟩
  obtain ⟨gb, hgb⟩ : ∃ gb, gb = w.heap.size := ⟨_, rfl⟩
  have hEb : Ext w wb := by rw [hwb]; exact (Ext.refl w).alloc (Nat.le_refl _) _
  have hbb := heap_new w (.cells #[.bool d, .bool i] ET)
  have hsb : w.heap.size + 1 = wb.heap.size := by rw [hwb]; simp
  rw [← hwb, ← hgb] at hbb
  rw [← hwb, hsb, ← hgb]
  obtain ⟨wa, hwa⟩ : ∃ wa, wa = wb.alloc zp := ⟨_, rfl⟩
  obtain ⟨rb, hrb⟩ : ∃ rb, rb = wb.heap.size := ⟨_, rfl⟩
  have hEa : Ext wb wa := by rw [hwa]; exact (Ext.refl wb).alloc (Nat.le_refl _) _
  have hba := heap_new wb zp
  rw [← hwa, ← hrb] at hba
  have hwa' : wb.alloc (.cells #[.string ⟨#[]⟩, .string ⟨#[]⟩] 29) = wa := hwa.symm
  rw [hwa', ← hrb]
  have HA : Hid (wa.heap[rb]? = some (.cells #[.string ⟨#[]⟩, .string ⟨#[]⟩] 29 (0, 0)) ∧ Ext w wb ∧ Ext wb wa ∧ w.heap.size ≤ rb) := Lib.hid ⟨hba, hEb, hEa, by have := hEb.size; omega⟩
  have HGB := Lib.hid hbb
  have hgr : gb ≠ rb := by have := heap_lt hbb; omega
  clear hwb hgb hEb hbb hsb hwa hrb hEa hba hwa'
  refine (labelO_c wa v t (H.out.ext (Ext.trans HA.out.2.1 HA.out.2.2.1))).mono ?_
  rintro e x1 ⟨rfl, rfl⟩
  go_simp
  repeat' (first | go_at_call 63 | go_skip | go_guarded | go_step)
  refine (valueO_c wa v t (H.out.ext (Ext.trans HA.out.2.1 HA.out.2.2.1))).mono ?_
  rintro e x2 ⟨rfl, f2⟩
  have H2 := Lib.hid f2
  clear f2
  go_simp
  repeat' (go_not_at_region 4; (first | go_skip | go_guarded | go_step))
  obtain ⟨ob, hob⟩ : ∃ ob, ob = x2.heap.size := ⟨_, rfl⟩
  obtain ⟨x3, hx3⟩ : ∃ x3, x3 = x2.alloc (.cells #[str key, str (t.val.getD [])] 29) := ⟨_, rfl⟩
  have hx3' : x2.alloc (.cells #[Value.string (bs key), Value.string (bs (t.val.getD []))] 29) = x3 := hx3.symm
  have E23 : Ext x2 x3 := by rw [hx3]; exact (Ext.refl x2).alloc (Nat.le_refl _) _
  have hbo : x3.heap[ob]? = some (.cells #[str key, str (t.val.getD [])] 29 (0, 0)) := by
    rw [hx3, hob]; exact heap_new x2 _
  rw [← hob, hx3']
  have hbr : x3.heap[rb]? = some (.cells #[.string ⟨#[]⟩, .string ⟨#[]⟩] 29 (0, 0)) := bx_ext HA.out.1 (Ext.trans H2.out E23)
  have hne : ob ≠ rb := by have := heap_lt (bx_ext HA.out.1 H2.out); omega
  have H3 : Hid (Ext w x3 ∧ w.heap.size ≤ rb) := Lib.hid ⟨Ext.trans HA.out.2.1 (Ext.trans HA.out.2.2.1 (Ext.trans H2.out E23)), HA.out.2.2.2⟩
  have hg3 := bx_ext HGB.out (Ext.trans HA.out.2.2.1 (Ext.trans H2.out E23))
  have HC : Hid (∀ x : World, Ext x3 x → (x.cell? ⟨gb, 0, none⟩ = some (.bool d) ∧ x.cell? ⟨gb, 1, none⟩ = some (.bool i)) ∧ (x.cell? ⟨ob, 0, none⟩ = some (str key) ∧ x.cell? ⟨ob, 1, none⟩ = some (str (t.val.getD [])))) := Lib.hid fun x hx => ⟨bx_cells (bx_ext hg3 hx), bx_cells (bx_ext hbo hx)⟩
  have HR : Hid (∀ x : World, Ext x3 x → x.heap[rb]? = some (.cells #[.string ⟨#[]⟩, .string ⟨#[]⟩] 29 (0, 0))) := Lib.hid fun x hx => bx_ext hbr hx
  have hgbl := heap_lt hg3
  have hobl := heap_lt hbo
  have hrbl := heap_lt hbr
  clear hx3 hx3' E23 hbo hob hbr hg3 HGB H2
  obtain ⟨has, hhas⟩ : ∃ has, has = t.val.isSome := ⟨_, rfl⟩
  obtain ⟨val, hval⟩ : ∃ val, val = t.val.getD [] := ⟨_, rfl⟩
  rw [← hhas, ← hval]
  rw [← hval] at HC
  obtain ⟨q, hq⟩ : ∃ q, q = (decide (rest = []) && has && i) := ⟨_, rfl⟩
  have HQ := Lib.hid hq
  have HV : Hid (has = t.val.isSome ∧ val = t.val.getD []) := Lib.hid ⟨hhas, hval⟩
  clear hq hhas hval
  go_cut [41] (fun v41 wx => Hid (v41 = .bool q ∧ x3 = wx))
  case first => as_aux_lemma =>
    obtain ⟨⟨b0, b1⟩, _, _⟩ := HC.out x3 (Ext.refl _)
    cases rest with
    | cons c r =>
      have hq : q = false := by rw [HQ.out]; simp
      subst hq
      repeat' (first | go_skip | go_guarded | go_step)
      go_meet
      exact Lib.hid ⟨rfl, rfl⟩
    | nil =>
      cases has with
      | false =>
        have hq : q = false := by rw [HQ.out]; simp
        subst hq
        repeat' (first | go_skip | go_guarded | go_step)
        go_meet
        exact Lib.hid ⟨rfl, rfl⟩
      | true =>
        have hq : q = i := by rw [HQ.out]; simp
        subst hq
        repeat' (first | go_skip | go_guarded | go_step)
        go_meet
        exact Lib.hid ⟨rfl, rfl⟩
  case rest =>
  obtain ⟨hv41, hwx⟩ := hcut.out
  subst hv41 hwx
  clear hcut
  obtain ⟨⟨b0, b1⟩, o0, o1⟩ := HC.out x3 (Ext.refl _)
  cases q with
  | true =>
    obtain ⟨c0, c1⟩ := bx_cells (HR.out x3 (Ext.refl _))
    have cf := bx_free (HR.out x3 (Ext.refl _))
    repeat' (first | go_skip | go_guarded | go_step)
    (try simp only [Exit.inBlock, Exit.then])
    refine bodyPost_ret_by (results_ct rfl _ _ _ _ _ _ _ rfl (heap_set (heap_set (HR.out x3 (Ext.refl _)) 0 _) 1 _) Try.underlying29 rfl (by kernel_rfl)) rfl ?_
    refine ⟨?_, (H3.out.1.setCell H3.out.2 _).setCell H3.out.2 _⟩
    have hq := HQ.out.symm
    simp only [Bool.and_eq_true, decide_eq_true_eq] at hq
    obtain ⟨⟨h1, h2⟩, h3⟩ := hq
    rw [HV.out.1] at h2
    obtain ⟨u, hu⟩ := Option.isSome_iff_exists.1 h2
    rw [h1, h3, near_itself HK.out hu, HV.out.2, hu]
    simp [opre, optR]
  | false =>
    have hnode := near_node (d := d) (i := i) (t := t) (key := rest) HK.out (by
      have hq := HQ.out
      rintro ⟨h1, h2, h3⟩
      rw [HV.out.1, h1, h2, h3] at hq
      simp at hq)
    have HN := Lib.hid hnode
    clear hnode
    repeat' (first | go_at_call 72 | go_skip | go_guarded | go_step)
    refine (kidsO_c x3 v t N (H.out.ext H3.out.1) HK.out).mono ?_
    rintro e x4 ⟨A, C, ps, rfl, hs, hr, f4⟩
    have hm9 : ps.length ≤ 256 := by have := hr.1; omega
    obtain ⟨m, hm⟩ : ∃ m, m = ps.length := ⟨_, rfl⟩
    have H4 : Hid (Ext x3 x4 ∧ Seg x4 A (ptrs ps) ∧ Reps NT x4 ps t.kids ∧ m = ps.length) := Lib.hid ⟨f4, hs, hr, hm⟩
    rw [← hm] at hm9 ⊢
    clear f4 hs hr hm b0 b1 o0 o1
    obtain ⟨⟨b0, b1⟩, o0, o1⟩ := HC.out x4 H4.out.1
    have hgbl4 := Nat.lt_of_lt_of_le hgbl H4.out.1.size
    go_simp
    repeat' (go_not_at_region 7; (first | go_skip | go_guarded | go_step))
    cases d with
    | true =>
      repeat' (go_not_at_region 9; (first | go_skip | go_guarded | go_step))
      go_loopg [14] m (fun gk v14 wr => ∃ (j : Nat) (z : Int), v14 = .int .i64 z ∧ z = (j : Int) - 1 ∧ j ≤ m ∧ j ≤ gk ∧ Hid (Ext x4 wr ∧ nearL true i rest (belows t.kids) = nearL true i rest (belows (t.kids.take j))))
      case atStart => exact ⟨m, _, rfl, by go_num, Nat.le_refl _, Nat.le_refl _, Lib.hid ⟨Ext.refl _, by rw [List.take_of_length_le (by have := H4.out.2.2.1.1; have := H4.out.2.2.2; omega)]⟩⟩
      case round =>
        obtain ⟨j, z, rfl, hz, hjm, hgk, HI⟩ := hrel
        have hEw : Ext x3 wr := Ext.trans H4.out.1 HI.out.1
        clear b0 b1 o0 o1
        obtain ⟨⟨b0, b1⟩, o0, o1⟩ := HC.out wr hEw
        have hgblw := Nat.lt_of_lt_of_le hgbl hEw.size
        cases j with
        | zero =>
          obtain rfl : z = -1 := by omega
          clear hz
          cases has with
          | false =>
            have HOD : ownDown rest t = none := by
              have := HV.out.1
              unfold ownDown
              cases hv : t.val with
              | none => simp
              | some u => rw [hv] at this; cases this
            repeat' (first | go_at_call 91 | go_skip | go_guarded | go_step)
            refine (least_c wr true i (key, val) false).mono ?_
            rintro e x5 ⟨rfl, f5⟩
            simp only [optR, Bool.false_eq_true, if_false]
            have hb5 := bx_ext (HR.out wr hEw) f5
            have H5 : Hid (_ ∧ Ext w x5) := Lib.hid ⟨hb5, Ext.trans H3.out.1 (Ext.trans hEw f5)⟩
            obtain ⟨c0, c1⟩ := bx_cells hb5
            have cf := bx_free hb5
            have hrl5 := heap_lt hb5
            clear f5 hb5 b0 b1 o0 o1
            go_simp
            repeat' (first | go_skip | go_guarded | go_step)
            (try simp only [Exit.inBlock, Exit.then])
            refine bodyPost_ret_by (results_ct rfl _ _ _ _ _ _ _ rfl (heap_set (heap_set H5.out.1 0 _) 1 _) Try.underlying29 rfl (by kernel_rfl)) rfl ?_
            refine ⟨?_, (H5.out.2.setCell H3.out.2 _).setCell H3.out.2 _⟩
            rw [HN.out, if_pos rfl, HI.out.2, HOD]
            simp [belows_nil, nearL_nil, opre, optR]
          | true =>
            have HOS : t.val = some val := by
              have h1 := HV.out.1
              have h2 := HV.out.2
              cases hv : t.val with
              | none => rw [hv] at h1; cases h1
              | some u => rw [hv] at h2; rw [h2]; rfl
            cases rest with
            | nil =>
              have HOD : ownDown [] t = none := rfl
              repeat' (first | go_at_call 91 | go_skip | go_guarded | go_step)
              refine (least_c wr true i (key, val) false).mono ?_
              rintro e x5 ⟨rfl, f5⟩
              simp only [optR, Bool.false_eq_true, if_false]
              have hb5 := bx_ext (HR.out wr hEw) f5
              have H5 : Hid (_ ∧ Ext w x5) := Lib.hid ⟨hb5, Ext.trans H3.out.1 (Ext.trans hEw f5)⟩
              obtain ⟨c0, c1⟩ := bx_cells hb5
              have cf := bx_free hb5
              have hrl5 := heap_lt hb5
              clear f5 hb5 b0 b1 o0 o1
              go_simp
              repeat' (first | go_skip | go_guarded | go_step)
              (try simp only [Exit.inBlock, Exit.then])
              refine bodyPost_ret_by (results_ct rfl _ _ _ _ _ _ _ rfl (heap_set (heap_set H5.out.1 0 _) 1 _) Try.underlying29 rfl (by kernel_rfl)) rfl ?_
              refine ⟨?_, (H5.out.2.setCell H3.out.2 _).setCell H3.out.2 _⟩
              rw [HN.out, if_pos rfl, HI.out.2, HOD]
              simp [belows_nil, nearL_nil, opre, optR]
            | cons c r =>
              have HOD : ownDown (c :: r) t = some ([], val) := by unfold ownDown; rw [if_neg (by simp), HOS]; rfl
              repeat' (first | go_at_call 91 | go_skip | go_guarded | go_step)
              refine (least_c wr true i (key, val) true).mono ?_
              rintro e x5 ⟨rfl, f5⟩
              simp only [optR, if_true]
              have hb5 := bx_ext (HR.out wr hEw) f5
              have H5 : Hid (_ ∧ Ext w x5) := Lib.hid ⟨hb5, Ext.trans H3.out.1 (Ext.trans hEw f5)⟩
              obtain ⟨c0, c1⟩ := bx_cells hb5
              have cf := bx_free hb5
              have hrl5 := heap_lt hb5
              clear f5 hb5 b0 b1 o0 o1
              go_simp
              repeat' (first | go_skip | go_guarded | go_step)
              (try simp only [Exit.inBlock, Exit.then])
              refine bodyPost_ret_by (results_ct rfl _ _ _ _ _ _ _ rfl (heap_set (heap_set H5.out.1 0 _) 1 _) Try.underlying29 rfl (by kernel_rfl)) rfl ?_
              refine ⟨?_, (H5.out.2.setCell H3.out.2 _).setCell H3.out.2 _⟩
              rw [HN.out, if_pos rfl, HI.out.2, HOD]
              simp [belows_nil, nearL_nil, opre, optR]
        | succ j =>
          obtain rfl : z = (j : Int) := by omega
          clear hz
          obtain ⟨p, hp⟩ := get_of_lt ps (show j < ps.length by have := H4.out.2.2.2; omega)
          obtain ⟨k, hkk⟩ := get_of_lt t.kids (show j < t.kids.length by have := H4.out.2.2.2; have := H4.out.2.2.1.1; omega)
          obtain ⟨b, o, rfl, hcl⟩ := (Seg.below H4.out.2.1 HI.out.1) (fun e => by have := ptrs_get hp; rw [e] at this; simp at this)
          have hq := hcl j _ (ptrs_get hp)
          have hi1 : (j : Int) < (m : Int) := by omega
          have hi0 : (0 : Int) ≤ (j : Int) := by omega
          have d1 : decide ((0 : Int) ≤ (j : Int)) = true := by simp
          have HKK : Hid (t.kids[j]? = some k) := Lib.hid hkk
          have HKC : Hid (∀ x, Ext wr x → Calls Try.prog 90 #[edg true i, ptr p, str key, str rest] x fun e w' => e = .returned (optR (opre key (nearL true i rest (pre k.lab k.prs)))) ∧ Ext x w') :=
            Lib.hid fun x hx => HKID.out x p k ((H4.out.2.2.1.2 j p k hp hkk).ext (Ext.trans HI.out.1 hx)) (HK.out.br (List.mem_of_getElem? hkk))
          have hEE : Ext wr wr := Ext.refl _
          have hbl : b < wr.heap.size := World.block_lt_of_cell? wr _ hq
          clear hcl hp hkk
          have hEA : Ext wr (wr.alloc zp).drew := ((Ext.refl wr).alloc (Nat.le_refl _) _).drew
          have hna : (wr.alloc zp).drew.heap[wr.heap.size]? = some (.cells #[.string ⟨#[]⟩, .string ⟨#[]⟩] 29 (0, 0)) := heap_new wr zp
          have HNB : Hid (∀ x, Ext (wr.alloc zp).drew x → x.heap[wr.heap.size]? = some (.cells #[.string ⟨#[]⟩, .string ⟨#[]⟩] 29 (0, 0))) := Lib.hid fun x hx => bx_ext hna hx
          have hrw : ¬ wr.heap.size = rb := by have := Nat.lt_of_lt_of_le hrbl hEw.size; omega
          have hrw2 : ¬ rb = wr.heap.size := fun e => hrw e.symm
          clear hna
          cases hres : nearL true i rest (pre k.lab k.prs) with
          | none =>
            rw [hres] at HKC
            have HRES := Lib.hid hres
            clear hres
            repeat' (go_not_at_region 11; (first | go_skip | go_guarded | go_step))
            go_region_with (first
              | (go_at_call 90; refine (HKC.out _ (by first | exact hEE.drew | exact hEE)).mono ?_; rintro e x5 ⟨rfl, f5⟩; simp only [opre, Option.map_none, optR]; have f6 : Ext wr x5 := (by first | exact Ext.trans hEE.drew f5 | exact f5))
              | (go_at_call 90; refine (HKC.out _ hEA).mono ?_; rintro e x5 ⟨rfl, f5⟩; simp only [opre, Option.map_none, optR]; have f6 : Ext wr x5 := Ext.trans hEA f5; obtain ⟨n0, n1⟩ := bx_cells (HNB.out x5 f5); have nf := bx_free (HNB.out x5 f5)))
            all_goals
              have H6 := Lib.hid f6
              clear f5 f6 b0 b1 o0 o1
              repeat' (first | go_skip | go_guarded | go_step)
              go_roundg j
              case measure => omega
              case rel =>
                refine ⟨j, _, rfl, by go_num, by omega, Nat.le_refl _, Lib.hid ⟨Ext.trans HI.out.1 (by first | exact H6.out.alloc H6.out.size _ | exact (H6.out.setCell (Nat.le_refl _) _).setCell (Nat.le_refl _) _), ?_⟩⟩
                rw [HI.out.2, near_down HKK.out, HRES.out]; rfl
          | some q =>
            rw [hres] at HKC
            have HRES := Lib.hid hres
            clear hres
            repeat' (go_not_at_region 11; (first | go_skip | go_guarded | go_step))
            go_region_with (first
              | (go_at_call 90; refine (HKC.out _ (by first | exact hEE.drew | exact hEE)).mono ?_; rintro e x5 ⟨rfl, f5⟩; simp only [opre, Option.map_some, optR]; have f6 : Ext wr x5 := (by first | exact Ext.trans hEE.drew f5 | exact f5))
              | (go_at_call 90; refine (HKC.out _ hEA).mono ?_; rintro e x5 ⟨rfl, f5⟩; simp only [opre, Option.map_some, optR]; have f6 : Ext wr x5 := Ext.trans hEA f5; obtain ⟨n0, n1⟩ := bx_cells (HNB.out x5 f5); have nf := bx_free (HNB.out x5 f5)))
            all_goals
              have H6 := Lib.hid f6
              obtain ⟨c0, c1⟩ := bx_cells (HR.out x5 (Ext.trans hEw f6))
              have cf := bx_free (HR.out x5 (Ext.trans hEw f6))
              have hrl5 := Nat.lt_of_lt_of_le hrbl (Ext.trans hEw f6).size
              have hnl5 := f6.size
              clear f5 f6 b0 b1 o0 o1
              repeat' (first | go_skip | go_guarded | go_step)
              (try simp only [Exit.inBlock, Exit.then])
              first
                | (have hn0 := n0
                   have hy := (H6.out.setCell (p := ⟨wr.heap.size, 0, none⟩) (Nat.le_refl _) (.string (bs (key ++ q.1)))).setCell (p := ⟨wr.heap.size, 1, none⟩) (Nat.le_refl _) (.string (bs q.2))
                   refine bodyPost_ret_by (results_ct rfl _ _ _ _ _ _ _ rfl (heap_set (heap_set (HR.out _ (Ext.trans hEw hy)) 0 _) 1 _) Try.underlying29 rfl (by kernel_rfl)) rfl ?_
                   refine ⟨?_, ((Ext.trans H3.out.1 (Ext.trans hEw hy)).setCell H3.out.2 _).setCell H3.out.2 _⟩)
                | (refine bodyPost_ret_by (results_ct rfl _ _ _ _ _ _ _ rfl (bx_ext (heap_set (heap_set (HR.out x5 (Ext.trans hEw H6.out)) 0 _) 1 _) ((Ext.refl _).alloc (Nat.le_refl _) _)) Try.underlying29 rfl (by kernel_rfl)) rfl ?_
                   refine ⟨?_, Ext.trans (((Ext.trans H3.out.1 (Ext.trans hEw H6.out)).setCell H3.out.2 _).setCell H3.out.2 _) ((Ext.refl _).alloc (Nat.le_refl _) _)⟩)
              rw [HN.out, if_pos (by simp), HI.out.2, near_down HKK.out, HRES.out]
              rfl
    | false =>
      repeat' (go_not_at_region 16; (first | go_skip | go_guarded | go_step))
      go_loopg [79] m (fun gk v79 wr => ∃ j : Nat, v79 = .int .i64 j ∧ j ≤ m ∧ m - j ≤ gk ∧ Hid (Ext x4 wr ∧ nearL false i rest (belows t.kids) = nearL false i rest (belows (t.kids.drop j))))
      case atStart => exact ⟨0, rfl, Nat.zero_le _, by omega, Lib.hid ⟨Ext.refl _, rfl⟩⟩
      case round =>
        obtain ⟨j, rfl, hjm, hgk, HI⟩ := hrel
        have hEw : Ext x3 wr := Ext.trans H4.out.1 HI.out.1
        clear b0 b1 o0 o1
        obtain ⟨⟨b0, b1⟩, o0, o1⟩ := HC.out wr hEw
        have hgblw := Nat.lt_of_lt_of_le hgbl hEw.size
        rcases Nat.lt_or_ge j m with hlt | hge
        · have d1 : decide (j < m) = true := by simp [hlt]
          obtain ⟨p, hp⟩ := get_of_lt ps (show j < ps.length by have := H4.out.2.2.2; omega)
          obtain ⟨k, hkk⟩ := get_of_lt t.kids (show j < t.kids.length by have := H4.out.2.2.2; have := H4.out.2.2.1.1; omega)
          obtain ⟨b, o, rfl, hcl⟩ := (Seg.below H4.out.2.1 HI.out.1) (fun e => by have := ptrs_get hp; rw [e] at this; simp at this)
          have hq := hcl j _ (ptrs_get hp)
          have hi1 : (j : Int) < (m : Int) := by omega
          have HKK : Hid (t.kids[j]? = some k) := Lib.hid hkk
          have HKC := Lib.hid (HKID.out wr p k ((H4.out.2.2.1.2 j p k hp hkk).ext HI.out.1) (HK.out.br (List.mem_of_getElem? hkk)))
          clear hcl hp hkk
          repeat' (first | go_at_call 90 | go_skip | go_guarded | go_step)
          refine HKC.out.mono ?_
          rintro e x5 ⟨rfl, f5⟩
          have H6 := Lib.hid f5
          obtain ⟨c0, c1⟩ := bx_cells (HR.out x5 (Ext.trans hEw f5))
          have cf := bx_free (HR.out x5 (Ext.trans hEw f5))
          have hrl5 := Nat.lt_of_lt_of_le hrbl (Ext.trans hEw f5).size
          clear f5 b0 b1 o0 o1
          cases hres : nearL false i rest (pre k.lab k.prs) with
          | none =>
            have HRES := Lib.hid hres
            clear hres
            simp only [opre, Option.map_none, optR]
            go_simp
            repeat' (first | go_skip | go_guarded | go_step)
            go_roundg (m - (j + 1))
            case measure => omega
            case rel =>
              refine ⟨j + 1, by go_num, by omega, Nat.le_refl _, Lib.hid ⟨Ext.trans HI.out.1 (H6.out.alloc H6.out.size _), ?_⟩⟩
              rw [HI.out.2, near_up HKK.out, HRES.out]; rfl
          | some q =>
            have HRES := Lib.hid hres
            clear hres
            simp only [opre, Option.map_some, optR]
            go_simp
            repeat' (first | go_skip | go_guarded | go_step)
            (try simp only [Exit.inBlock, Exit.then])
            refine bodyPost_ret_by (results_ct rfl _ _ _ _ _ _ _ rfl (bx_ext (heap_set (heap_set (HR.out x5 (Ext.trans hEw H6.out)) 0 _) 1 _) ((Ext.refl _).alloc (Nat.le_refl _) _)) Try.underlying29 rfl (by kernel_rfl)) rfl ?_
            refine ⟨?_, Ext.trans (((Ext.trans H3.out.1 (Ext.trans hEw H6.out)).setCell H3.out.2 _).setCell H3.out.2 _) ((Ext.refl _).alloc (Nat.le_refl _) _)⟩
            rw [HN.out, if_neg (by simp), HI.out.2, near_up HKK.out, HRES.out]
            rfl
        · obtain rfl : j = m := by omega
          have d1 : decide (j < j) = false := by simp
          obtain ⟨c0, c1⟩ := bx_cells (HR.out wr hEw)
          have cf := bx_free (HR.out wr hEw)
          repeat' (first | go_skip | go_guarded | go_step)
          (try simp only [Exit.inBlock, Exit.then])
          refine bodyPost_ret_by (results_ct rfl _ _ _ _ _ _ _ rfl (heap_set (heap_set (HR.out wr hEw) 0 _) 1 _) Try.underlying29 rfl (by kernel_rfl)) rfl ?_
          refine ⟨?_, ((Ext.trans H3.out.1 hEw).setCell H3.out.2 _).setCell H3.out.2 _⟩
          rw [HN.out, if_neg (by simp), HI.out.2, List.drop_of_length_le (by have := H4.out.2.2.2; have := H4.out.2.2.1.1; omega), belows_nil, nearL_nil]
          rfl
end Go.Proofs.Ytaehdkgmkjhmgaa
