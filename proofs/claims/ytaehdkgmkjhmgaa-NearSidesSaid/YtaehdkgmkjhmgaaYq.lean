/- Contract: the longest key that a key begins with. -/
import Derived.Test.YtaehdkgmkjhmgaaYp
import Derived.Test.YtaehdkgmkjhmgaaYf
namespace Go.Proofs.Ytaehdkgmkjhmgaa
open Go.RowKit Go.QS
set_option linter.unusedVariables false

/-- The cells of what was handed back. -/
def BoxP (w : World) (g : Nat) (c : Bool) (o : Option Pr) : Prop :=
  ∃ a b, w.heap[g]? = some (.cells #[str a, str b] 29 (0, 0)) ∧ optR o = .tuple #[.agg #[str a, str b], .bool c]
theorem BoxP.ext {w w' : World} {g : Nat} {c : Bool} {o : Option Pr} (h : BoxP w g c o) (f : Ext w w') : BoxP w' g c o := by
  obtain ⟨a, b, h, e⟩ := h
  exact ⟨a, b, bx_ext h f, e⟩

/-- From a node on: what is still to come, and what is the best so far. -/
theorem long_step {N : Nat} {t : RT} (r : List UInt8) (a : List UInt8) (best : Option Pr) :
    (opre a (longL r t.prs)).or best = (opre a (longL r (belows t.kids))).or ((t.val.map fun v => (a, v)).or best) := by
  rw [longL_node, opre_or, Option.or_assoc]
  congr 2
  cases t.val <;> simp [opre]

/-- A node's kids, known in an elder world. -/
theorem kidsR_c (w0 w : World) (g : Nat) (t : RT) (N : Nat) (r : Rep NT w0 g t) (f : Ext w0 w) (hk : Kd N t.kids) : Calls Try.prog 72 #[ptr g] w fun e w' => ∃ A C ps, e = .returned (.slice A ps.length C) ∧ Seg w' A (ptrs ps) ∧ Reps NT w0 ps t.kids ∧ Ext w w' := by
  obtain ⟨kv, ow, ps, nd, sl, rp⟩ := r.open
  have hl := hk.len
  refine (kids_c w g kv ps (nd.ext f).cells.2.2.2.1 (sl.below f) (by have := rp.1; omega)).mono ?_
  rintro e w1 ⟨v1, rfl, r1, f1⟩
  obtain ⟨A, C, rfl, _, _, _, hs⟩ := (Sl.of_own r1 : Sl w1 1 v1 ps.length (ptrs ps))
  exact ⟨A, C, ps, rfl, hs, rp, f1⟩

set_option maxRecDepth 100000 in
set_option maxHeartbeats 2000000 in
theorem longest_c (w : World) (v : Value) (t : RT) (N : Nat) (key : List UInt8) (h : RepO w v t) (hk : Kd N t.kids) (hlab : t.lab = []) (hN : N ≤ 1000) (hkey : key.length ≤ 1000) :
    Calls Try.prog 41 #[v, str key] w fun e w' => e = .returned (optR (longL key t.prs)) ∧ Ext w w' := by
  have H := Lib.hid h
  have HK := Lib.hid hk
  clear h hk
  go_enter Try.func41, Try.ntmps41
  repeat' (go_not_at_region 3; (first | go_skip | go_guarded | go_step))
  obtain ⟨wb, hwb⟩ : ∃ wb, wb = w.alloc zp := ⟨_, rfl⟩
  obtain ⟨rb, hrb⟩ : ∃ rb, rb = w.heap.size := ⟨_, rfl⟩
  have hEb : Ext w wb := by rw [hwb]; exact (Ext.refl w).alloc (Nat.le_refl _) _
  have hbb := heap_new w zp
  have hsb : w.heap.size + 1 = wb.heap.size := by rw [hwb]; simp
  have hwb' : w.alloc (.cells #[.string ⟨#[]⟩, .string ⟨#[]⟩] 29) = wb := hwb.symm
  rw [← hwb, ← hrb] at hbb
  rw [hwb', hsb, ← hrb]
  obtain ⟨wa, hwa⟩ : ∃ wa, wa = wb.alloc zp := ⟨_, rfl⟩
  obtain ⟨pb, hpb⟩ : ∃ pb, pb = wb.heap.size := ⟨_, rfl⟩
  have hEa : Ext wb wa := by rw [hwa]; exact (Ext.refl wb).alloc (Nat.le_refl _) _
  have hba := heap_new wb zp
  rw [← hwa, ← hpb] at hba
  have hwa' : wb.alloc (.cells #[.string ⟨#[]⟩, .string ⟨#[]⟩] 29) = wa := hwa.symm
  rw [hwa', ← hpb]
  have hne : ¬ rb = pb := by have := heap_lt hbb; omega
  have hne2 : ¬ pb = rb := fun e => hne e.symm
  have hpl : wb.heap.size ≤ pb := by omega
  have hrl : w.heap.size ≤ rb := by omega
  have HA : Hid (Ext w wb ∧ (∀ x : World, Ext wb x → x.heap[rb]? = some (.cells #[.string ⟨#[]⟩, .string ⟨#[]⟩] 29 (0, 0))) ∧ Ext wb wa ∧ BoxP wa pb false none) := Lib.hid ⟨hEb, fun x hx => bx_ext hbb hx, hEa, [], [], hba, rfl⟩
  have hrbl := heap_lt hbb
  clear hwb hrb hEb hbb hsb hwb' hwa hpb hEa hba hwa'
  repeat' (go_not_at_region 4; (first | go_skip | go_guarded | go_step))
  go_loopg [7, 8, 9, 10] (N + 2) (fun gk v7 v8 v9 v10 wr => ∃ (c : Bool) (best : Option Pr) (a r : List UInt8), v7 = .bool c ∧ v9 = str a ∧ v10 = str r ∧ r.length ≤ 1000 ∧ Hid (Ext wb wr ∧ BoxP wr pb c best) ∧
    ((v8 = .pointer none ∧ Hid (longL key t.prs = best)) ∨ (∃ (g : Nat) (s : RT) (M : Nat), v8 = ptr g ∧ M + 1 ≤ gk ∧ a.length + M ≤ 1000 ∧ Hid (Rep NT w g s ∧ Kd M s.kids ∧ longL key t.prs = (opre a (longL r s.prs)).or best))))
  case atStart =>
    refine ⟨false, none, [], key, rfl, rfl, rfl, hkey, Lib.hid ⟨HA.out.2.2.1, HA.out.2.2.2⟩, ?_⟩
    rcases H.out with ⟨rfl, ht⟩ | ⟨g, rfl, hr⟩
    · exact .inl ⟨rfl, Lib.hid (by rw [ht]; rfl)⟩
    · refine .inr ⟨g, t, N, rfl, by omega, by simpa using hN, Lib.hid ⟨hr, HK.out, ?_⟩⟩
      cases longL key t.prs <;> simp [opre]
  case round =>
    obtain ⟨c, best, a, r, rfl, rfl, rfl, hr9, HI, hcase⟩ := hrel
    rcases hcase with ⟨rfl, HB⟩ | ⟨g, s, M, rfl, hMg, haM, HS⟩
    · obtain ⟨xa, xb, hbx, hlit⟩ := HI.out.2
      obtain ⟨p0, p1⟩ := bx_cells hbx
      have hrx := HA.out.2.1 wr HI.out.1
      obtain ⟨c0, c1⟩ := bx_cells hrx
      have cf := bx_free hrx
      have HL := Lib.hid hlit
      have HRX := Lib.hid hrx
      clear hbx hlit hrx
      repeat' (first | go_skip | go_guarded | go_step)
      (try simp only [Exit.inBlock, Exit.then])
      refine bodyPost_ret_by (results_ct rfl _ _ _ _ _ _ _ rfl (heap_set (heap_set HRX.out 0 _) 1 _) Try.underlying29 rfl (by kernel_rfl)) rfl ?_
      refine ⟨?_, ((Ext.trans HA.out.1 HI.out.1).setCell hrl _).setCell hrl _⟩
      rw [HB.out, HL.out]
      rfl
    · repeat' (first | go_at_call 63 | go_skip | go_guarded | go_step)
      refine (valueO_c wr (ptr g) s (.of (HS.out.1.ext (Ext.trans HA.out.1 HI.out.1)))).mono ?_
      rintro e w2 ⟨rfl, f2⟩
      obtain ⟨has, hhas⟩ : ∃ has, has = s.val.isSome := ⟨_, rfl⟩
      obtain ⟨val, hval⟩ : ∃ val, val = s.val.getD [] := ⟨_, rfl⟩
      rw [← hhas, ← hval]
      have HV : Hid (has = s.val.isSome ∧ val = s.val.getD []) := Lib.hid ⟨hhas, hval⟩
      have H2 : Hid (Ext wb w2 ∧ BoxP w2 pb c best) := Lib.hid ⟨Ext.trans HI.out.1 f2, HI.out.2.ext f2⟩
      clear f2 hhas hval
      go_simp
      repeat' (go_not_at_if 27; (first | go_skip | go_guarded | go_step))
      obtain ⟨best2, hbest2⟩ : ∃ best2, best2 = (s.val.map fun v => (a, v)).or best := ⟨_, rfl⟩
      have HB2 := Lib.hid hbest2
      clear hbest2
      go_cut [7] (fun v7 wx => ∃ c2 : Bool, v7 = .bool c2 ∧ Hid (Ext wb wx ∧ BoxP wx pb c2 best2))
      case first =>
        cases has with
        | false =>
          repeat' (first | go_skip | go_guarded | go_step)
          go_meet
          refine ⟨c, rfl, ?_⟩
          have : best2 = best := by
            rw [HB2.out]
            have := HV.out.1
            cases hv : s.val with
            | none => simp
            | some u => rw [hv] at this; cases this
          rw [this]
          exact H2
        | true =>
          obtain ⟨xa, xb, hbx, hlit⟩ := H2.out.2
          obtain ⟨p0, p1⟩ := bx_cells hbx
          have pf := bx_free hbx
          have HBX := Lib.hid hbx
          have hpbl := heap_lt hbx
          clear hbx hlit
          repeat' (first | go_skip | go_guarded | go_step)
          go_meet
          refine ⟨true, rfl, Lib.hid ⟨(H2.out.1.setCell hpl _).setCell hpl _, ⟨a, val, heap_set (heap_set HBX.out 0 _) 1 _, ?_⟩⟩⟩
          · have h1 := HV.out.1
            have h2 := HV.out.2
            rw [HB2.out]
            cases hv : s.val with
            | none => rw [hv] at h1; cases h1
            | some u => rw [hv] at h2; rw [h2]; rfl
      case rest =>
      obtain ⟨c2, hv7, H3⟩ := hcut
      subst hv7
      have hstep := long_step (N := M) (t := s) r a best
      rw [← HB2.out] at hstep
      have HT : Hid (longL key t.prs = (opre a (longL r (belows s.kids))).or best2) := Lib.hid (by rw [HS.out.2.2, hstep])
      clear hstep H2 HI HB2
      repeat' (first | go_at_call 72 | go_skip | go_guarded | go_step)
      refine (kidsR_c w wc g s M HS.out.1 (Ext.trans HA.out.1 H3.out.1) HS.out.2.1).mono ?_
      rintro e x4 ⟨A, C, ps, rfl, hs, hr, f4⟩
      have hm9 : ps.length ≤ 256 := by have := hr.1; have := HS.out.2.1.len; omega
      obtain ⟨m, hm⟩ : ∃ m, m = ps.length := ⟨_, rfl⟩
      have H4 : Hid (Ext wb x4 ∧ BoxP x4 pb c2 best2 ∧ Seg x4 A (ptrs ps) ∧ Reps NT w ps s.kids ∧ m = ps.length) := Lib.hid ⟨Ext.trans H3.out.1 f4, H3.out.2.ext f4, hs, hr, hm⟩
      rw [← hm] at hm9 ⊢
      clear f4 hs hr hm H3
      go_simp
      repeat' (go_not_at_region 10; (first | go_skip | go_guarded | go_step))
      go_loopg [9, 10, 13, 34] m (fun gk2 v9 v10 v13 v34 wx => ∃ j : Nat, v9 = str a ∧ v10 = str r ∧ v13 = .pointer none ∧ v34 = .int .i64 j ∧ j ≤ m ∧ m - j ≤ gk2 ∧ Hid (Ext x4 wx ∧ ∀ k ∈ s.kids.take j, begB r k.lab = false))
      case atStart => exact ⟨0, rfl, rfl, rfl, rfl, Nat.zero_le _, by omega, Lib.hid ⟨Ext.refl _, by simp⟩⟩
      case round =>
        obtain ⟨j, rfl, rfl, rfl, rfl, hjm, hgk2, HJ⟩ := hrel
        rcases Nat.lt_or_ge j m with hlt | hge
        · have d1 : decide (j < m) = true := by simp [hlt]
          obtain ⟨p, hp⟩ := get_of_lt ps (show j < ps.length by have := H4.out.2.2.2.2; omega)
          obtain ⟨k, hkk⟩ := get_of_lt s.kids (show j < s.kids.length by have := H4.out.2.2.2.2; have := H4.out.2.2.2.1.1; omega)
          obtain ⟨b, o, rfl, hcl⟩ := (Seg.below H4.out.2.2.1 HJ.out.1) (fun e => by have := ptrs_get hp; rw [e] at this; simp at this)
          have hq := hcl j _ (ptrs_get hp)
          have hi1 : (j : Int) < (m : Int) := by omega
          have hb := HS.out.2.1.br (List.mem_of_getElem? hkk)
          have hll : 0 < k.lab.length := List.length_pos_iff.2 hb.1
          have hln := hb.2.1
          have HKK : Hid (s.kids[j]? = some k ∧ Br M k ∧ Rep NT w p k) := Lib.hid ⟨hkk, hb, H4.out.2.2.2.1.2 j p k hp hkk⟩
          have HLB : Hid (∀ x, Ext wr x → True) := Lib.hid fun _ _ => trivial
          clear hcl hp hkk hb HLB
          repeat' (first | go_at_call 62 | go_skip | go_guarded | go_step)
          refine (labelO_c _ (ptr p) k (.of (HKK.out.2.2.ext (Ext.trans HA.out.1 (Ext.trans H4.out.1 HJ.out.1))))).mono ?_
          rintro e x5 ⟨rfl, rfl⟩
          go_simp
          repeat' (first | go_at_call 73 | go_skip | go_guarded | go_step)
          refine (cut_c _ r k.lab (by omega) (by omega)).mono ?_
          rintro e x6 ⟨rfl, rfl⟩
          cases hbk : begB r k.lab with
          | false =>
            have HBK := Lib.hid hbk
            clear hbk
            simp only [Bool.false_eq_true, if_false]
            go_simp
            repeat' (first | go_skip | go_guarded | go_step)
            go_roundg (m - (j + 1))
            case measure => omega
            case rel =>
              refine ⟨j + 1, rfl, rfl, rfl, by go_num, by omega, Nat.le_refl _, Lib.hid ⟨HJ.out.1, ?_⟩⟩
              intro q hq
              rw [take_snoc HKK.out.1, List.mem_append, List.mem_singleton] at hq
              rcases hq with hq | rfl
              · exact HJ.out.2 q hq
              · exact HBK.out
          | true =>
            have HBK := Lib.hid hbk
            have hble := begB_le hbk
            clear hbk
            simp only [if_true]
            have hclt : (9223372036854775807 < a.length + k.lab.length) = False := by simp; omega
            have hclm : (maxLen < a.length + k.lab.length) = False := by unfold maxLen; simp; omega
            have hcat : bs a ++ bs k.lab = bs (a ++ k.lab) := bs_append _ _
            go_simp
            repeat' (first | go_at_call 62 | go_skip | go_guarded | go_step)
            refine (labelO_c _ (ptr p) k (.of (HKK.out.2.2.ext (Ext.trans HA.out.1 (Ext.trans H4.out.1 HJ.out.1))))).mono ?_
            rintro e x5 ⟨rfl, rfl⟩
            go_simp
            repeat' (first | go_skip | go_guarded | go_step)
            go_roundg (M - k.lab.length + 1)
            case measure => omega
            case rel =>
              refine ⟨c2, best2, a ++ k.lab, r.drop k.lab.length, rfl, rfl, rfl, by rw [List.length_drop]; omega, Lib.hid ⟨Ext.trans H4.out.1 HJ.out.1, H4.out.2.1.ext HJ.out.1⟩, .inr ⟨p, k, M - k.lab.length, rfl, Nat.le_refl _, by rw [List.length_append]; omega, Lib.hid ⟨HKK.out.2.2, HKK.out.2.1.2.2.2, ?_⟩⟩⟩
              rw [HT.out, longL_kids HS.out.2.1 HKK.out.1 HBK.out, opre_opre]
        · obtain rfl : j = m := by omega
          have d1 : decide (j < j) = false := by simp
          repeat' (first | go_skip | go_guarded | go_step)
          go_roundg M
          case measure => omega
          case rel =>
            refine ⟨c2, best2, a, r, rfl, rfl, rfl, hr9, Lib.hid ⟨Ext.trans H4.out.1 HJ.out.1, H4.out.2.1.ext HJ.out.1⟩, .inl ⟨rfl, Lib.hid ?_⟩⟩
            have := HJ.out.2
            rw [List.take_of_length_le (by have := H4.out.2.2.2.2; have := H4.out.2.2.2.1.1; omega)] at this
            rw [HT.out, longL_nokid this]
            rfl
end Go.Proofs.Ytaehdkgmkjhmgaa
