/- Contract: the pair at a place in a tree. -/
import Derived.Test.YtaehdkgmkjhmgaaYq
namespace Go.Proofs.Ytaehdkgmkjhmgaa
open Go.RowKit Go.QS
set_option linter.unusedVariables false

theorem pre_get (a : List UInt8) (x : List Pr) (i : Nat) : (pre a x)[i]? = opre a x[i]? := by simp [pre, opre]
theorem own_get {t : RT} {key : List UInt8} {i : Nat} (h : t.val = none) : (pre key t.prs)[i]? = (pre key (belows t.kids))[i]? := by rw [below_eq, h]; rfl
theorem own_get0 {t : RT} {key u : List UInt8} (h : t.val = some u) : (pre key t.prs)[0]? = some (key, u) := by rw [below_eq, h]; simp [ownP, pre]
theorem own_getS {t : RT} {key u : List UInt8} {i : Nat} (h : t.val = some u) : (pre key t.prs)[i + 1]? = (pre key (belows t.kids))[i]? := by rw [below_eq, h]; simp [ownP, pre]
theorem pre_prs (a : List UInt8) (k : RT) (x : List Pr) : pre a (pre k.lab k.prs ++ x) = pre (a ++ k.lab) k.prs ++ pre a x := by simp [pre]

set_option maxRecDepth 100000 in
set_option maxHeartbeats 2000000 in
theorem nth_c (w : World) (v : Value) (t : RT) (N : Nat) (i : Int) (h : RepO w v t) (hk : Kd N t.kids) (hlab : t.lab = []) (hN : N ≤ 1000) (hl : t.prs.length ≤ 1000000) :
    Calls Try.prog 42 #[v, .int .i64 i] w fun e w' => e = .returned (optR (atI t.prs i)) ∧ Ext w w' := by
  have H := Lib.hid h
  have HK := Lib.hid hk
  clear h hk
  go_enter Try.func42, Try.ntmps42
  repeat' (go_not_at_region 1; (first | go_skip | go_guarded | go_step))
  obtain ⟨wa, hwa⟩ : ∃ wa, wa = w.alloc zp := ⟨_, rfl⟩
  obtain ⟨rb, hrb⟩ : ∃ rb, rb = w.heap.size := ⟨_, rfl⟩
  have hEa : Ext w wa := by rw [hwa]; exact (Ext.refl w).alloc (Nat.le_refl _) _
  have hba := heap_new w zp
  have hwa' : w.alloc (.cells #[.string ⟨#[]⟩, .string ⟨#[]⟩] 29) = wa := hwa.symm
  rw [← hwa, ← hrb] at hba
  rw [hwa', ← hrb]
  have hrl : w.heap.size ≤ rb := by omega
  have HA : Hid (Ext w wa ∧ (∀ x : World, Ext wa x → x.heap[rb]? = some (.cells #[.string ⟨#[]⟩, .string ⟨#[]⟩] 29 (0, 0)))) := Lib.hid ⟨hEa, fun x hx => bx_ext hba hx⟩
  clear hwa hrb hEa hba hwa'
  rcases Int.lt_or_le i 0 with hneg | hpos
  · have d1 : decide (i < 0) = true := decide_eq_true hneg
    obtain ⟨c0, c1⟩ := bx_cells (HA.out.2 wa (Ext.refl _))
    have cf := bx_free (HA.out.2 wa (Ext.refl _))
    repeat' (first | go_skip | go_guarded | go_step)
    (try simp only [Exit.inBlock, Exit.then])
    refine bodyPost_ret_by (results_ct rfl _ _ _ _ _ _ _ rfl (heap_set (heap_set (HA.out.2 wa (Ext.refl _)) 0 _) 1 _) Try.underlying29 rfl (by kernel_rfl)) rfl ?_
    refine ⟨?_, (HA.out.1.setCell hrl _).setCell hrl _⟩
    rw [atI_neg _ hneg]
    rfl
  · obtain ⟨n, rfl⟩ : ∃ n : Nat, i = (n : Int) := ⟨i.toNat, by omega⟩
    have d1 : decide ((n : Int) < 0) = false := decide_eq_false (by omega)
    obtain ⟨T, hT⟩ : ∃ T, T = t.prs.length := ⟨_, rfl⟩
    have HLEN := Lib.hid (len_c N wa v t (H.out.ext HA.out.1) HK.out (by omega))
    rw [← hT] at HLEN hl
    have HTT := Lib.hid hT
    clear hpos hT
    rcases Nat.lt_or_ge n T with hlt | hge
    · have d2 : decide ((T : Int) ≤ (n : Int)) = false := decide_eq_false (by omega)
      have d3 : decide (T ≤ n) = false := decide_eq_false (by omega)
      repeat' (first | go_at_call 74 | go_skip | go_guarded | go_step)
      refine HLEN.out.mono ?_
      rintro e w1 ⟨rfl, f1⟩
      have H1 := Lib.hid f1
      obtain ⟨g, rfl, hr⟩ : ∃ g, v = ptr g ∧ Rep NT w g t := by
        rcases H.out with ⟨_, ht⟩ | h
        · have hT := HTT.out; rw [ht] at hT; rw [hT] at hlt; exact absurd hlt (Nat.not_lt_zero _)
        · exact h
      have HR := Lib.hid hr
      clear f1 hr HLEN
      go_simp
      repeat' (go_not_at_region 4; (first | go_skip | go_guarded | go_step))
      go_loopg [1, 6, 7] (N + 1) (fun gk v1 v6 v7 wr => ∃ (g : Nat) (s : RT) (M : Nat) (a : List UInt8) (i : Nat), v1 = .int .i64 i ∧ v6 = ptr g ∧ v7 = str a ∧ M + 1 ≤ gk ∧ a.length + s.lab.length + M ≤ 1000 ∧ i < s.prs.length ∧ s.prs.length ≤ 1000000 ∧ Hid (Ext wa wr ∧ Rep NT w g s ∧ Kd M s.kids ∧ t.prs[n]? = (pre (a ++ s.lab) s.prs)[i]?))
      case atStart => exact ⟨g, t, N, [], n, rfl, rfl, rfl, Nat.le_refl _, by rw [hlab]; simpa using hN, by have := HTT.out; omega, by have := HTT.out; omega, Lib.hid ⟨H1.out, HR.out, HK.out, by rw [hlab, pre_get]; cases t.prs[n]? <;> simp [opre]⟩⟩
      case round =>
        obtain ⟨g, s, M, a, i, rfl, rfl, rfl, hMg, haM, hin, hsl, HI⟩ := hrel
        obtain ⟨key, hkey⟩ : ∃ key, key = a ++ s.lab := ⟨_, rfl⟩
        have hkl : key.length + M ≤ 1000 := by rw [hkey, List.length_append]; exact haM
        have hclt : (9223372036854775807 < a.length + s.lab.length) = False := by simp; omega
        have hclm : (maxLen < a.length + s.lab.length) = False := by unfold maxLen; simp; omega
        have hcat : bs a ++ bs s.lab = bs key := by rw [bs_append, hkey]
        rw [← hkey] at HI
        have hps := prs_len s
        clear hkey
        repeat' (first | go_at_call 62 | go_skip | go_guarded | go_step)
        refine (labelO_c wr (ptr g) s (.of (HI.out.2.1.ext (Ext.trans HA.out.1 HI.out.1)))).mono ?_
        rintro e x1 ⟨rfl, rfl⟩
        go_simp
        repeat' (first | go_at_call 63 | go_skip | go_guarded | go_step)
        refine (valueO_c wr (ptr g) s (.of (HI.out.2.1.ext (Ext.trans HA.out.1 HI.out.1)))).mono ?_
        rintro e w2 ⟨rfl, f2⟩
        obtain ⟨has, hhas⟩ : ∃ has, has = s.val.isSome := ⟨_, rfl⟩
        obtain ⟨val, hval⟩ : ∃ val, val = s.val.getD [] := ⟨_, rfl⟩
        rw [← hhas] at hps
        rw [← hhas, ← hval]
        have HV : Hid (has = s.val.isSome ∧ val = s.val.getD []) := Lib.hid ⟨hhas, hval⟩
        have H2 : Hid (Ext wa w2) := Lib.hid (Ext.trans HI.out.1 f2)
        clear f2 hhas hval
        go_simp
        repeat' (go_not_at_if 32; (first | go_skip | go_guarded | go_step))
        go_cut [1] (fun v1 wx => ∃ i2 : Nat, v1 = .int .i64 i2 ∧ i2 < (belows s.kids).length ∧ Hid (w2 = wx ∧ t.prs[n]? = (pre key (belows s.kids))[i2]?))
        case first =>
          cases has with
          | false =>
            have hv : s.val = none := by
              have := HV.out.1
              cases hv : s.val with
              | none => rfl
              | some u => rw [hv] at this; cases this
            have HO := Lib.hid (own_get (key := key) (i := i) hv)
            simp only [Bool.false_eq_true, if_false] at hps
            clear hv
            repeat' (first | go_skip | go_guarded | go_step)
            go_meet
            exact ⟨i, rfl, by omega, Lib.hid ⟨rfl, by rw [HI.out.2.2.2, HO.out]⟩⟩
          | true =>
            have hv : s.val = some val := by
              have h1 := HV.out.1
              have h2 := HV.out.2
              cases hv : s.val with
              | none => rw [hv] at h1; cases h1
              | some u => rw [hv] at h2; rw [h2]; rfl
            have HVV := Lib.hid hv
            simp only [if_true] at hps
            clear hv
            cases i with
            | zero =>
              obtain ⟨c0, c1⟩ := bx_cells (HA.out.2 w2 H2.out)
              have cf := bx_free (HA.out.2 w2 H2.out)
              repeat' (first | go_skip | go_guarded | go_step)
              (try simp only [Exit.inBlock, Exit.then])
              refine bodyPost_ret_by (results_ct rfl _ _ _ _ _ _ _ rfl (heap_set (heap_set (HA.out.2 w2 H2.out) 0 _) 1 _) Try.underlying29 rfl (by kernel_rfl)) rfl ?_
              refine ⟨?_, ((Ext.trans HA.out.1 H2.out).setCell hrl _).setCell hrl _⟩
              rw [atI_nat, HI.out.2.2.2, own_get0 HVV.out]
              rfl
            | succ i =>
              have hd : decide (((i + 1 : Nat) : Int) = 0) = false := decide_eq_false (by omega)
              have hd2 : (((i + 1 : Nat) : Int) == 0) = false := by rw [beq_eq_false_iff_ne]; omega
              have hs1 : (((i + 1 : Nat) : Int) - 1) = (i : Int) := by omega
              have hs2 : ((i : Int) + 1 - 1) = (i : Int) := by omega
              repeat' (first | go_skip | go_guarded | go_step)
              go_meet
              exact ⟨i, by go_num, by omega, Lib.hid ⟨rfl, by rw [HI.out.2.2.2, own_getS HVV.out]⟩⟩
        case rest =>
        obtain ⟨i2, hv1, hi2, HC⟩ := hcut
        subst hv1
        obtain ⟨hwx, hget⟩ := HC.out
        subst hwx
        have HG := Lib.hid hget
        have hbl9 : (belows s.kids).length ≤ 1000000 := by omega
        clear hget HC hps
        repeat' (first | go_at_call 72 | go_skip | go_guarded | go_step)
        refine (kidsR_c w w2 g s M HI.out.2.1 (Ext.trans HA.out.1 H2.out) HI.out.2.2.1).mono ?_
        rintro e x4 ⟨A, C, ps, rfl, hs, hr, f4⟩
        have hm9 : ps.length ≤ 256 := by have := hr.1; have := HI.out.2.2.1.len; omega
        obtain ⟨m, hm⟩ : ∃ m, m = ps.length := ⟨_, rfl⟩
        have H4 : Hid (Ext wa x4 ∧ Seg x4 A (ptrs ps) ∧ Reps NT w ps s.kids ∧ m = ps.length) := Lib.hid ⟨Ext.trans H2.out f4, hs, hr, hm⟩
        rw [← hm] at hm9 ⊢
        clear f4 hs hr hm
        go_simp
        repeat' (go_not_at_region 11; (first | go_skip | go_guarded | go_step))
        go_loopg [1, 6, 43] m (fun gk2 v1 v6 v43 wx => ∃ j i3 : Nat, v1 = .int .i64 i3 ∧ v6 = ptr g ∧ v43 = .int .i64 j ∧ j ≤ m ∧ m - j ≤ gk2 ∧ i3 < (belows (s.kids.drop j)).length ∧ i3 ≤ 1000000 ∧ Hid (Ext x4 wx ∧ t.prs[n]? = (pre key (belows (s.kids.drop j)))[i3]?))
        case atStart => exact ⟨0, i2, rfl, rfl, rfl, Nat.zero_le _, by omega, hi2, by omega, Lib.hid ⟨Ext.refl _, HG.out⟩⟩
        case round =>
          obtain ⟨j, i3, rfl, rfl, rfl, hjm, hgk2, hi3, hi39, HJ⟩ := hrel
          rcases Nat.lt_or_ge j m with hlt | hge
          · have d1 : decide (j < m) = true := by simp [hlt]
            obtain ⟨p, hp⟩ := get_of_lt ps (show j < ps.length by have := H4.out.2.2.2; omega)
            obtain ⟨k, hkk⟩ := get_of_lt s.kids (show j < s.kids.length by have := H4.out.2.2.2; have := H4.out.2.2.1.1; omega)
            obtain ⟨b, o, rfl, hcl⟩ := (Seg.below H4.out.2.1 HJ.out.1) (fun e => by have := ptrs_get hp; rw [e] at this; simp at this)
            have hq := hcl j _ (ptrs_get hp)
            have hi1 : (j : Int) < (m : Int) := by omega
            have hb := HI.out.2.2.1.br (List.mem_of_getElem? hkk)
            have hll : 0 < k.lab.length := List.length_pos_iff.2 hb.1
            have hln := hb.2.1
            have hrk := H4.out.2.2.1.2 j p k hp hkk
            have hcut2 : belows (s.kids.drop j) = pre k.lab k.prs ++ belows (s.kids.drop (j + 1)) := by
              obtain ⟨hj, rfl⟩ := List.getElem?_eq_some_iff.1 hkk
              rw [← List.getElem_cons_drop hj, belows_cons]
            have hkpl : k.prs.length ≤ 1000000 := by
              have h1 := belows_take hkk
              have h2 := belows_le (ks := s.kids) (j + 1)
              omega
            obtain ⟨K, hK⟩ : ∃ K, K = k.prs.length := ⟨_, rfl⟩
            have HLK := Lib.hid (len_c (M - k.lab.length) wr (ptr p) k (.of (hrk.ext (Ext.trans HA.out.1 (Ext.trans H4.out.1 HJ.out.1)))) hb.2.2.2 hkpl)
            rw [← hK] at HLK
            have HKK : Hid (s.kids[j]? = some k ∧ Br M k ∧ Rep NT w p k ∧ belows (s.kids.drop j) = pre k.lab k.prs ++ belows (s.kids.drop (j + 1)) ∧ K = k.prs.length) := Lib.hid ⟨hkk, hb, hrk, hcut2, hK⟩
            have hlen3 : (belows (s.kids.drop j)).length = K + (belows (s.kids.drop (j + 1))).length := by rw [hcut2, List.length_append, hK]; simp [pre]
            clear hcl hp hkk hb hrk hcut2
            repeat' (first | go_at_call 74 | go_skip | go_guarded | go_step)
            refine HLK.out.mono ?_
            rintro e x5 ⟨rfl, f5⟩
            have H5 := Lib.hid f5
            clear f5
            rcases Nat.lt_or_ge i3 K with hik | hik
            · have d4 : decide (i3 < K) = true := by simp [hik]
              have d5 : decide ((i3 : Int) < (K : Int)) = true := decide_eq_true (by omega)
              clear hK
              go_simp
              repeat' (first | go_skip | go_guarded | go_step)
              go_roundg (M - k.lab.length + 1)
              case measure => omega
              case rel =>
                refine ⟨p, k, M - k.lab.length, key, i3, rfl, rfl, rfl, Nat.le_refl _, by omega, by have := HKK.out.2.2.2.2; omega, hkpl, Lib.hid ⟨Ext.trans H4.out.1 (Ext.trans HJ.out.1 H5.out), HKK.out.2.2.1, HKK.out.2.1.2.2.2, ?_⟩⟩
                rw [HJ.out.2, HKK.out.2.2.2.1, pre_prs, List.getElem?_append_left (by have := HKK.out.2.2.2.2; simp [pre]; omega)]
            · have d4 : decide (i3 < K) = false := by simp; omega
              have d5 : decide ((i3 : Int) < (K : Int)) = false := decide_eq_false (by omega)
              have hsub : ((i3 : Int) - (K : Int)) = ((i3 - K : Nat) : Int) := by omega
              clear hK
              go_simp
              repeat' (first | go_skip | go_guarded | go_step)
              go_roundg (m - (j + 1))
              case measure => omega
              case rel =>
                refine ⟨j + 1, i3 - K, by go_num, rfl, by go_num, by omega, Nat.le_refl _, by omega, by omega, Lib.hid ⟨Ext.trans HJ.out.1 H5.out, ?_⟩⟩
                have hpl : (pre (key ++ k.lab) k.prs).length = K := by rw [HKK.out.2.2.2.2]; simp [pre]
                rw [HJ.out.2, HKK.out.2.2.2.1, pre_prs, List.getElem?_append_right (by omega), hpl]
          · obtain rfl : j = m := by omega
            rw [List.drop_of_length_le (by have := H4.out.2.2.2; have := H4.out.2.2.1.1; omega)] at hi3
            exact absurd hi3 (Nat.not_lt_zero _)
    · have d2 : decide ((T : Int) ≤ (n : Int)) = true := decide_eq_true (by omega)
      have d3 : decide (T ≤ n) = true := decide_eq_true (by omega)
      have hnone : t.prs[n]? = none := List.getElem?_eq_none_iff.2 (by have := HTT.out; omega)
      have HNO := Lib.hid hnone
      clear hnone
      repeat' (first | go_at_call 74 | go_skip | go_guarded | go_step)
      refine HLEN.out.mono ?_
      rintro e w1 ⟨rfl, f1⟩
      have H1 := Lib.hid f1
      obtain ⟨c0, c1⟩ := bx_cells (HA.out.2 w1 f1)
      have cf := bx_free (HA.out.2 w1 f1)
      clear f1
      go_simp
      repeat' (first | go_skip | go_guarded | go_step)
      (try simp only [Exit.inBlock, Exit.then])
      refine bodyPost_ret_by (results_ct rfl _ _ _ _ _ _ _ rfl (heap_set (heap_set (HA.out.2 w1 H1.out) 0 _) 1 _) Try.underlying29 rfl (by kernel_rfl)) rfl ?_
      refine ⟨?_, ((Ext.trans HA.out.1 H1.out).setCell hrl _).setCell hrl _⟩
      rw [atI_nat, HNO.out]
      rfl
end Go.Proofs.Ytaehdkgmkjhmgaa
