/- Contract: how many keys of a tree are less than a key. -/
import Derived.Test.YtaehdkgmkjhmgaaYq
namespace Go.Proofs.Ytaehdkgmkjhmgaa
open Go.RowKit Go.QS
set_option linter.unusedVariables false

theorem rankL_le (key : List UInt8) (x : List Pr) : rankL key x ≤ x.length := List.length_filter_le _ _

set_option maxRecDepth 100000 in
set_option maxHeartbeats 2000000 in
theorem rank_c (w : World) (v : Value) (t : RT) (N : Nat) (key : List UInt8) (h : RepO w v t) (hk : Kd N t.kids) (hN : N ≤ 1000) (hkey : key.length ≤ 1000) (hl : t.prs.length ≤ 1000000) :
    Calls Try.prog 45 #[v, str key] w fun e w' => e = .returned (.int .i64 (rankL key t.prs)) ∧ Ext w w' := by
  have H := Lib.hid h
  have HK := Lib.hid hk
  obtain ⟨T, hT⟩ : ∃ T, T = rankL key t.prs := ⟨_, rfl⟩
  have hT9 : T ≤ 1000000 := by have := rankL_le key t.prs; omega
  rw [← hT]
  have HTT := Lib.hid hT
  clear h hk hT
  go_enter Try.func45, Try.ntmps45
  repeat' (go_not_at_region 3; (first | go_skip | go_guarded | go_step))
  go_loopg [5, 6, 7] (N + 2) (fun gk v5 v6 v7 wr => ∃ (c : Nat) (r : List UInt8), v6 = .int .i64 c ∧ v7 = str r ∧ r.length ≤ 1000 ∧ c ≤ 1000000 ∧ Hid (Ext w wr) ∧
    ((v5 = .pointer none ∧ c = T) ∨ (∃ (g : Nat) (s : RT) (M : Nat), v5 = ptr g ∧ M + 1 ≤ gk ∧ M ≤ 1000 ∧ T = c + rankL r s.prs ∧ s.prs.length ≤ 1000000 ∧ Hid (Rep NT w g s ∧ Kd M s.kids))))
  case atStart =>
    refine ⟨0, key, rfl, rfl, hkey, by omega, Lib.hid (Ext.refl _), ?_⟩
    rcases H.out with ⟨rfl, ht⟩ | ⟨g, rfl, hr⟩
    · exact .inl ⟨rfl, by rw [HTT.out, ht]; rfl⟩
    · exact .inr ⟨g, t, N, rfl, by omega, hN, by rw [HTT.out]; simp, hl, Lib.hid ⟨hr, HK.out⟩⟩
  case round =>
    obtain ⟨c, r, rfl, rfl, hr9, hc9, HI, hcase⟩ := hrel
    rcases hcase with ⟨rfl, rfl⟩ | ⟨g, s, M, rfl, hMg, hM9, hTc, hsl, HS⟩
    · repeat' (first | go_skip | go_guarded | go_step)
      go_ret
      exact ⟨rfl, HI.out⟩
    · have hps := prs_len s
      have hro := rankL_own r s
      repeat' (first | go_at_call 63 | go_skip | go_guarded | go_step)
      refine (valueO_c wr (ptr g) s (.of (HS.out.1.ext HI.out))).mono ?_
      rintro e w2 ⟨rfl, f2⟩
      obtain ⟨has, hhas⟩ : ∃ has, has = s.val.isSome := ⟨_, rfl⟩
      obtain ⟨val, hval⟩ : ∃ val, val = s.val.getD [] := ⟨_, rfl⟩
      rw [← hhas] at hro hps
      rw [← hhas, ← hval]
      have H2 : Hid (Ext w w2) := Lib.hid (Ext.trans HI.out f2)
      obtain ⟨R2, hR2⟩ : ∃ R2, R2 = rankL r (belows s.kids) := ⟨_, rfl⟩
      rw [← hR2] at hro
      have HR2 := Lib.hid hR2
      have hbl9 : (belows s.kids).length ≤ 1000000 := by omega
      have HRO := Lib.hid hro
      clear f2 hhas hval hR2 hro hps
      go_simp
      repeat' (go_not_at_region 5; (first | go_skip | go_guarded | go_step))
      obtain ⟨q, hq⟩ : ∃ q, q = (has && !decide (r = [])) := ⟨_, rfl⟩
      have HQ := Lib.hid hq
      clear hq
      go_cut [27] (fun v27 wx => Hid (v27 = .bool q ∧ w2 = wx))
      case first =>
        cases has with
        | false =>
          have hq : q = false := by rw [HQ.out]; rfl
          subst hq
          repeat' (first | go_skip | go_guarded | go_step)
          go_meet
          exact Lib.hid ⟨rfl, rfl⟩
        | true =>
          cases r with
          | nil =>
            have hq : q = false := by rw [HQ.out]; rfl
            subst hq
            repeat' (first | go_skip | go_guarded | go_step)
            go_meet
            exact Lib.hid ⟨rfl, rfl⟩
          | cons x r =>
            have hq : q = true := by rw [HQ.out]; rfl
            subst hq
            repeat' (first | go_skip | go_guarded | go_step)
            go_meet
            exact Lib.hid ⟨rfl, rfl⟩
      case rest =>
      obtain ⟨hv27, hwx⟩ := hcut.out
      subst hv27 hwx
      clear hcut
      obtain ⟨c2, hc2⟩ : ∃ c2 : Nat, c2 = c + (if q then 1 else 0) := ⟨_, rfl⟩
      have hTc2 : T = c2 + R2 := by
        have h1 := HRO.out
        have h2 := HQ.out
        have h3 : (if has = true ∧ r ≠ [] then 1 else 0) = (if q = true then 1 else 0) := by
          rw [h2]
          cases has <;> simp
        rw [hTc, h1, h3, hc2]
        omega
      have HC2 := Lib.hid hc2
      clear hc2 HQ
      go_step
      go_cut [6] (fun v6 wx => Hid (v6 = .int .i64 c2 ∧ w2 = wx))
      case first =>
        cases q with
        | false =>
          have hc : c2 = c := HC2.out
          subst hc
          repeat' (first | go_skip | go_guarded | go_step)
          go_meet
          exact Lib.hid ⟨rfl, rfl⟩
        | true =>
          have hc : c2 = c + 1 := HC2.out
          subst hc
          repeat' (first | go_skip | go_guarded | go_step)
          go_meet
          exact Lib.hid ⟨by go_num, rfl⟩
      case rest =>
      obtain ⟨hv6, hwx⟩ := hcut.out
      subst hv6 hwx
      clear hcut HC2 HRO hTc
      repeat' (first | go_at_call 72 | go_skip | go_guarded | go_step)
      refine (kidsR_c w w2 g s M HS.out.1 H2.out HS.out.2).mono ?_
      rintro e x4 ⟨A, C, ps, rfl, hs, hr, f4⟩
      have hm9 : ps.length ≤ 256 := by have := hr.1; have := HS.out.2.len; omega
      obtain ⟨m, hm⟩ : ∃ m, m = ps.length := ⟨_, rfl⟩
      have H4 : Hid (Ext w x4 ∧ Seg x4 A (ptrs ps) ∧ Reps NT w ps s.kids ∧ m = ps.length) := Lib.hid ⟨Ext.trans H2.out f4, hs, hr, hm⟩
      rw [← hm] at hm9 ⊢
      clear f4 hs hr hm
      go_simp
      repeat' (go_not_at_region 9; (first | go_skip | go_guarded | go_step))
      go_loopg [6, 7, 10, 33] m (fun gk2 v6 v7 v10 v33 wx => ∃ j c3 : Nat, v6 = .int .i64 c3 ∧ v7 = str r ∧ v10 = .pointer none ∧ v33 = .int .i64 j ∧ j ≤ m ∧ m - j ≤ gk2 ∧ T = c3 + rankL r (belows (s.kids.drop j)) ∧ Hid (Ext x4 wx))
      case atStart => exact ⟨0, c2, rfl, rfl, rfl, rfl, Nat.zero_le _, by omega, by rw [hTc2, HR2.out]; rfl, Lib.hid (Ext.refl _)⟩
      case round =>
        obtain ⟨j, c3, rfl, rfl, rfl, rfl, hjm, hgk2, hT3, HJ⟩ := hrel
        rcases Nat.lt_or_ge j m with hlt | hge
        · have d1 : decide (j < m) = true := by simp [hlt]
          obtain ⟨p, hp⟩ := get_of_lt ps (show j < ps.length by have := H4.out.2.2.2; omega)
          obtain ⟨k, hkk⟩ := get_of_lt s.kids (show j < s.kids.length by have := H4.out.2.2.2; have := H4.out.2.2.1.1; omega)
          obtain ⟨b, o, rfl, hcl⟩ := (Seg.below H4.out.2.1 HJ.out) (fun e => by have := ptrs_get hp; rw [e] at this; simp at this)
          have hq := hcl j _ (ptrs_get hp)
          have hi1 : (j : Int) < (m : Int) := by omega
          have hb := HS.out.2.br (List.mem_of_getElem? hkk)
          have hll : 0 < k.lab.length := List.length_pos_iff.2 hb.1
          have hln := hb.2.1
          have hrk := H4.out.2.2.1.2 j p k hp hkk
          have hst := rankL_step (key := r) hkk
          have hkpl : k.prs.length ≤ 1000000 := by
            have h1 := belows_take hkk
            have h2 := belows_le (ks := s.kids) (j + 1)
            omega
          have HKK : Hid (s.kids[j]? = some k ∧ Br M k ∧ Rep NT w p k) := Lib.hid ⟨hkk, hb, hrk⟩
          have hEw : Ext w wr := Ext.trans H4.out.1 HJ.out
          have HLEN := Lib.hid (len_c (M - k.lab.length) wr (ptr p) k (.of (hrk.ext hEw)) hb.2.2.2 hkpl)
          have HLB : Hid (∀ x, Ext wr x → Calls Try.prog 62 #[ptr p] x fun e w' => e = .returned (str k.lab) ∧ x = w') := Lib.hid fun x hx => labelO_c x (ptr p) k (.of (hrk.ext (Ext.trans hEw hx)))
          have HST : Hid (T = c3 + rankL r (pre k.lab k.prs) + rankL r (belows (s.kids.drop (j + 1)))) := Lib.hid (by rw [hT3, hst]; omega)
          have HEW := Lib.hid hEw
          clear hcl hp hkk hb hrk hst hT3 hEw
          repeat' (first | go_at_call 62 | go_skip | go_guarded | go_step)
          refine (HLB.out _ (Ext.refl _)).mono ?_
          rintro e x5 ⟨rfl, rfl⟩
          go_simp
          repeat' (first | go_at_call 75 | go_skip | go_guarded | go_step)
          refine (turn_c _ k.lab r (by omega) (by omega)).mono ?_
          rintro e x6 ⟨rfl, f6⟩
          have H6 := Lib.hid f6
          clear f6
          rcases trn_cases k.lab r with h0 | h0 | h0
          · have hk := trn_zero h0
            have hlr : k.lab.length ≤ r.length := by rw [hk]; simp
            have HZ := Lib.hid (rankL_zero h0 k.prs)
            have HTL := Lib.hid (rankL_tail HS.out.2 HKK.out.1 h0)
            have hi1 : (k.lab.length : Int) ≤ (r.length : Int) := by omega
            have hi0 : (0 : Int) ≤ (k.lab.length : Int) := by omega
            obtain ⟨r2, hr2⟩ : ∃ r2, r2 = r.drop k.lab.length := ⟨_, rfl⟩
            have hdr : List.take (r.length - k.lab.length) r2 = r2 := by rw [hr2]; exact List.take_of_length_le (by simp)
            have hdr2 : r.drop k.lab.length = r2 := hr2.symm
            have hr29 : r2.length ≤ 1000 := by rw [hr2, List.length_drop]; omega
            have HR3 := Lib.hid hr2
            rw [h0]
            have hE6 := H6.out
            clear hk h0 hr2
            go_simp
            repeat' (go_not_at_region 15; (first | go_skip | go_guarded | go_step))
            go_region_with ((go_at_call 62; refine (HLB.out _ (by first | exact hE6 | exact hE6.drew | exact below_drewN hE6 _)).mono ?_; rintro e x7 ⟨rfl, rfl⟩))
            all_goals
              repeat' (first | go_skip | go_guarded | go_step)
              go_roundg (M - k.lab.length + 1)
              case measure => omega
              case rel =>
                refine ⟨c3, r2, rfl, rfl, hr29, by have := HST.out; omega, Lib.hid (Ext.trans HEW.out (by first | exact H6.out.drew | exact H6.out)), .inr ⟨p, k, M - k.lab.length, rfl, Nat.le_refl _, by omega, ?_, hkpl, Lib.hid ⟨HKK.out.2.2, HKK.out.2.1.2.2.2⟩⟩⟩
                have := HST.out
                rw [HZ.out, HTL.out] at this
                rw [HR3.out]
                omega
          · have HZ := Lib.hid (rankL_pos h0 k.prs)
            rw [h0]
            clear h0
            go_simp
            repeat' (first | go_skip | go_guarded | go_step)
            go_roundg (m - (j + 1))
            case measure => omega
            case rel => exact ⟨j + 1, c3, rfl, rfl, rfl, by go_num, by omega, Nat.le_refl _, by have := HST.out; rw [HZ.out] at this; omega, Lib.hid (Ext.trans HJ.out H6.out)⟩
          · have HZ := Lib.hid (rankL_neg h0 k.prs)
            rw [h0]
            have hsum : c3 + k.prs.length ≤ 1000000 := by have := HST.out; rw [HZ.out] at this; omega
            obtain ⟨K, hK⟩ : ∃ K, K = k.prs.length := ⟨_, rfl⟩
            have HLEN2 := Lib.hid (len_c (M - k.lab.length) x6 (ptr p) k (.of (HKK.out.2.2.ext (Ext.trans HEW.out H6.out))) HKK.out.2.1.2.2.2 hkpl)
            rw [← hK] at HLEN2 HZ hsum
            clear h0 hK HLEN
            go_simp
            repeat' (first | go_at_call 74 | go_skip | go_guarded | go_step)
            refine HLEN2.out.mono ?_
            rintro e x7 ⟨rfl, f7⟩
            have H7 := Lib.hid f7
            clear f7
            go_simp
            repeat' (first | go_skip | go_guarded | go_step)
            go_roundg (m - (j + 1))
            case measure => omega
            case rel => exact ⟨j + 1, c3 + K, by go_num, rfl, rfl, by go_num, by omega, Nat.le_refl _, by have := HST.out; rw [HZ.out] at this; omega, Lib.hid (Ext.trans HJ.out (Ext.trans H6.out H7.out))⟩
        · obtain rfl : j = m := by omega
          have d1 : decide (j < j) = false := by simp
          rw [List.drop_of_length_le (by have := H4.out.2.2.2; have := H4.out.2.2.1.1; omega), belows_nil] at hT3
          have hT4 : c3 = T := by simp [rankL] at hT3; omega
          clear hT3
          repeat' (first | go_skip | go_guarded | go_step)
          go_roundg M
          case measure => omega
          case rel => exact ⟨c3, r, rfl, rfl, hr9, by omega, Lib.hid (Ext.trans H4.out.1 HJ.out), .inl ⟨rfl, hT4⟩⟩
end Go.Proofs.Ytaehdkgmkjhmgaa
