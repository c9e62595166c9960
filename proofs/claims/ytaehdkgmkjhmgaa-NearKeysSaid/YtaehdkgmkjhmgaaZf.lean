/- Contract: the document's nearest. -/
import Derived.Test.YtaehdkgmkjhmgaaZe
namespace Go.Proofs.Ytaehdkgmkjhmgaa
open Go.RowKit Go.QS
set_option linter.unusedVariables false

set_option maxRecDepth 100000 in
set_option maxHeartbeats 1000000 in
theorem near12_c (w : World) (v : Value) (x : List Pr) (key : List UInt8) (kind : Nat) (hkd : kind < 4) (h : PS w v x) (hx : x.length ≤ 1000) (hk : ∀ p ∈ x, p.1.length ≤ 1000) : Calls Try.prog 51 #[v, str key, .int .i64 kind] w fun e w' => e = .returned (optR (atI x (nearI x key kind))) ∧ Ext w w' := by
  have HP := Lib.hid h
  have hrk := rankL_le key x
  have HRK : Hid (∀ y, Ext w y → Calls Try.prog 53 #[v, str key] y fun e w' => e = .returned (.int .i64 (rankL key x)) ∧ Ext y w') := Lib.hid fun y hy => rank12_c y v x key (h.below hy) hx hk
  obtain ⟨A, c, rfl, hl, hn, hc, hs⟩ := h
  obtain ⟨n, hn2⟩ : ∃ n, n = x.length := ⟨_, rfl⟩
  rw [← hn2] at hn hx hrk HP HRK ⊢
  have Hn := Lib.hid hn2
  have HS := Lib.hid hs
  clear hn2 hl hs hk
  go_enter Try.func51, Try.ntmps51
  repeat' (first | go_at_call 53 | go_skip | go_guarded | go_step)
  obtain ⟨wa, hwa⟩ : ∃ wa, wa = w.alloc zq := ⟨_, rfl⟩
  obtain ⟨rb, hrb⟩ : ∃ rb, rb = w.heap.size := ⟨_, rfl⟩
  have hEa : Ext w wa := by rw [hwa]; exact (Ext.refl w).alloc (Nat.le_refl _) _
  have hba := heap_new w zq
  have hwa' : w.alloc (.cells #[.string ⟨#[]⟩, .string ⟨#[]⟩] 40) = wa := hwa.symm
  rw [← hwa, ← hrb] at hba
  rw [hwa', ← hrb]
  have hrl : w.heap.size ≤ rb := by omega
  have HA : Hid (Ext w wa ∧ wa.heap[rb]? = some (.cells #[.string ⟨#[]⟩, .string ⟨#[]⟩] 40 (0, 0))) := Lib.hid ⟨hEa, hba⟩
  clear hwa hrb hEa hba hwa'
  refine (HRK.out wa HA.out.1).mono ?_
  rintro e w1 ⟨rfl, f1⟩
  obtain ⟨r, hr⟩ : ∃ r, r = rankL key x := ⟨_, rfl⟩
  obtain ⟨he, hhe⟩ : ∃ he, he = hereB x key := ⟨_, rfl⟩
  obtain ⟨z, hz⟩ : ∃ z, z = nearI x key kind := ⟨_, rfl⟩
  rw [← hr] at hrk ⊢
  have HR := Lib.hid hr
  have HHE := Lib.hid hhe
  have HZ := Lib.hid hz
  have H1 : Hid (Ext w w1 ∧ w1.heap[rb]? = some (.cells #[.string ⟨#[]⟩, .string ⟨#[]⟩] 40 (0, 0))) := Lib.hid ⟨Ext.trans HA.out.1 f1, bx_ext HA.out.2 f1⟩
  clear hr hhe hz f1
  go_simp
  repeat' (go_not_at_region 2; (first | go_skip | go_guarded | go_step))
  go_cut [9] (fun v9 wx => Hid (v9 = .bool he ∧ w1 = wx))
  case first =>
    rcases Nat.lt_or_ge r n with hlt | hge
    · have d1 : decide (r < n) = true := by simp [hlt]
      obtain ⟨q, hq⟩ := get_of_lt x (show r < x.length by have := Hn.out; omega)
      obtain ⟨b, o, rfl, hq1, hq2⟩ := seg_pair (HS.out.below H1.out.1) hq
      have hi1 : (r : Int) < (n : Int) := by omega
      have hev : he = (q.1 == key) := by rw [HHE.out]; unfold hereB; rw [← HR.out, hq]
      clear hq
      by_cases hqk : q.1 = key
      · have e1 : decide (q.1 = key) = true := decide_eq_true hqk
        have e2 : (q.1 == key) = true := by rw [hqk]; simp
        rw [e2] at hev
        subst hev
        clear hqk
        repeat' (first | go_skip | go_guarded | go_step)
        go_meet
        exact Lib.hid ⟨rfl, rfl⟩
      · have e1 : decide (q.1 = key) = false := decide_eq_false hqk
        have e2 : (q.1 == key) = false := by rw [beq_eq_false_iff_ne]; exact hqk
        rw [e2] at hev
        subst hev
        clear hqk
        repeat' (first | go_skip | go_guarded | go_step)
        go_meet
        exact Lib.hid ⟨rfl, rfl⟩
    · have d1 : decide (r < n) = false := by simp; omega
      have hev : he = false := by rw [HHE.out]; unfold hereB; rw [← HR.out, List.getElem?_eq_none_iff.2 (by have := Hn.out; omega)]
      subst hev
      repeat' (first | go_skip | go_guarded | go_step)
      go_meet
      exact Lib.hid ⟨rfl, rfl⟩
  case rest =>
  obtain ⟨hv9, hwx⟩ := hcut.out
  subst hv9 hwx
  clear hcut
  have HAT := Lib.hid (at_c w1 _ x z (HP.out.below H1.out.1))
  go_step
  go_step
  go_cut [8] (fun v8 wx => Hid (v8 = .int .i64 z ∧ w1 = wx))
  case first =>
    have hfin : kind = 0 ∨ kind = 1 ∨ kind = 2 ∨ kind = 3 := by omega
    rcases hfin with rfl | rfl | rfl | rfl <;> cases he
    all_goals
      have hz : z = _ := HZ.out
      unfold nearI at hz
      rw [← HHE.out, ← HR.out] at hz
      simp at hz
      subst hz
      repeat' (first | go_skip | go_guarded | go_step)
      go_meet
      exact Lib.hid ⟨by first | rfl | go_num, rfl⟩
  case rest =>
  obtain ⟨hv8, hwx⟩ := hcut.out
  subst hv8 hwx
  clear hcut
  repeat' (first | go_at_call 43 | go_skip | go_guarded | go_step)
  refine HAT.out.mono ?_
  rintro e w4 ⟨rfl, f4⟩
  obtain ⟨ra, rv, rc, hlit⟩ := optR_lit (atI x z)
  rw [hlit]
  have HL := Lib.hid hlit
  have hb4 := bx_ext H1.out.2 f4
  obtain ⟨c0, c1⟩ := bx_cells hb4
  have cf := bx_free hb4
  have H4 : Hid (_ ∧ Ext w w4) := Lib.hid ⟨hb4, Ext.trans H1.out.1 f4⟩
  have hrl4 := heap_lt hb4
  clear f4 hb4 hlit
  go_simp
  repeat' (first | go_skip | go_guarded | go_step)
  (try simp only [Exit.inBlock, Exit.then])
  refine bodyPost_ret_by (results_ct rfl _ _ _ _ _ _ _ rfl (heap_set (heap_set H4.out.1 0 _) 1 _) Try.underlying40 rfl (by kernel_rfl)) rfl ?_
  refine ⟨?_, (H4.out.2.setCell hrl _).setCell hrl _⟩
  rw [← HZ.out, HL.out]
  rfl
end Go.Proofs.Ytaehdkgmkjhmgaa
