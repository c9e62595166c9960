/- Contracts: how many pairs a tree has; Cut. -/
import Derived.Test.YtaehdkgmkjhmgaaYd
namespace Go.Proofs.Ytaehdkgmkjhmgaa
open Go.RowKit Go.QS
set_option linter.unusedVariables false

theorem prs_len (t : RT) : t.prs.length = (if t.val.isSome then 1 else 0) + (belows t.kids).length := by
  rw [below_eq, List.length_append]
  congr 1
  cases t.val <;> rfl
theorem belows_take {ks : List RT} {j : Nat} {k : RT} (h : ks[j]? = some k) : (belows (ks.take (j + 1))).length = (belows (ks.take j)).length + k.prs.length := by
  rw [take_snoc h, belows_append, belows_cons, belows_nil, List.append_nil, List.length_append]
  simp [pre]
theorem belows_le {ks : List RT} (j : Nat) : (belows (ks.take j)).length ≤ (belows ks).length := by
  conv => rhs; rw [← List.take_append_drop j ks]
  rw [belows_append, List.length_append]
  omega

set_option maxRecDepth 100000 in
set_option maxHeartbeats 1000000 in
theorem len_c : ∀ (N : Nat) (w : World) (v : Value) (t : RT), RepO w v t → Kd N t.kids → t.prs.length ≤ 1000000 →
    Calls Try.prog 74 #[v] w fun e w' => e = .returned (.int .i64 t.prs.length) ∧ Ext w w' := by
  intro N
  induction N using Nat.strongRecOn with
  | ind N ih =>
  intro w v t h hk hl
  have H := Lib.hid h
  have HK := Lib.hid hk
  have hk9 := hk.len
  have hpl := prs_len t
  have HI0 := Lib.hid ih
  clear ih h hk
  go_enter Try.func74, Try.ntmps74
  repeat' (first | go_at_call 63 | go_skip | go_guarded | go_step)
  refine (valueO_c w v t H.out).mono ?_
  rintro e w1 ⟨rfl, f1⟩
  have H1 := Lib.hid f1
  clear f1
  obtain ⟨c0, hc0⟩ : ∃ c0 : Nat, c0 = (if t.val.isSome then 1 else 0) := ⟨_, rfl⟩
  rw [← hc0] at hpl
  have hc1 : c0 ≤ 1 := by rw [hc0]; split <;> omega
  obtain ⟨has, hhas⟩ : ∃ has, has = t.val.isSome := ⟨_, rfl⟩
  rw [← hhas] at hc0 ⊢
  obtain ⟨val, hval⟩ : ∃ val, val = t.val.getD [] := ⟨_, rfl⟩
  rw [← hval]
  clear hhas hval
  go_simp
  repeat' (go_not_at_if 13; (first | go_skip | go_guarded | go_step))
  have HC := Lib.hid hc0
  clear hc0
  go_cut [3] (fun v3 wx => Hid (v3 = .int .i64 c0 ∧ w1 = wx))
  case first =>
    cases has with
    | true =>
      have hc : c0 = 1 := by have := HC.out; simpa using this
      subst hc
      repeat' (first | go_skip | go_guarded | go_step)
      go_meet
      exact Lib.hid ⟨rfl, rfl⟩
    | false =>
      have hc : c0 = 0 := by have := HC.out; simpa using this
      subst hc
      repeat' (first | go_skip | go_guarded | go_step)
      go_meet
      exact Lib.hid ⟨rfl, rfl⟩
  case rest =>
  obtain ⟨hv3, hwx⟩ := hcut.out
  subst hv3 hwx
  clear hcut
  repeat' (first | go_at_call 72 | go_skip | go_guarded | go_step)
  refine (kidsO_c w1 v t N (H.out.ext H1.out) HK.out).mono ?_
  rintro e x4 ⟨A, C, ps, rfl, hs, hr, f4⟩
  have hm9 : ps.length ≤ 256 := by have := hr.1; omega
  obtain ⟨m, hm⟩ : ∃ m, m = ps.length := ⟨_, rfl⟩
  have H4 : Hid (Ext w x4 ∧ Seg x4 A (ptrs ps) ∧ Reps NT x4 ps t.kids ∧ m = ps.length) := Lib.hid ⟨Ext.trans H1.out f4, hs, hr, hm⟩
  rw [← hm] at hm9 ⊢
  clear f4 hs hr hm
  go_simp
  repeat' (go_not_at_region 6; (first | go_skip | go_guarded | go_step))
  go_loopg [3, 17] m (fun gk v3 v17 wr => ∃ (j c : Nat), v3 = .int .i64 c ∧ v17 = .int .i64 j ∧ j ≤ m ∧ m - j ≤ gk ∧ c = c0 + (belows (t.kids.take j)).length ∧ Hid (Ext x4 wr))
  case atStart => exact ⟨0, c0, rfl, rfl, Nat.zero_le _, by omega, by simp [belows_nil], Lib.hid (Ext.refl _)⟩
  case round =>
    obtain ⟨j, c, rfl, rfl, hjm, hgk, hcc, HI⟩ := hrel
    have hbl := belows_le (ks := t.kids) j
    rcases Nat.lt_or_ge j m with hlt | hge
    · have d1 : decide (j < m) = true := by simp [hlt]
      obtain ⟨p, hp⟩ := get_of_lt ps (show j < ps.length by have := H4.out.2.2.2; omega)
      obtain ⟨k, hkk⟩ := get_of_lt t.kids (show j < t.kids.length by have := H4.out.2.2.2; have := H4.out.2.2.1.1; omega)
      obtain ⟨b, o, rfl, hcl⟩ := (Seg.below H4.out.2.1 HI.out) (fun e => by have := ptrs_get hp; rw [e] at this; simp at this)
      have hq := hcl j _ (ptrs_get hp)
      have hi1 : (j : Int) < (m : Int) := by omega
      have hb := HK.out.br (List.mem_of_getElem? hkk)
      have hll : 0 < k.lab.length := List.length_pos_iff.2 hb.1
      have hln := hb.2.1
      have hbt := belows_take hkk
      have hbl2 := belows_le (ks := t.kids) (j + 1)
      have HC := Lib.hid (HI0.out (N - k.lab.length) (by omega) wr (ptr p) k (.of ((H4.out.2.2.1.2 j p k hp hkk).ext HI.out)) hb.2.2.2 (by omega))
      obtain ⟨kl, hkl⟩ : ∃ kl, kl = k.prs.length := ⟨_, rfl⟩
      rw [← hkl] at hbt HC
      have hsum : c + kl ≤ 1000000 := by omega
      have hcast : (c : Int) + (kl : Int) = ((c + kl : Nat) : Int) := by omega
      clear hcl hp hkk hb hkl
      repeat' (first | go_at_call 74 | go_skip | go_guarded | go_step)
      refine HC.out.mono ?_
      rintro e x5 ⟨rfl, f5⟩
      have H6 := Lib.hid f5
      clear f5
      go_simp
      repeat' (first | go_skip | go_guarded | go_step)
      go_roundg (m - (j + 1))
      case measure => omega
      case rel => exact ⟨j + 1, c + kl, by go_num, by go_num, by omega, Nat.le_refl _, by omega, Lib.hid (Ext.trans HI.out H6.out)⟩
    · obtain rfl : j = m := by omega
      have d1 : decide (j < j) = false := by simp
      repeat' (first | go_skip | go_guarded | go_step)
      go_ret
      refine ⟨?_, Ext.trans H4.out.1 HI.out⟩
      rw [List.take_of_length_le (by have := H4.out.2.2.2; have := H4.out.2.2.1.1; omega)] at hcc
      rw [hpl, ← hcc]; rfl

theorem begB_le {s p : List UInt8} (h : begB s p = true) : p.length ≤ s.length := by
  obtain ⟨r, rfl⟩ := begB_iff.1 h
  simp
set_option maxRecDepth 100000 in
theorem cut_c (w : World) (s p : List UInt8) (hs : s.length ≤ 1000000) (hp : p.length ≤ 1000000) :
    Calls Try.prog 73 #[str s, str p] w fun e w' => e = .returned (.tuple #[str (if begB s p then s.drop p.length else []), .bool (begB s p)]) ∧ w = w' := by
  have HB : Hid (Calls Try.prog 93 #[str s, str p] w fun e w' => e = .returned (.bool (begB s p)) ∧ w = w') := Lib.hid (begins_c w s p (by omega) (by omega))
  cases hb : begB s p with
  | true =>
    have hle := begB_le hb
    have hi1 : (p.length : Int) ≤ (s.length : Int) := by omega
    have hi0 : (0 : Int) ≤ (p.length : Int) := by omega
    have hdr : List.take (s.length - p.length) (s.drop p.length) = s.drop p.length := List.take_of_length_le (by simp)
    rw [hb] at HB
    clear hb
    go_enter Try.func73, Try.ntmps73
    repeat' (first | (go_at_call 93; refine HB.out.mono ?_; rintro e w1 ⟨rfl, rfl⟩; go_simp) | go_skip | go_guarded | go_step)
    go_ret2
    exact ⟨rfl, rfl⟩
  | false =>
    rw [hb] at HB
    clear hb
    go_enter Try.func73, Try.ntmps73
    repeat' (first | (go_at_call 93; refine HB.out.mono ?_; rintro e w1 ⟨rfl, rfl⟩; go_simp) | go_skip | go_guarded | go_step)
    go_ret2
    exact ⟨rfl, rfl⟩
end Go.Proofs.Ytaehdkgmkjhmgaa
