/- Contract: NearKeys. -/
import Derived.Test.YtaehdkgmkjhmgaaZp
namespace Go.Proofs.Ytaehdkgmkjhmgaa
open Go.RowKit Go.QS
set_option linter.unusedVariables false

set_option maxRecDepth 100000 in
set_option maxHeartbeats 2000000 in
theorem nearKeys_c (w : World) (v : Value) (l : List Pr) (kk : List UInt8) (h : PS w v l) : Calls Try.prog 13 #[v, str kk] w fun e w' => e = .returned (.bool true) ∧ Ext w w' := by
  have HP := Lib.hid h
  obtain ⟨k, hk⟩ : ∃ k, k = kk.take 40 := ⟨_, rfl⟩
  have hkl : k.length ≤ 40 := by rw [hk, List.length_take]; omega
  have HK := Lib.hid hk
  clear hk
  obtain ⟨L, hL⟩ : ∃ L, L = (l.take 40).map cutP := ⟨_, rfl⟩
  have hLk : ∀ p ∈ L, p.1.length ≤ 40 := by
    intro p hp
    rw [hL] at hp
    obtain ⟨q, _, rfl⟩ := List.mem_map.1 hp
    simp [cutP]; omega
  have hLl : L.length ≤ 40 := by rw [hL]; simp; omega
  obtain ⟨hlab, hkd, hprs⟩ := treeOf_ok L hLk
  obtain ⟨X, hX⟩ : ∃ X, X = rsort L := ⟨_, rfl⟩
  have hXl : X.length ≤ 40 := by rw [hX]; have := rsort_length L; omega
  have hXr : Rise X := by rw [hX]; exact rsort_rise L
  have hXk : ∀ p ∈ X, p.1.length ≤ 40 := by
    intro p hp
    rw [hX] at hp
    exact hLk p (lastK_mem ((mem_rsort L p).1 hp)).1
  rw [← hX] at hprs
  obtain ⟨T, hT⟩ : ∃ T, T = treeOf L := ⟨_, rfl⟩
  rw [← hT] at hprs hkd hlab
  have HT : Hid (Rise X ∧ (∀ p ∈ X, p.1.length ≤ 40) ∧ T.prs = X ∧ Kd 40 T.kids ∧ T.lab = [] ∧ T.prs.length ≤ 1000000 ∧ Rise T.prs) := Lib.hid ⟨hXr, hXk, hprs, hkd, hlab, by rw [hprs]; omega, by rw [hprs]; exact hXr⟩
  have HL := Lib.hid hL
  have HX := Lib.hid hX
  have HTT := Lib.hid hT
  have hfld := fieldN
  clear h hL hLk hlab hkd hprs hX hXr hXk hT
  go_enter Try.func13, Try.ntmps13
  repeat' (first | go_at_call 34 | go_skip | go_guarded | go_step)
  refine (awakeN_c w).mono ?_
  rintro e w0 ⟨rfl, f0⟩
  have H0 := Lib.hid f0
  clear f0
  go_simp
  repeat' (first | go_at_call 35 | go_skip | go_guarded | go_step)
  refine (tree_c w0 v l (HP.out.below H0.out)).mono ?_
  rintro e w1 ⟨g, v2, rfl, f1, r1, p1⟩
  rw [← HL.out, ← HX.out] at p1
  rw [← HL.out, ← HTT.out] at r1
  have H1 : Hid (Ext w w1 ∧ (∀ x, Ext w1 x → RepO x (ptr g) T) ∧ (∀ x, Ext w1 x → PS x v2 X)) := Lib.hid ⟨Ext.trans H0.out f1, fun x hx => .of (r1.ext hx), fun x hx => p1.below hx⟩
  obtain ⟨A, C, rfl, hXlen, hn, hc, hs⟩ := p1
  obtain ⟨n, hn2⟩ : ∃ n, n = X.length := ⟨_, rfl⟩
  rw [← hn2] at hn hXl H1 ⊢
  have Hn := Lib.hid hn2
  have HS := Lib.hid hs
  clear f1 r1 hs hXlen hn2
  go_simp
  repeat' (first | go_at_call 40 | go_skip | go_guarded | go_step)
  refine (fewN_c _ kk).mono ?_
  rintro e w2 ⟨rfl, f2⟩
  rw [← HK.out]
  have H2 := Lib.hid f2
  clear f2
  go_simp
  repeat' (go_not_at_region 6; (first | go_skip | go_guarded | go_step))
  go_loopg [27] 4 (fun gk v27 wr => ∃ kind : Nat, v27 = .int .i64 kind ∧ kind ≤ 4 ∧ 4 - kind ≤ gk ∧ Hid (Ext w1 wr))
  case atStart => exact ⟨0, rfl, by omega, by omega, H2⟩
  case round =>
    obtain ⟨kind, rfl, hk4, hgk, HI⟩ := hrel
    rcases Nat.lt_or_ge kind 4 with hlt | hge
    · have d1 : decide (kind < 4) = true := by simp [hlt]
      have hlt' : (kind : Int) < 4 := by omega
      have d2 : decide ((kind : Int) < 4) = true := decide_eq_true hlt'
      repeat' (first | go_at_call 50 | go_skip | go_guarded | go_step)
      refine (at12_c wr (ptr g) T 40 k kind hlt (H1.out.2.1 wr HI.out) HT.out.2.2.2.1 HT.out.2.2.2.2.1 (by decide) (by omega) HT.out.2.2.2.2.2.2).mono ?_
      rintro e x1 ⟨rfl, f1⟩
      rw [HT.out.2.2.1]
      obtain ⟨ra, rv, rc, hlit⟩ := optR_lit (atI X (nearI X k kind))
      rw [hlit]
      have HQ := Lib.hid hlit
      have F1 := Lib.hid (Ext.trans HI.out f1)
      clear hlit f1
      go_simp
      repeat' (first | go_at_call 51 | go_skip | go_guarded | go_step)
      obtain ⟨y1, hy1⟩ : ∃ y1, y1 = x1.alloc (.cells #[str ra, str rv] 29) := ⟨_, rfl⟩
      obtain ⟨b1, hb1⟩ : ∃ b1, b1 = x1.heap.size := ⟨_, rfl⟩
      have hE1 : Ext x1 y1 := by rw [hy1]; exact (Ext.refl _).alloc (Nat.le_refl _) _
      have hbx1 := heap_new x1 (.cells #[str ra, str rv] 29)
      rw [← hy1, ← hb1] at hbx1
      have hy1' := hy1.symm
      rw [hy1', ← hb1]
      have HY1 : Hid (Ext w1 y1 ∧ y1.heap[b1]? = some (.cells #[str ra, str rv] 29 (0, 0))) := Lib.hid ⟨Ext.trans F1.out hE1, hbx1⟩
      clear hy1 hb1 hE1 hbx1 hy1'
      refine (near12_c y1 _ X k kind hlt (H1.out.2.2 y1 HY1.out.1) (by have := Hn.out; omega) (fun p hp => by have := HT.out.2.1 p hp; omega)).mono ?_
      rintro e x2 ⟨rfl, f2⟩
      rw [HQ.out]
      have hb2 := bx_ext HY1.out.2 f2
      obtain ⟨k0, k1⟩ := bx_cells hb2
      have hbl := heap_lt hb2
      have F2 := Lib.hid (Ext.trans HY1.out.1 f2)
      clear f2 hb2
      go_simp
      repeat' (first | go_at_call 44 | go_skip | go_guarded | go_step)
      refine (same_c _ ra rv rc).mono ?_
      rintro e x3 ⟨rfl, f3⟩
      have F3 := Lib.hid (Ext.trans (F2.out.alloc F2.out.size _) f3)
      clear f3 k0 k1
      go_simp
      repeat' (first | go_skip | go_guarded | go_step)
      go_roundg (4 - (kind + 1))
      case measure => omega
      case rel => exact ⟨kind + 1, by go_num, by omega, Nat.le_refl _, F3⟩
    · obtain rfl : kind = 4 := by omega
      repeat' (go_not_at_region 13; (first | go_skip | go_guarded | go_step))
      rename_i K hK
      refine keys_tail w1 wr g n C A X T k hkl hXl Hn HT (Lib.hid ⟨trivial, H1.out.2⟩) HI _ _ K _ _ _ _ _ _ _ _ _ _ _ _ _ _ _ _ _ _ _ _ _ _ _ _ _ _ _ _ _ _ _ _ _ _ _ _ _ _ _ _ _ _ _ _ _ _ _ _ _ _ _ _ _ _ _ _ _ _ _ _ _ _ _ _ _ _ _ _ _ _ _ _ _ _ _ (by kernel_rfl) (by kernel_rfl) hK ?_
      intro a wx hd ht hE
      (try simp only [Exit.inBlock, Exit.then])
      repeat' go_step
      refine bodyPost_ret (results_tmp rfl _ _ _) hd ?_
      exact ⟨by rw [ht], Ext.trans H1.out.1 hE⟩
end Go.Proofs.Ytaehdkgmkjhmgaa
