/- GaugeBounds: its walk. -/
import Derived.Test.YtbmakajadelckaaWph
import Derived.Test.YtbmakajadelckaaM43
import Derived.Test.YtbmakajadelckaaM23
set_option linter.unusedVariables false
set_option linter.unusedSimpArgs false
namespace Go.QS
open Go.RowKit Go.QS.Nk
/-- What is counted holds together. -/
theorem bounds_all (H : List UInt8 → Nat) (X : List Pr) : (lay 0 [trieOf H 13 X]).length = 1 ∧ upto [trieOf H 13 X] (htT (trieOf H 13 X)) = cntT (trieOf H 13 X) ∧ (0 < bksT (trieOf H 13 X) ↔ htT (trieOf H 13 X) = 14) ∧ (lay 13 [trieOf H 13 X]).length = bksT (trieOf H 13 X) ∧ mostT (trieOf H 13 X) ≠ 1 ∧ prsT (trieOf H 13 X) = X.length ∧ 1 ≤ htT (trieOf H 13 X) ∧ htT (trieOf H 13 X) ≤ 14 := by
  have hb := bks_trie H 13 X
  have hh := ht_trie H 13 X
  have hL : htL [trieOf H 13 X] = htT (trieOf H 13 X) := by simp [htL]
  have hC : cntL [trieOf H 13 X] = cntT (trieOf H 13 X) := by simp [cntL]
  have hs := lay_some 13 [trieOf H 13 X]
  rw [hL] at hs
  refine ⟨rfl, by rw [upto_all (by omega), hC], ?_, hb.symm, most_trie H 13 X (.inr (by decide)), prs_trie H 13 X, htT_pos _, hh⟩
  rw [hb, List.length_pos_iff]
  constructor
  · intro h; have := hs.1 h; omega
  · intro h; exact hs.2 (by omega)
theorem upto_le (l : List WT) (k : Nat) : upto l k ≤ cntL l := by have := cntL_upto l k; omega
theorem lens_get {t : WT} {n j : Nat} (h : j < n) : (lens t n)[j]? = some (.int .i64 (((lay j [t]).length : Nat) : Int)) := by
  unfold lens
  rw [List.getElem?_map, List.getElem?_range h]
  rfl
end Go.QS
namespace Go.Proofs.Ytbmakajadelckaa
open Go.RowKit Go.QS Go.QS.Nk
set_option linter.unusedVariables false

set_option maxRecDepth 100000 in
set_option maxHeartbeats 2000000 in
theorem gaugeBounds_c (w : World) (h g' : Hs) (hk : h.Ok) (hk' : g'.Ok) (v : Value) (l : List Pr) (hP : PS w v l) :
    Calls Try.prog 7 #[hsV h, hsV g', v] w fun e w' => e = .returned (.bool true) ∧ Ext w w' := by
  have HP := Lib.hid hP
  clear hP
  go_enter Try.func7, Try.ntmps7
  repeat' (go_not_at_region 1; (first | go_skip | go_guarded | go_step))
  obtain ⟨gh, hgh⟩ : ∃ g, g = w.heap.size := ⟨_, rfl⟩
  rw [← hgh]
  refine wp_named (fun w' => HsAt w' gh h ∧ HsAt w' (gh + 1) g' ∧ Ext w w') ⟨?_, ?_, ?_⟩ ?_
  · exact box_extG (by rw [hgh]; exact heap_new w _) ((Ext.refl (w.alloc (.cells #[.int .u64 h.k0, .int .u64 h.k1, .int .u64 h.mask] 26))).alloc (Nat.le_refl _) _)
  · have := heap_new (w.alloc (.cells #[.int .u64 h.k0, .int .u64 h.k1, .int .u64 h.mask] 26)) (.cells #[.int .u64 g'.k0, .int .u64 g'.k1, .int .u64 g'.mask] 26)
    rw [World.size_alloc, ← hgh] at this
    exact this
  · have e1 := (Ext.refl w).alloc (Nat.le_refl _) (.cells #[.int .u64 h.k0, .int .u64 h.k1, .int .u64 h.mask] 26)
    exact e1.alloc e1.size _
  clear hgh
  intro wa HW
  repeat' (first | go_at_call 23 | go_skip | go_guarded | go_step)
  refine (awake09_c wa).mono ?_
  rintro e w1 ⟨rfl, f1⟩
  have H1 : Hid (HsAt w1 gh h ∧ HsAt w1 (gh + 1) g' ∧ Ext w w1) := Lib.hid ⟨HW.out.1.ext f1, HW.out.2.1.ext f1, HW.out.2.2.trans f1⟩
  clear f1 HW
  obtain ⟨c0, c1, c2⟩ := H1.out.1.cells
  go_simp
  repeat' (first | go_at_call 24 | go_skip | go_guarded | go_step)
  refine (trie09_c h hk w1 v l (HP.out.below H1.out.2.2)).mono ?_
  rintro e w2 ⟨g, v2, rfl, f2, t2, p2⟩
  obtain ⟨X, hX⟩ : ∃ X, X = xOf l := ⟨_, rfl⟩
  obtain ⟨hXr, hXl, hXk⟩ := xOf_ok l
  rw [← hX] at t2 p2 hXr hXl hXk
  have hR2 := TR.rep 13 t2 (by omega)
  obtain ⟨n, hn⟩ : ∃ n, n = X.length := ⟨_, rfl⟩
  obtain ⟨A2, C2, rfl, _, hnC, hC9, hs2⟩ := p2
  rw [← hn] at hnC ⊢
  have H2 : Hid (HsAt w2 (gh + 1) g' ∧ Ext w w2 ∧ RepN ND w2 g (trieOf h.hash 13 X)) := Lib.hid ⟨H1.out.2.1.ext f2, H1.out.2.2.trans f2, hR2⟩
  have hn40 : n ≤ 40 := by omega
  have HX := Lib.hid (And.intro hX (And.intro hXl (And.intro hXk hn)))
  clear f2 t2 hR2 hX hXr hXk hXl c0 c1 c2 H1 hs2 hn
  obtain ⟨c0, c1, c2⟩ := H2.out.1.cells
  go_simp
  repeat' (first | go_at_call 24 | go_skip | go_guarded | go_step)
  refine (trie09_c g' hk' w2 v l (HP.out.below H2.out.2.1)).mono ?_
  rintro e w3 ⟨m, v3, rfl, f3, t3, p3⟩
  rw [← HX.out.1] at t3 p3
  have hR3 := TR.rep 13 t3 (by have := HX.out.2.1; omega)
  have HF : Hid (∀ W i, Ext w3 W → Calls Try.prog 25 #[.int .i64 i, ptr g] W fun e w' => e = .returned (foldR i X) ∧ Ext W w') := Lib.hid (fun W i f => foldX_c h.hash X HX.out.2.1 HX.out.2.2.1 W g (H2.out.2.2.ext (Ext.trans f3 f)) i)
  have HG : Hid (∀ W i, Ext w3 W → Calls Try.prog 25 #[.int .i64 i, ptr m] W fun e w' => e = .returned (foldR i X) ∧ Ext W w') := Lib.hid (fun W i f => foldX_c g'.hash X HX.out.2.1 HX.out.2.2.1 W m (hR3.ext f) i)
  obtain ⟨b1, b2, b3, b4, b5, b6, b7, b8⟩ := bounds_all h.hash X
  obtain ⟨t, ht⟩ : ∃ t, t = trieOf h.hash 13 X := ⟨_, rfl⟩
  have hcnt : cntT t ≤ 1 + 13 * X.length := by rw [ht]; exact cnt_trie _ _ _
  have hbks : bksT t ≤ cntT t := by rw [ht, bks_trie]; exact lay_le _ _
  have hmost : mostT t ≤ X.length := by rw [ht]; exact most_prs _ _ _
  have hR2 := H2.out.2.2.ext f3
  rw [← ht] at hR2 b1 b2 b3 b4 b5 b6 b7 b8
  rw [← HX.out.2.2.2] at hcnt hmost b6
  have H3 : Hid (Ext w w3 ∧ RepN ND w3 g t) := Lib.hid ⟨Ext.trans H2.out.2.1 f3, hR2⟩
  clear f3 t3 p3 hR3 c0 c1 c2 H2 ht hR2
  obtain ⟨N, hN⟩ : ∃ N, N = cntT t := ⟨_, rfl⟩
  obtain ⟨K, hK⟩ : ∃ K, K = bksT t := ⟨_, rfl⟩
  obtain ⟨D, hD⟩ : ∃ D, D = htT t := ⟨_, rfl⟩
  obtain ⟨M, hM⟩ : ∃ M, M = mostT t := ⟨_, rfl⟩
  have hst : stC (stT t 1 st0) = #[.int .i64 (N : Int), .int .i64 (K : Int), .int .i64 (n : Int), .int .i64 (D : Int), .int .i64 (M : Int)] := by
    simp [stC, stT, hN, hK, hD, hM, b6]
  have HOF := Lib.hid (gof_c w3 g t H3.out.2 (by omega) (by omega) (by omega) (by omega))
  have HLV : Hid (∀ W, Ext w3 W → Calls Try.prog 29 #[ptr g] W fun e w' => ∃ v, e = .returned v ∧ w'.ownsRow W.heap.size 3 1 v D (lens t D) ∧ Ext W w') := Lib.hid (fun W f => by rw [hD]; exact levels_c W g t (H3.out.2.ext f) (by omega) (by omega))
  rw [hst] at HOF
  have HB := Lib.hid (And.intro b1 (And.intro b2 (And.intro b4 (And.intro hD hN))))
  rw [← hK, ← hD] at b3
  rw [← hM] at b5 hmost
  rw [← hD] at b7 b8
  rw [← hN] at hcnt
  rw [← hK, ← hN] at hbks
  rw [← hK] at b4
  have HB4 := Lib.hid b4
  clear b1 b2 b4 b6 hst hN hK hD hM
  go_simp
  repeat' (first | go_at_call 28 | go_skip | go_guarded | go_step)
  refine HOF.out.mono ?_
  rintro e w4 ⟨rfl, f4⟩
  have F4 := Lib.hid f4
  clear f4 HOF
  go_simp
  repeat' (first | go_at_call 29 | go_skip | go_guarded | go_step)
  refine (HLV.out w4 F4.out).mono ?_
  rintro e w5 ⟨v5, rfl, r5, f5⟩
  obtain ⟨A5, C5, rfl⟩ := own_slice r5
  have h5 := Sl.of_own r5
  obtain ⟨A5', C5', e5, _, hD5, hC5, hs5⟩ := h5
  obtain ⟨rfl, rfl⟩ : A5' = A5 ∧ C5' = C5 := by injection e5 with h1 h2 h3; exact ⟨h1.symm, h3.symm⟩
  have H5 : Hid (Ext w3 w5 ∧ Seg w5 A5' (lens t D)) := Lib.hid ⟨Ext.trans F4.out f5, hs5⟩
  clear r5 f5 hs5 e5 HLV F4
  go_simp
  repeat' (go_not_at_region 6; (first | go_skip | go_guarded | go_step))
  obtain ⟨gs, hgs⟩ : ∃ g, g = w5.heap.size := ⟨_, rfl⟩
  rw [← hgs]
  refine wp_nameW (fun w' => w'.heap[gs]? = some (.cells #[.int .i64 (N : Int), .int .i64 (K : Int), .int .i64 (n : Int), .int .i64 (D : Int), .int .i64 (M : Int)] SGT (0, 0)) ∧ Ext w5 w') ⟨by rw [hgs]; exact heap_new w5 _, (Ext.refl _).alloc (Nat.le_refl _) _⟩ ?_
  clear hgs
  intro w6 H6
  repeat' (go_not_at_region 8; (first | go_skip | go_guarded | go_step))
  have hN9 : N ≤ 1000 := by omega
  go_loopg [13, 15, 41] D (fun gk v13 v15 v41 wr => ∃ (i s : Nat), v13 = .int .i64 s ∧ v41 = .int .i64 i ∧ i ≤ D ∧ D - i ≤ gk ∧ s ≤ N ∧ wr = w6 ∧ Hid (s = upto [t] i))
  case atStart => exact ⟨0, 0, rfl, rfl, Nat.zero_le _, by omega, Nat.zero_le _, rfl, Lib.hid rfl⟩
  case round =>
    obtain ⟨i, s, rfl, rfl, hi, hgk, hsN, rfl, HI⟩ := hrel
    rcases Nat.lt_or_ge i D with hlt | hge
    · have e1 : decide (i < D) = true := by simp [hlt]
      have hi1 : (i : Int) < (D : Int) := by omega
      obtain ⟨b, o, rfl, hc⟩ := (H5.out.2.below H6.out.2) (fun e => by have := congrArg List.length e; rw [lens_length] at this; simp at this; omega)
      have q0 := hc i _ (lens_get hlt)
      obtain ⟨k, hk9⟩ : ∃ k, k = (lay i [t]).length := ⟨_, rfl⟩
      rw [← hk9] at q0
      have hle : upto [t] (i + 1) ≤ N := by
        have := upto_le [t] (i + 1)
        have hC : cntL [t] = cntT t := by simp [cntL]
        have := HB.out.2.2.2.2
        omega
      have hup : upto [t] (i + 1) = s + k := by rw [upto, HI.out, hk9]
      rw [hup] at hle
      have HU := Lib.hid hup
      clear hc hk9 hup
      repeat' (first | go_skip | go_guarded | go_step)
      go_roundg (D - (i + 1))
      case measure => omega
      case rel => exact ⟨i + 1, s + k, by go_num, by go_num, by omega, Nat.le_refl _, hle, rfl, Lib.hid HU.out.symm⟩
    · obtain rfl : i = D := by omega
      have e1 : decide (i < i) = false := by simp
      have hsn : s = N := by rw [HI.out, HB.out.2.2.2.2, ← HB.out.2.1, HB.out.2.2.2.1]
      subst hsn
      clear hge hgk hi HI hsN
      obtain ⟨b, o, rfl, hc⟩ := (H5.out.2.below H6.out.2) (fun e => by have := congrArg List.length e; rw [lens_length] at this; simp at this; omega)
      have q0 : wr.cell? ⟨b, o, none⟩ = some (.int .i64 1) := hc 0 _ (by have := lens_get (t := t) (show 0 < i by omega); rw [HB.out.1] at this; exact this)
      have q13 : i = 14 → wr.cell? ⟨b, o + 13, none⟩ = some (.int .i64 (K : Int)) := fun e => hc 13 _ (by have := lens_get (t := t) (show 13 < i by omega); rw [HB4.out] at this; exact this)
      have hC59 : C5' ≤ 9223372036854775807 := by unfold maxLen at hC5; omega
      have hW6 := H6.out.1
      clear hc
      repeat' (go_not_at_region 12; (first | go_skip | go_guarded | go_step))
      refine bounds_12 wr gs b o i C5' s K n M C2 A2 b7 b8 hD5 hC59 b5 b3 hN9 (by omega) (by omega) (by omega) hW6 q0 q13 _ _ _ _ _ _ _ _ _ _ _ _ _ _ _ _ _ _ _ _ _ _ _ _ _ _ _ _ _ _ _ _ _ _ _ _ _ _ _ _ _ _ _ _ _ _ _ _ _ _ _ _ _ _ _ _ _ _ _ _ _ _ _ _ _ _ _ _ _ _ _ _ _ _ _ _ _ _ _ _ _ _ _ _ _ _ _ _ _ _ _ _ _ _ _ _ _ _ _ _ _ _ _ _ _ _ _ _ _ _ _ _ _ _ _ _ _ _ _ _ _ _ (by kernel_rfl) ?_
      intro u49 u50 u51 u52 u53 u54 u55 u56 u57 u58 u59 u60 u61 u62 u63 u64 u65 u66 u67 u68 u69 u70 u71 u72 u73 u74 u75 u76 u77 u78 u79 u80 u81 u82 u83 u84 u85 u86 u87 u88 u89 u90 u91 u92 u93 u94 u95 u96 u97 u98 u99 u100 u101 u102 u103 wx hx
      obtain ⟨nx, rfl⟩ := hx
      have H7 : Hid (Ext w3 (wr.drewN nx)) := Lib.hid (Ext.trans H5.out.1 (Ext.trans H6.out.2 (below_drewN (Ext.refl _) nx)))
      generalize wr.drewN nx = w7 at H7 ⊢
      clear q0 q13 hW6
      (try simp only [Exit.inBlock, Exit.then])
      repeat' (go_not_at_region 15; (first | go_skip | go_guarded | go_step))
      go_loopg [16, 17, 18, 19, 20, 105] 6 (fun gk v16 v17 v18 v19 v20 v105 wx => ∃ (k : Nat), v105 = .int .i64 k ∧ k ≤ 6 ∧ 6 - k ≤ gk ∧ Hid (Ext w3 wx))
      case atStart => exact ⟨0, rfl, by omega, by omega, H7⟩
      case round =>
        obtain ⟨k, rfl, hk6, hgk, HI⟩ := hrel
        rcases Nat.lt_or_ge k 6 with hlt | hge
        · have e3 : (k : Int) < 6 := by omega
          have e4 : decide (k < 6) = true := by simp [hlt]
          obtain ⟨fv, hfv⟩ : ∃ fv, fv = foldN k X := ⟨_, rfl⟩
          obtain ⟨fd, hfd⟩ : ∃ fd, fd = decide (0 ≤ (k : Int) ∧ (k : Int) ≤ 5) := ⟨_, rfl⟩
          have hR : foldR k X = .tuple #[.int .u64 (fv : Int), .bool fd] := by rw [hfv, hfd]; rfl
          have HA := Lib.hid (HF.out wr k HI.out)
          rw [hR] at HA
          have HR := Lib.hid hR
          clear hfv hfd hR
          repeat' (first | go_at_call 25 | go_skip | go_guarded | go_step)
          refine HA.out.mono ?_
          rintro e w8 ⟨rfl, f8⟩
          have F8 := Lib.hid (Ext.trans HI.out f8)
          have HA2 := Lib.hid (HG.out w8 k F8.out)
          rw [HR.out] at HA2
          clear f8
          go_simp
          repeat' (first | go_at_call 25 | go_skip | go_guarded | go_step)
          refine HA2.out.mono ?_
          rintro e w9 ⟨rfl, f9⟩
          have F9 := Lib.hid (Ext.trans F8.out f9)
          clear f9
          go_simp
          repeat' (first | go_skip | go_guarded | go_step)
          go_roundg (6 - (k + 1))
          case measure => omega
          case rel => exact ⟨k + 1, by go_num, by omega, Nat.le_refl _, F9⟩
        · obtain rfl : k = 6 := by omega
          repeat' (first | go_skip | go_guarded | go_step)
          go_ret
          exact ⟨rfl, Ext.trans H3.out.1 HI.out⟩
end Go.Proofs.Ytbmakajadelckaa
