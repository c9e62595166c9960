/- GaugeCounts: its walk. -/
import Derived.Test.YtkfiinmoecibcaaWkh
import Derived.Test.YtkfiinmoecibcaaWke
import Derived.Test.YtkfiinmoecibcaaWkf
set_option linter.unusedVariables false
set_option linter.unusedSimpArgs false
namespace Go.Proofs.Ytkfiinmoecibcaa
open Go.RowKit Go.QS Go.QS.Nk
set_option linter.unusedVariables false

set_option maxRecDepth 100000 in
set_option maxHeartbeats 2000000 in
theorem gaugeCounts_c (w : World) (h : Hs) (hk : h.Ok) (v : Value) (l : List Pr) (hP : PS w v l) :
    Calls Try.prog 8 #[hsV h, v] w fun e w' => e = .returned (.bool true) ∧ Ext w w' := by
  have HP := Lib.hid hP
  clear hP
  go_enter Try.func8, Try.ntmps8
  repeat' (go_not_at_region 1; (first | go_skip | go_guarded | go_step))
  obtain ⟨gh, hgh⟩ : ∃ g, g = w.heap.size := ⟨_, rfl⟩
  rw [← hgh]
  refine wp_named (fun w' => HsAt w' gh h ∧ Ext w w') ⟨by rw [hgh]; exact heap_new w _, (Ext.refl w).alloc (Nat.le_refl _) _⟩ ?_
  clear hgh
  intro wa HW
  repeat' (first | go_at_call 26 | go_skip | go_guarded | go_step)
  refine (awake09_c wa).mono ?_
  rintro e w1 ⟨rfl, f1⟩
  have H1 : Hid (HsAt w1 gh h ∧ Ext w w1) := Lib.hid ⟨HW.out.1.ext f1, HW.out.2.trans f1⟩
  clear f1 HW
  obtain ⟨c0, c1, c2⟩ := H1.out.1.cells
  go_simp
  repeat' (first | go_at_call 27 | go_skip | go_guarded | go_step)
  refine (trie09_c h hk w1 v l (HP.out.below H1.out.2)).mono ?_
  rintro e w2 ⟨g, v2, rfl, f2, t2, p2⟩
  obtain ⟨X, hX⟩ : ∃ X, X = xOf l := ⟨_, rfl⟩
  obtain ⟨hXr, hXl, hXk⟩ := xOf_ok l
  rw [← hX] at t2 p2 hXr hXl hXk
  have hR2 := TR.rep 13 t2 (by omega)
  obtain ⟨t, ht⟩ : ∃ t, t = trieOf h.hash 13 X := ⟨_, rfl⟩
  rw [← ht] at hR2
  have hcnt : cntT t ≤ 1 + 13 * X.length := by rw [ht]; exact cnt_trie _ _ _
  have hht : htT t ≤ 14 := by rw [ht]; exact ht_trie _ _ _
  have hprs : prsT t = X.length := by rw [ht]; exact prs_trie _ _ _
  have hbks : bksT t ≤ cntT t := by rw [ht, bks_trie]; exact lay_le _ _
  have hmost : mostT t ≤ X.length := by rw [ht]; exact most_prs _ _ _
  have H2 : Hid (HsAt w2 gh h ∧ Ext w w2 ∧ RepN ND w2 g t ∧ PS w2 v2 X) := Lib.hid ⟨H1.out.1.ext f2, H1.out.2.trans f2, hR2, p2⟩
  have HK := Lib.hid hXk
  have HT := Lib.hid (And.intro ht hprs)
  clear f2 t2 p2 hR2 hX hXr hXk c0 c1 c2 ht hprs
  obtain ⟨c0, c1, c2⟩ := H2.out.1.cells
  go_simp
  repeat' (first | go_at_call 28 | go_skip | go_guarded | go_step)
  refine (rof6_c h hk w2 v2 X H2.out.2.2.2 (by omega) (fun q hq => by have := (HK.out q hq).1; omega)).mono ?_
  rintro e w3 ⟨q, rfl, f3, d3⟩
  have H3 : Hid (Ext w w3 ∧ RepN ND w3 g t ∧ PS w3 v2 X ∧ DR h.hash w3 13 q X) := Lib.hid ⟨H2.out.2.1.trans f3, H2.out.2.2.1.ext f3, H2.out.2.2.2.below f3, d3⟩
  clear f3 d3 c0 c1 c2 H2 H1
  go_simp
  repeat' (go_not_at_region 8; (first | go_skip | go_guarded | go_step))
  go_loopg [8, 9, 10, 11, 33] 15 (fun gk v8 v9 v10 v11 v33 wr => ∃ (c n s : Nat), v33 = .int .i64 c ∧ v9 = .int .i64 s ∧ c ≤ 15 ∧ 15 - c ≤ gk ∧ n ≤ c ∧ Hid (n = min c (htT t) ∧ s = upto [t] n ∧ Ext w3 wr ∧ wr.ownsRow w3.heap.size 3 1 v8 n (lens t n)))
  case atStart => exact ⟨0, 0, 0, rfl, rfl, Nat.zero_le _, by omega, Nat.le_refl _, Lib.hid ⟨by omega, rfl, Ext.refl _, World.ownsRow_nil _ _ _ _⟩⟩
  case round =>
    obtain ⟨c, n, s, rfl, rfl, hc, hgk, hnc, HI⟩ := hrel
    rcases Nat.lt_or_ge c 15 with hlt | hge
    · have d1 : decide (c < 15) = true := by simp [hlt]
      have hc1 : (c : Int) < 15 := by omega
      have hlv := level_c c 13 q X H3.out.2.2.2 (by omega) (by omega) (Nat.le_refl _) wr HI.out.2.2.1
      rw [← HT.out.1] at hlv
      obtain ⟨a, ha⟩ : ∃ a, a = (lay c [t]).length := ⟨_, rfl⟩
      have ha9 : a ≤ 1000 := by rw [ha]; have := lay_le t c; omega
      have hso := lay_some c [t]
      have hhl : htL [t] = htT t := by simp [htL]
      have hup := cntL_upto [t] n
      have hcl : cntL [t] = cntT t := by simp [cntL]
      have hs9 : s ≤ 1000 := by have := HI.out.2.1; omega
      have hpos : 0 < a ↔ c < htT t := by
        rw [ha, ← hhl, ← hso]
        exact List.length_pos_iff
      rw [← ha] at hlv
      have HLV := Lib.hid hlv
      have HA := Lib.hid (And.intro ha hpos)
      clear hlv ha hso hhl hup hcl hpos
      repeat' (first | go_at_call 29 | go_skip | go_guarded | go_step)
      refine HLV.out.mono ?_
      rintro e w4 ⟨rfl, f4⟩
      have H4 : Hid (Ext w3 w4 ∧ w4.ownsRow w3.heap.size 3 1 u8 n (lens t n)) := Lib.hid ⟨HI.out.2.2.1.trans f4, row_ext HI.out.2.2.2 f4⟩
      clear f4 HLV
      go_simp
      rcases Nat.eq_zero_or_pos a with h0 | h0
      · have hb : ¬ c < htT t := fun e => by have := HA.out.2.2 e; omega
        subst h0
        repeat' (first | go_skip | go_guarded | go_step)
        go_roundg (15 - (c + 1))
        case measure => omega
        case rel => exact ⟨c + 1, n, s, by go_num, rfl, by omega, Nat.le_refl _, by omega, Lib.hid ⟨by have := HI.out.1; omega, HI.out.2.1, H4.out.1, H4.out.2⟩⟩
      · have hb : c < htT t := HA.out.2.1 h0
        have hnc2 : n = c := by have := HI.out.1; omega
        have d2 : decide (0 < a) = true := by simp [h0]
        have hai : (0 : Int) < (a : Int) := by omega
        repeat' (first
          | (at_builtin; refine wpList_app rfl (.tmp 41) (.tmp 43) _ rfl w3.heap.size 3 1 8 Try.underlying72 infoInt (by decide) _ n (lens t n) rfl (row_ext H4.out.2 ((Ext.refl _).alloc (Nat.le_refl _) _)) _ 1 1 [.int .i64 (a : Int)] rfl rfl (Seg.new _ [_] _ (by simp)) (by intro u hu; simp at hu; rw [hu]; rfl) (by unfold maxLen; omega) (by omega) (by have := H4.out.1.size; simp; omega) ?_; intro v8 w5 r5 g5 n5)
          | go_skip | go_guarded | go_step)
        have H5 : Hid (Ext w3 w5 ∧ w5.ownsRow w3.heap.size 3 1 v8 (n + 1) (lens t (n + 1))) := Lib.hid (by
          have hE := H4.out.1
          refine ⟨(hE.alloc hE.size _).grown g5 (by have := hE.size; simp; omega) fun k hk => (H4.out.2.lt k hk).1, ?_⟩
          rw [lens_succ, show (lay n [t]).length = a by rw [hnc2]; exact HA.out.1.symm]
          exact r5)
        clear r5 g5 n5
        go_roundg (15 - (c + 1))
        case measure => omega
        case rel => exact ⟨c + 1, n + 1, s + a, by go_num, by go_num, by omega, Nat.le_refl _, by omega, Lib.hid ⟨by omega, by rw [upto, ← HI.out.2.1, show (lay n [t]).length = a by rw [hnc2]; exact HA.out.1.symm], H5.out.1, H5.out.2⟩⟩
    · obtain rfl : c = 15 := by omega
      have hn : n = htT t := by have := HI.out.1; omega
      have hs : s = cntT t := by
        have h1 : htL [t] = htT t := by simp [htL]
        have h2 : cntL [t] = cntT t := by simp [cntL]
        have h3 := upto_all (l := [t]) (k := n) (by omega)
        have := HI.out.2.1
        omega
      have H6 : Hid (Ext w wr ∧ RepN ND wr g t ∧ PS wr v2 X ∧ DR h.hash wr 13 q X ∧ wr.ownsRow w3.heap.size 3 1 u8 (htT t) (lens t (htT t))) := Lib.hid ⟨H3.out.1.trans HI.out.2.2.1, H3.out.2.1.ext HI.out.2.2.1, H3.out.2.2.1.below HI.out.2.2.1, DR.ext HI.out.2.2.1 13 H3.out.2.2.2, by rw [← hn]; exact HI.out.2.2.2⟩
      clear HI H3 hgk
      subst hs
      have hbk := buckets_c 13 q X H6.out.2.2.2.1 (by omega) (Nat.le_refl _) wr (Ext.refl _)
      rw [← HT.out.1] at hbk
      have HBK := Lib.hid hbk
      clear hbk hn
      repeat' (first | go_at_call 30 | go_skip | go_guarded | go_step)
      refine HBK.out.mono ?_
      rintro e w7 ⟨rfl, f7⟩
      have H7 : Hid (Ext w w7 ∧ RepN ND w7 g t ∧ PS w7 v2 X ∧ w7.ownsRow w3.heap.size 3 1 u8 (htT t) (lens t (htT t))) := Lib.hid ⟨H6.out.1.trans f7, H6.out.2.1.ext f7, H6.out.2.2.1.below f7, row_ext H6.out.2.2.2.2 f7⟩
      clear f7 H6 HBK
      go_simp
      repeat' (first | go_at_call 32 | go_skip | go_guarded | go_step)
      refine (levels_c w7 g t H7.out.2.1 (by omega) (by omega)).mono ?_
      rintro e w8 ⟨v8, rfl, r8, f8⟩
      have H8 : Hid (Ext w w8 ∧ RepN ND w8 g t ∧ PS w8 v2 X ∧ Sl w8 1 u8 (htT t) (lens t (htT t)) ∧ Sl w8 1 v8 (htT t) (lens t (htT t))) := Lib.hid ⟨H7.out.1.trans f8, H7.out.2.1.ext f8, H7.out.2.2.1.below f8, Sl.of_own (row_ext H7.out.2.2.2 f8), Sl.of_own r8⟩
      clear f8 r8 H7
      obtain ⟨m, hm⟩ : ∃ m, m = htT t := ⟨_, rfl⟩
      have hm14 : m ≤ 14 := by omega
      rw [← hm] at H8
      have HM := Lib.hid hm
      have heq : Calls Try.prog 31 #[v8, u8] w8 fun e w' => e = .returned (.bool true) ∧ Ext w8 w' := by
        have h1 := H8.out.2.2.2.2
        have h2 := H8.out.2.2.2.1
        rw [lens_ints] at h1 h2
        exact eqI_c w8 v8 u8 _ m (by simp) h1 h2 (by omega)
      have HEQ := Lib.hid heq
      clear heq hm
      go_simp
      repeat' (first | go_at_call 31 | go_skip | go_guarded | go_step)
      refine HEQ.out.mono ?_
      rintro e w9 ⟨rfl, f9⟩
      have H9 : Hid (Ext w w9 ∧ RepN ND w9 g t) := Lib.hid ⟨H8.out.1.trans f9, H8.out.2.1.ext f9⟩
      obtain ⟨A2, C2, rfl, _, _, _, _⟩ := H8.out.2.2.1
      obtain ⟨A8, C8, rfl, _, _, _, _⟩ := H8.out.2.2.2.1
      have hst : stC (stT t 1 st0) = #[.int .i64 (cntT t : Int), .int .i64 (bksT t : Int), .int .i64 (X.length : Int), .int .i64 (m : Int), .int .i64 (mostT t : Int)] := by
        have h1 := HT.out.2
        have h2 := HM.out
        simp only [stT, stC, Nat.zero_add, h1, h2]
        rw [show max 0 (1 - 1 + htT t) = htT t by omega, show max 0 (mostT t) = mostT t by omega]
      have hg := gof_c w9 g t H9.out.2 (by omega) (by omega) (by have := HT.out.2; omega) (by omega)
      rw [hst] at hg
      obtain ⟨b1, hb1⟩ : ∃ x, x = cntT t := ⟨_, rfl⟩
      obtain ⟨b2, hb2⟩ : ∃ x, x = bksT t := ⟨_, rfl⟩
      obtain ⟨b3, hb3⟩ : ∃ x, x = X.length := ⟨_, rfl⟩
      obtain ⟨b5, hb5⟩ : ∃ x, x = mostT t := ⟨_, rfl⟩
      rw [← hb1, ← hb2, ← hb3, ← hb5] at hg ⊢
      have HG := Lib.hid hg
      clear f9 H8 HEQ hst hg hb1 hb2 hb3 hb5
      go_simp
      repeat' (first | go_at_call 33 | go_skip | go_guarded | go_step)
      refine HG.out.mono ?_
      rintro e w10 ⟨rfl, f10⟩
      have H10 := Lib.hid (H9.out.1.trans f10)
      clear f10 HG
      go_simp
      repeat' (first | go_skip | go_guarded | go_step)
      go_ret
      exact ⟨rfl, H10.out⟩
end Go.Proofs.Ytkfiinmoecibcaa
