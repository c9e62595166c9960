/- CodeNums: its walk. -/
import Derived.Test.YtigoffdehdobiaaGreatCxm
set_option linter.unusedVariables false
set_option linter.unusedSimpArgs false
namespace Go.Proofs.YtigoffdehdobiaaGreat
open Go.RowKit Go.QS Go.QS.Nk
set_option linter.unusedVariables false

set_option maxRecDepth 100000 in
set_option maxHeartbeats 4000000 in
theorem codenums_c (w : World) (vf : Value) (F0 s0 : List UInt8) (n : Nat) (hF : BS w vf F0) (hn : n < 18446744073709551616) :
    Calls Tryz.prog 5 #[vf, .int .u64 (n : Int), str s0] w fun e w' => e = .returned (.bool true) ∧ Ext w w' := by
  have HF := Lib.hid hF
  obtain ⟨M, hM⟩ : ∃ M : Nat, M = 16777217 := ⟨_, rfl⟩
  have mk : ∀ W : World, (Instr.makeSlice 22 (.int .i64 16777217) (.int .i64 16777217)).run Tryz.prog W = .ok (.slice (some ⟨W.heap.size, 0, none⟩) M M) (W.alloc (.cells (madeCells #[.int .u8 0] M) 5)) := fun W => by
    have := run_make_row' (P := Tryz.prog) 22 5 (.int .u8 0) 1 Tryz.underlying22 infoU8m rfl .i64 .i64 M (by omega) (by omega) W
    have e : ((M : Nat) : Int) = 16777217 := by omega
    rw [e] at this
    exact this
  have HM : Hid (16777216 < M) := Lib.hid (by omega)
  obtain ⟨k, hk⟩ : ∃ k, k = min s0.length 200 := ⟨_, rfl⟩
  have hmin : min (s0.length : Int) 200 = (k : Int) := by omega
  have hk1 : (k : Int) ≤ (s0.length : Int) := by omega
  have hk2 : k ≤ s0.length := by omega
  have hk9 : k ≤ 200 := by omega
  clear hF hM hk
  go_enter Tryz.func5, Tryz.ntmps5
  repeat' (first | go_at_call 6 | go_skip | go_guarded | go_step)
  refine (awakeC_c w).mono ?_
  rintro e w1 ⟨rfl, f1⟩
  replace f1 := Lib.hid f1
  go_simp
  repeat' (go_not_at_region 3; (first | go_skip | go_guarded | go_step))
  obtain ⟨F, hFF⟩ : ∃ F, F = F0.take 30 := ⟨_, rfl⟩
  have hFl : F.length ≤ 30 := by rw [hFF, List.length_take]; omega
  obtain ⟨s, hs⟩ : ∃ s, s = s0.take k := ⟨_, rfl⟩
  have hsl : s.length ≤ 200 := by rw [hs, List.length_take]; omega
  have HFS := Lib.hid (And.intro hFF hs)
  clear hFF hs
  go_cut [0, 2] (fun v0 v2 wx => Hid (v2 = str s ∧ wx.ownsRow w.heap.size 5 1 v0 F.length (encB F) ∧ Ext w wx))
  case first =>
    go_region_held3 (fun y => True) (trivial)
      (first
        | (go_at_call 7; refine (cutB_c _ vf F0 30 (by decide) (HF.out.below (Ext.trans f1.out (below_drewN (Ext.refl w1) 1)))).mono ?_; rintro e w2 ⟨v2, rfl, r2, f2⟩; have R2 := Lib.hid r2; have F2 : Hid (Ext w w2) := Lib.hid (Ext.trans f1.out (Ext.trans (below_drewN (Ext.refl w1) 1) f2)); clear r2 f2))
    all_goals
      repeat' (go_not_at_region 4; go_step)
      go_meet
      exact Lib.hid ⟨by rw [HFS.out.2], by rw [HFS.out.1]; exact own_base R2.out (Ext.trans f1.out (below_drewN (Ext.refl w1) 1)).size, F2.out⟩
  case rest =>
  obtain ⟨rfl, r2, f2⟩ := hcut.out
  obtain ⟨A2, C2, rfl⟩ := own_sliceB r2
  have R2 := Lib.hid (And.intro r2 f2)
  clear r2 f2 hcut hmin hk1 hk2 hk9 f1
  go_simp
  have HC4 := Lib.hid (cutB_c wc _ F 30 (by decide) (BS.of_own R2.out.1))
  repeat' (first | go_at_call 7 | go_skip | go_guarded | go_step)
  refine HC4.out.mono ?_
  rintro e w3 ⟨v3, rfl, r3, f3⟩
  rw [List.take_of_length_le hFl] at r3
  have H3 := Lib.hid (And.intro r3 f3)
  clear r3 f3 HC4
  go_simp
  repeat' (first | go_skip | go_guarded | (at_builtin; refine wpList_appE (W := wc) rfl (.tmp 25) (.tmp 26) _ rfl 5 1 1 Tryz.underlying22 infoU8 (by decide) _ F.length (encB F) rfl (H3.out.1.alloc _) (H3.out.2.alloc H3.out.2.size _) _ 1 1 [.int .u8 90] rfl rfl (Seg.new _ [_] _ rfl) (by simp [Value.oneCell']) (by unfold maxLen; omega) (by omega) ?_; intro v4 w4 hown4 hb4) | go_not_at_region 5; go_step)
  obtain ⟨A4, C4, rfl, hl4, hn4, hC4, hs4⟩ := Sl.of_own hown4
  obtain ⟨b4, o4, rfl, hq4⟩ := hs4 (by simp)
  have hc4 := hq4 F.length (.int .u8 90) (by simp [encB])
  have hup := run_uptoB Tryz.underlying22 infoU8 (some ⟨b4, o4, none⟩) (n := F.length + 1) (c := C4) (up := F.length) (by omega) hn4
  have hB4 : BS w4 (.slice (some ⟨b4, o4, none⟩) F.length C4) F := ⟨_, C4, rfl, by rw [encB_length]; omega, by omega, hC4, fun _ => ⟨b4, o4, rfl, fun j u hj => hq4 j u (by rw [List.getElem?_append_left (List.getElem?_eq_some_iff.1 hj).1]; exact hj)⟩⟩
  have H4 := Lib.hid (And.intro hc4 (And.intro hB4 (Ext.trans R2.out.2 hb4)))
  have H4E := Lib.hid hb4
  have hi4 : (F.length : Int) < (F.length : Int) + 1 := by omega
  clear hown4 hb4 hl4 hs4 hq4 hc4 hB4 H3
  have HN5 := Lib.hid (wnum_c w4 _ F n H4.out.2.1 hn (by omega))
  have hpl := putNum_len 9 n (by omega)
  have hpt := putNum_len 9 s.length (by omega)
  repeat' (first | go_at_call 18 | go_skip | go_guarded | go_step)
  refine HN5.out.mono ?_
  rintro e w5 ⟨v5, rfl, r5, f5⟩
  have H5 := Lib.hid (And.intro r5 f5)
  clear r5 f5 HN5 hup
  go_simp
  have HT6 := Lib.hid (wtext_c w5 v5 (F ++ putNum n) s (BS.of_own H5.out.1) (by rw [List.length_append]; omega))
  repeat' (first | go_at_call 17 | go_skip | go_guarded | go_step)
  refine HT6.out.mono ?_
  rintro e w6 ⟨v6, rfl, r6, f6⟩
  obtain ⟨P, hP⟩ : ∃ P, P = F ++ putNum n ++ putText s := ⟨_, rfl⟩
  rw [← hP] at r6
  obtain ⟨Q, hQ⟩ : ∃ Q, Q = putNum n ++ putText s := ⟨_, rfl⟩
  have hPQ : P = F ++ Q := by rw [hP, hQ, List.append_assoc]
  have hQd : P.drop F.length = Q := by rw [hPQ, List.drop_left]
  have hPl : P.length = F.length + Q.length := by rw [hPQ, List.length_append]
  have hQl : Q.length ≤ 300 := by rw [hQ, putText, List.length_append, List.length_append]; omega
  obtain ⟨A6, C6, rfl, hl6, hn6, hC6, hs6⟩ := BS.of_own r6
  obtain ⟨PL, hPL⟩ : ∃ PL, PL = P.length := ⟨_, rfl⟩
  rw [← hPL] at hn6 hPl ⊢
  obtain ⟨A7, hrun7, hseg7, _⟩ := run_fromB Tryz.underlying22 infoU8 A6 (n := PL) (c := C6) (i := F.length) (by omega) hn6
  have hB7 : BS w6 (.slice A7 (PL - F.length) (C6 - F.length)) Q := by
    refine ⟨A7, C6 - F.length, by rw [show PL - F.length = Q.length by omega], by rw [encB_length]; omega, by omega, by omega, ?_⟩
    have := hseg7 w6 (encB P) (by rw [encB_length, hPL]) hs6
    rw [← encB_drop, hQd] at this
    exact this
  have H6 := Lib.hid (And.intro hB7 (And.intro (BS.of_own r6) (And.intro (Ext.trans H5.out.2 f6) (And.intro hP (And.intro hQ (And.intro hPL hPl))))))
  have hFPL : F.length ≤ PL := by omega
  have hFPi : (F.length : Int) ≤ (PL : Int) := by omega
  clear r6 f6 HT6 hseg7 hB7 hs6 hl6 hP hQ hPQ hQd hPL hPl
  go_simp
  have HO7 := Lib.hid (of_c w6 _ Q H6.out.1 (by omega))
  repeat' (first | go_at_call 19 | go_skip | go_guarded | go_step)
  refine HO7.out.mono ?_
  rintro e w7 ⟨g, rfl, i7, f7, hg7⟩
  have H7 := Lib.hid (And.intro i7 (And.intro (Ext.trans H6.out.2.2.1 f7) (And.intro f7 hg7)))
  clear i7 f7 hg7 HO7 hrun7
  go_simp
  repeat' (first | (go_at_call 20; refine (fail0_c _ _).mono ?_; rintro x y ⟨rfl, rfl⟩; go_simp) | (go_not_at_region 9; (first | go_skip | go_guarded | go_step)))
  repeat' (first | go_at_call 21 | go_skip | go_guarded | go_step)
  have hE8 : Ext w7 (w7.alloc (.cells (madeCells #[.int .u8 0] M) 5)) := (Ext.refl _).alloc (Nat.le_refl _) _
  refine (readtree_long _ _ M M HM.out).mono ?_
  rintro e w8 ⟨rfl, f8⟩
  have H8 : Hid (Ext w7 w8) := Lib.hid (Ext.trans hE8 f8)
  clear hE8 f8
  go_simp
  repeat' (go_not_at_region 10; (first | go_skip | go_guarded | go_step))
  refine wp_nameC (fun w' => Ext w7 w') (H8.out.alloc H8.out.size _) ?_
  clear H8
  intro w9 H9
  repeat' (first | go_at_call 8 | go_skip | go_guarded | go_step)
  have hE10 : Hid (Ext w7 (w9.alloc (.cells (madeCells #[.int .u8 0] M) 5))) := Lib.hid (H9.out.alloc H9.out.size _)
  refine (readchanges_long _ _ M M HM.out).mono ?_
  rintro e w10 ⟨rfl, rfl⟩
  obtain ⟨w10, hw10⟩ : ∃ x, x = w9.alloc (.cells (madeCells #[.int .u8 0] M) 5) := ⟨_, rfl⟩
  rw [← hw10] at hE10 ⊢
  clear hw10 H9
  go_simp
  repeat' (go_not_at_region 11; (first | go_skip | go_guarded | go_step))
  have E4 : Hid (Ext w4 w10) := Lib.hid (Ext.trans H6.out.2.2.1 (Ext.trans H7.out.2.2.1 hE10.out))
  have hfin : Hid (BS w10 (.slice A2 F.length C2) F ∧ BS w10 (.slice A6 PL C6) P ∧ InAt (fun b => w6.heap.size ≤ b ∧ b < g) g w10 Q 0 ∧ Ext w w10 ∧ w.heap.size ≤ g ∧ w10.cell? ⟨b4, o4 + F.length, none⟩ = some (.int .u8 90) ∧ Q = putNum n ++ putText s ∧ P = F ++ putNum n ++ putText s) := Lib.hid
    ⟨(BS.of_own R2.out.1).below (Ext.trans H4E.out E4.out), by
      have := H6.out.2.1.below (Ext.trans H7.out.2.2.1 hE10.out)
      rw [← H6.out.2.2.2.2.2.1] at this; exact this, H7.out.1.ext hE10.out, Ext.trans H4.out.2.2 E4.out, by
      have h1 := (Ext.trans H4.out.2.2 H6.out.2.2.1).size
      have h2 := H7.out.2.2.2
      omega, (World.cell?_of_block (E4.out.block b4 (World.block_lt_of_cell? w4 _ H4.out.1))).trans H4.out.1, H6.out.2.2.2.2.1, H6.out.2.2.2.1⟩
  clear E4 R2 H4 H4E H5 H6 H7 hE10 HF HFS
  refine nums_11 w w10 F s P Q n PL C2 C4 C6 b4 o4 g w6.heap.size A2 A6 hn hFl hsl hfin _ _ _ _ _ _ _ _ _ _ _ _ _ _ _ _ _ _ _ _ _ _ _ _ _ _ _ _ _ _ _ _ _ _ _ _ _ _ _ _ _ _ _ _ _ _ _ _ _ _ _ _ _ _ _ _ _ _ _ _ _ _ _ _ _ _ _ _ _ _ _ _ _ _ _ _ _ _ _ _ _ _ _ _ _ _ _ _ _ _ _ _ _ _ _ _ _ _ _ _ _ _ _ _ _ _ _ _ _ _ _ _ _ _ _ _ _ _ _ _ (by kernel_rfl) ?_
  intro u53 u54 u55 u56 u57 u58 u59 u60 u61 u62 u63 u64 u65 u66 u67 u68 u69 u70 u71 u72 u73 u74 u75 u76 u77 u78 u79 u80 u81 u82 u83 u84 u85 u86 u87 u88 u89 u90 u91 u92 u93 u94 u95 u96 u97 u98 u99 u100 u101 u102 u103 u104 u105 u106 u107 u108 u109 u110 u111 u112 u113 u114 u115 u116 u117 u118 u119 u120 u121 u122 u123 u124 u125 u126 u127 u128 wx hE
  repeat' (first | go_skip | go_guarded | go_step)
  go_ret
  exact ⟨rfl, hE⟩
end Go.Proofs.YtigoffdehdobiaaGreat
