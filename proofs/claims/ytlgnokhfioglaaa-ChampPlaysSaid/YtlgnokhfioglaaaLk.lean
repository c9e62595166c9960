/- ChampPlays, walked. -/
import Derived.Test.YtlgnokhfioglaaaBp
import Derived.Test.YtlgnokhfioglaaaBq
import Derived.Deep.LoopGhost
set_option linter.unusedVariables false
set_option linter.unusedSimpArgs false
namespace Go.Proofs.Ytlgnokhfioglaaa
open Go.RowKit Go.QS Go.QS.Nk
set_option linter.unusedVariables false

theorem seg_act5 {w : World} {A : Option Addr} {l : List Ac} (hs : Seg w A (flatE encA l)) {i : Nat} {a : Ac} (h : l[i]? = some a) :
    ∃ b o, A = some ⟨b, o, none⟩ ∧ w.cell? ⟨b, o + i * 5, none⟩ = some (.int .u8 a.1.toNat) ∧ w.cell? ⟨b, o + i * 5 + 1, none⟩ = some (str a.2.1.1) ∧ w.cell? ⟨b, o + i * 5 + 2, none⟩ = some (str a.2.1.2) ∧ w.cell? ⟨b, o + i * 5 + 3, none⟩ = some (.int .u8 a.2.2.1.toNat) ∧ w.cell? ⟨b, o + i * 5 + 4, none⟩ = some (.bool a.2.2.2) := by
  obtain ⟨b, o, hA, hq⟩ := seg_el encA_len (by decide) hs h
  refine ⟨b, o, hA, hq 0 _ rfl, ?_, ?_, ?_, ?_⟩
  · rw [Nat.add_assoc]; exact hq 1 _ rfl
  · rw [Nat.add_assoc]; exact hq 2 _ rfl
  · rw [Nat.add_assoc]; exact hq 3 _ rfl
  · rw [Nat.add_assoc]; exact hq 4 _ rfl
set_option maxRecDepth 100000 in
set_option maxHeartbeats 4000000 in
theorem champPlays_c (w : World) (h : Hs) (hk : h.Ok) (va vs : Value) (L : List Ac) (S : List (List UInt8)) (ha : Sl w 5 va L.length (flatE encA L)) (hs : Sl w 1 vs S.length (flatE encS S)) :
    Calls Try.prog 7 #[hsV h, va, vs] w fun e w' => e = .returned (.bool true) ∧ Ext w w' := by
  obtain ⟨A, C, rfl, _, hn, hC, hsA⟩ := ha
  obtain ⟨B, D, rfl, _, hm, hD, hsB⟩ := hs
  obtain ⟨n, hn2⟩ : ∃ n, n = L.length := ⟨_, rfl⟩
  obtain ⟨m, hm2⟩ : ∃ m, m = S.length := ⟨_, rfl⟩
  have hn9 : n ≤ 9223372036854775807 := by unfold maxLen at hC; omega
  have hm9 : m ≤ 9223372036854775807 := by unfold maxLen at hD; omega
  rw [← hn2] at hn ⊢
  rw [← hm2] at hm ⊢
  have HN : Hid (n = L.length ∧ m = S.length ∧ Seg w A (flatE encA L) ∧ Seg w B (flatE encS S)) := Lib.hid ⟨hn2, hm2, hsA, hsB⟩
  clear hn2 hm2 hsA hsB
  go_enter Try.func7, Try.ntmps7
  repeat' (first | go_at_call 37 | go_skip | go_guarded | go_step)
  obtain ⟨gh, hgh⟩ : ∃ g, g = w.heap.size := ⟨_, rfl⟩
  rw [← hgh]
  refine calls_named (fun w' => HsAt w' gh h ∧ Ext w w') ⟨by rw [hgh]; exact heap_new w _, (Ext.refl w).alloc (Nat.le_refl _) _⟩ ?_
  clear hgh
  intro w0 HW
  refine (awake6_c w0).mono ?_
  rintro e w1 ⟨rfl, f1⟩
  have H1 : Hid (HsAt w1 gh h ∧ Ext w w1) := Lib.hid ⟨HW.out.1.ext f1, HW.out.2.trans f1⟩
  clear f1
  go_simp
  repeat' (first | go_at_call 38 | go_skip | go_guarded | go_step)
  refine (empty_c h w1).mono ?_
  rintro e wa ⟨g0, rfl, r0, f0⟩
  have H00 : Hid (Ext w wa ∧ St6 wa gh h g0 (.slice none 0 0) []) := Lib.hid ⟨H1.out.2.trans f0, ⟨H1.out.1.ext f0, r0, OkL.nil, Sl.nil _ _⟩⟩
  clear f0 r0
  go_simp
  repeat' (go_not_at_region 6; (first | go_skip | go_guarded | go_step))
  go_loopg [7, 8, 33] n (fun gk v7 v8 v33 wr => ∃ (i g : Nat) (X : List Pr), v7 = ptr g ∧ v33 = .int .i64 i ∧ i ≤ n ∧ n - i ≤ gk ∧ Hid (Ext w wr ∧ St6 wr gh h g v8 X ∧ X.length ≤ i ∧ X.length ≤ 50))
  case atStart => exact ⟨0, g0, [], rfl, rfl, Nat.zero_le _, by omega, Lib.hid ⟨H00.out.1, H00.out.2, Nat.le_refl _, by simp⟩⟩
  case round =>
    obtain ⟨i, g, X, rfl, rfl, hin, hgk, HI⟩ := hrel
    rcases Nat.lt_or_ge i n with hlt | hge
    · have d1 : decide (i < n) = true := by simp [hlt]
      obtain ⟨a, hp⟩ := get_of_lt L (show i < L.length by have := HN.out.1; omega)
      obtain ⟨b, o, rfl, q0, q1, q2, q3, q4⟩ := seg_act5 (HN.out.2.2.1.below HI.out.1) hp
      have hi1 : (i : Int) < (n : Int) := by omega
      obtain ⟨ad, ⟨ak, av⟩, aa, ao⟩ := a
      clear hp
      by_cases h60 : i < 50
      · have d2 : decide (50 ≤ i) = false := by simp; omega
        have d2' : decide ((50 : Int) ≤ (i : Int)) = false := by simp; omega
        repeat' (go_not_at_region 8; (first | go_skip | go_guarded | go_step))
        obtain ⟨g8, hg8⟩ : ∃ g, g = wr.heap.size := ⟨_, rfl⟩
        rw [← hg8]
        refine wp_named (fun w' => Ext wr w' ∧ w'.heap[g8]? = some (.cells #[Value.int IntKind.u8 ad.toNat, str ak, str av, Value.int IntKind.u8 aa.toNat, .bool ao] 78 (0, 0))) ⟨(Ext.refl _).alloc (Nat.le_refl _) _, by rw [hg8]; exact heap_new wr _⟩ ?_
        clear hg8 q0 q1 q2 q3 q4
        intro wb HA
        obtain ⟨e0, e1, e2, e3, e4⟩ := box5 HA.out.2
        repeat' (first | go_at_call 39 | go_skip | go_guarded | go_step)
        refine (fewp_c wb (ak, av)).mono ?_
        rintro e w2 ⟨rfl, f2⟩
        obtain ⟨p, hp⟩ : ∃ p, p = cutP (ak, av) := ⟨_, rfl⟩
        have hps : p.1.length ≤ 40 ∧ p.2.length ≤ 40 := by rw [hp]; exact cutP_short _
        rw [← hp]
        have H2 : Hid (Ext wr w2 ∧ w2.heap[g8]? = some (.cells #[Value.int IntKind.u8 ad.toNat, str ak, str av, Value.int IntKind.u8 aa.toNat, .bool ao] 78 (0, 0))) := Lib.hid ⟨HA.out.1.trans f2, box_ext' HA.out.2 f2⟩
        clear f2 e0 e1 e2 e3 e4 hp
        go_simp
        repeat' (go_not_at_region 10; (first | go_skip | go_guarded | go_step))
        obtain ⟨gp, hgp⟩ : ∃ g, g = w2.heap.size := ⟨_, rfl⟩
        rw [← hgp]
        refine wp_named (fun w' => Ext w2 w' ∧ PrAt w' gp p) ⟨(Ext.refl _).alloc (Nat.le_refl _) _, by rw [hgp]; exact heap_new w2 _⟩ ?_
        clear hgp
        intro w3 HB
        have H3 : Hid (Ext wr w3 ∧ w3.heap[g8]? = some (.cells #[Value.int IntKind.u8 ad.toNat, str ak, str av, Value.int IntKind.u8 aa.toNat, .bool ao] 78 (0, 0)) ∧ PrAt w3 gp p) := Lib.hid ⟨H2.out.1.trans HB.out.1, box_ext' H2.out.2 HB.out.1, HB.out.2⟩
        have hR := rget_c w3 u8 X p.1 (HI.out.2.1.ps.below H3.out.1) HI.out.2.1.ok.rise (by have := HI.out.2.2.2; omega) HI.out.2.1.ok.keys'
        have HW2 : Hid (hasK X p.1 = true → (getL p.1 X).getD [] = p.2 → p ∈ X) := Lib.hid (HI.out.2.1.ok.was p)
        obtain ⟨was, hwas⟩ : ∃ u, u = (getL p.1 X).getD [] := ⟨_, rfl⟩
        obtain ⟨th, hth⟩ : ∃ th, th = hasK X p.1 := ⟨_, rfl⟩
        rw [← hwas, ← hth] at hR HW2
        have HT : Hid (hasK X p.1 = th) := Lib.hid hth.symm
        obtain ⟨b0, b1⟩ := H3.out.2.2.cells
        have HR := Lib.hid hR
        clear hR hwas hth
        repeat' (first | go_at_call 40 | go_skip | go_guarded | go_step)
        refine HR.out.mono ?_
        rintro e w4 ⟨rfl, f4⟩
        have H4 : Hid (Ext wr w4 ∧ PrAt w4 gp p ∧ w4.heap[g8]? = some (.cells #[Value.int IntKind.u8 ad.toNat, str ak, str av, Value.int IntKind.u8 aa.toNat, .bool ao] 78 (0, 0))) := Lib.hid ⟨H3.out.1.trans f4, H3.out.2.2.ext f4, box_ext' H3.out.2.1 f4⟩
        clear f4 HR b0 b1
        obtain ⟨e0, e1, e2, e3, e4⟩ := box5 H4.out.2.2
        go_simp
        repeat' (go_not_at_if 53; (first | go_skip | go_guarded | go_step))
        go_cut [7, 8] (fun v7 v8 wx => Hid (∃ (g2 : Nat) (Y : List Pr), v7 = ptr g2 ∧ Ext wr wx ∧ St6 wx gh h g2 v8 Y ∧ PrAt wx gp p ∧ Y.length ≤ X.length + 1))
        case first =>
          have HH : Hid (PrAt w4 gp p ∧ St6 w4 gh h g u8 X) := Lib.hid ⟨H4.out.2.1, HI.out.2.1.ext H4.out.1⟩
          have hX9 : X.length ≤ 1000 := by have := HI.out.2.2.2; omega
          by_cases h3 : ad.toNat % 4 = 3
          · have d3 : (ad.toNat : Int) % 4 = 3 := by omega
            repeat' (go_not_at_region 12; (first | go_skip | go_guarded | go_step))
            rename_i K hK
            refine plays6_12 w4 gh g gp h hk u8 X p HH hX9 hps th HT _ _ K _ _ _ _ _ _ _ _ _ _ _ _ _ _ _ _ _ _ _ _ _ _ _ _ _ _ _ _ _ _ _ _ _ _ _ _ _ _ _ _ _ _ _ _ _ _ _ _ _ _ _ _ _ _ _ _ _ _ _ _ _ _ _ _ _ _ _ _ _ _ _ _ _ _ _ _ _ _ _ _ _ _ _ _ _ _ _ _ _ _ _ _ _ _ _ _ _ _ _ _ _ _ _ _ _ _ _ _ _ _ _ _ _ _ _ _ _ _ _ _ _ _ _ _ _ _ _ _ _ _ _ _ _ _ _ _ _ _ _ _ _ _ _ _ _ _ _ _ _ _ _ _ _ _ _ _ _ _ _ _ _ _ _ _ _ _ (by kernel_rfl) (by kernel_rfl) hK ?_
            intro g2 v2 z14 z15 z54 z55 z56 z57 z58 z59 z60 z61 z62 z63 z64 z65 z66 z67 z68 z69 z70 z71 z72 z73 z74 z75 z76 z77 z78 wx hpo
            repeat' (first | go_skip | go_guarded | go_step)
            go_meet
            exact Lib.hid ⟨g2, _, rfl, H4.out.1.trans hpo.1, hpo.2, H4.out.2.1.ext hpo.1, Nat.le_succ_of_le (rdrop_length _ _)⟩
          · have d3 : ((ad.toNat : Int) % 4 = 3) = False := by rw [eq_iff_iff, iff_false]; omega
            have d3' : decide ((ad.toNat : Int) % 4 = 3) = false := by rw [decide_eq_false_iff_not]; omega
            have d3'' : ((ad.toNat : Int) % 4 == 3) = false := by rw [beq_eq_false_iff_ne]; omega
            repeat' (go_not_at_region 16; (first | go_skip | go_guarded | go_step))
            rename_i K hK
            refine plays6_16 w4 gh g gp h hk u8 X p HH hX9 hps th HT was HW2 _ _ K _ _ _ _ _ _ _ _ _ _ _ _ _ _ _ _ _ _ _ _ _ _ _ _ _ _ _ _ _ _ _ _ _ _ _ _ _ _ _ _ _ _ _ _ _ _ _ _ _ _ _ _ _ _ _ _ _ _ _ _ _ _ _ _ _ _ _ _ _ _ _ _ _ _ _ _ _ _ _ _ _ _ _ _ _ _ _ _ _ _ _ _ _ _ _ _ _ _ _ _ _ _ _ _ _ _ _ _ _ _ _ _ _ _ _ _ _ _ _ _ _ _ _ _ _ _ _ _ _ _ _ _ _ _ _ _ _ _ _ _ _ _ _ _ _ _ _ _ _ _ _ _ _ _ _ _ _ _ _ _ _ _ _ _ _ (by kernel_rfl) (by kernel_rfl) hK ?_
            intro g2 v2 z16 z17 z79 z80 z81 z82 z83 z84 z85 z86 z87 z88 z89 z90 z91 z92 z93 z94 z95 z96 z97 z98 z99 z100 z101 z102 z103 z104 z105 z106 wx hpo
            repeat' (first | go_skip | go_guarded | go_step)
            go_meet
            exact Lib.hid ⟨g2, _, rfl, H4.out.1.trans hpo.1, hpo.2, H4.out.2.1.ext hpo.1, rput_length _ _⟩
        case rest =>
        obtain ⟨g2, Y, rfl, f5, s5, b5, l5⟩ := hcut.out
        have H5 : Hid (Ext wr wc ∧ St6 wc gh h g2 _ Y ∧ PrAt wc gp p) := Lib.hid ⟨f5, s5, b5⟩
        have hY : Y.length ≤ 50 ∧ Y.length ≤ i + 1 := by have := HI.out.2.2; omega
        clear hcut f5 s5 b5 l5 e0 e1 e2 e3 e4
        repeat' (go_not_at_region 20; (first | go_skip | go_guarded | go_step))
        rename_i K hK
        refine plays6_20 wc gh g2 gp h hk _ Y p (Lib.hid ⟨H5.out.2.2, H5.out.2.1⟩) (by omega) hps _ _ K _ _ _ _ _ _ _ _ _ _ _ _ _ _ _ _ _ _ _ _ _ _ _ _ _ _ _ _ _ _ _ _ _ _ _ _ _ _ _ _ _ _ _ _ _ _ _ _ _ _ _ _ _ _ _ _ _ _ _ _ _ _ _ _ _ _ _ _ _ _ _ _ _ _ _ _ _ _ _ _ _ _ _ _ _ _ _ _ _ _ _ _ _ _ _ _ _ _ _ _ _ _ _ _ _ _ _ _ _ _ _ _ _ _ _ _ _ _ _ _ _ _ _ _ _ _ _ _ _ _ _ _ _ _ _ _ _ _ _ _ _ _ _ _ _ _ _ _ _ _ _ _ _ _ _ _ _ _ _ _ _ _ _ _ _ _ _ (by kernel_rfl) (by kernel_rfl) hK ?_
        intro z18 z19 z20 z21 z107 z108 z109 z110 z111 z112 z113 z114 z115 z116 z117 z118 z119 z120 z121 z122 z123 z124 z125 z126 z127 z128 z129 wx hpo
        have H6 : Hid (Ext wr wx ∧ Ext wc wx) := Lib.hid ⟨H5.out.1.trans hpo, hpo⟩
        clear hpo
        repeat' (first | go_skip | go_guarded | go_step)
        go_roundg (n - (i + 1))
        case measure => omega
        case rel => exact ⟨i + 1, g2, Y, rfl, by go_num, by omega, Nat.le_refl _, Lib.hid ⟨HI.out.1.trans H6.out.1, H5.out.2.1.ext H6.out.2, hY.2, hY.1⟩⟩
      · have d2 : decide (50 ≤ i) = true := by simp; omega
        have d2' : decide ((50 : Int) ≤ (i : Int)) = true := by simp; omega
        repeat' (go_not_at_region 25; (first | go_skip | go_guarded | go_step))
        clear q0 q1 q2 q3 q4
        rename_i K hK
        have HX0 : Hid (Ext wr (wr.alloc (.cells #[Value.int IntKind.u8 ad.toNat, str ak, str av, Value.int IntKind.u8 aa.toNat, .bool ao] 78))) := Lib.hid ((Ext.refl _).alloc (Nat.le_refl _) _)
        refine plays6_25 w _ gh g h hk u8 B m D S X (Lib.hid ⟨HI.out.2.1.ext HX0.out, HI.out.1.trans HX0.out, HN.out.2.2.2, HN.out.2.1⟩) (by have := HI.out.2.2.2; omega) hm9 _ _ K _ _ _ _ _ _ _ _ _ _ _ _ _ _ _ _ _ _ _ _ _ _ _ _ _ _ _ _ _ _ _ _ _ _ _ _ _ _ _ _ _ _ _ _ _ _ _ _ _ _ _ _ _ _ _ _ _ _ _ _ _ _ _ _ _ _ _ _ _ _ _ _ _ _ _ _ _ _ _ _ _ _ _ _ _ _ _ _ _ _ _ _ _ _ _ _ _ _ _ _ _ _ _ _ _ _ _ _ _ _ _ _ _ _ _ _ _ _ _ _ _ _ _ _ _ _ _ _ _ _ _ _ _ _ _ _ _ _ _ _ _ _ _ _ _ _ _ _ _ _ _ _ _ _ _ _ _ _ _ _ _ _ _ _ _ _ _ (by kernel_rfl) (by kernel_rfl) hK ?_
        intro z6 z22 z23 z24 z25 z26 z27 z131 z132 z133 z134 z135 z136 z137 z138 z139 z140 z141 z142 z143 z144 z145 z146 z147 z148 z149 z150 z151 z152 z153 z154 z155 z156 z157 z158 z159 z160 z161 z162 z163 z164 z165 wx hE
        have HE := Lib.hid hE
        clear hE
        have HZ := HI.out.2.1.ext ((HX0.out).trans HE.out)
        have HZ2 := Lib.hid HZ
        obtain ⟨c0, c1, c2⟩ := HZ.hs.cells
        clear HZ
        repeat' (first | go_at_call 46 | go_skip | go_guarded | go_step)
        refine (trie6_c h hk wx g u8 X HZ2.out.tr HZ2.out.ps (by have := HI.out.2.2.2; omega) HZ2.out.ok.keys).mono ?_
        rintro e wy ⟨rfl, fy⟩
        have HY := Lib.hid (HI.out.1.trans (HX0.out.trans (HE.out.trans fy)))
        clear fy
        go_simp
        repeat' (first | go_skip | go_guarded | go_step)
        go_ret
        exact ⟨rfl, HY.out⟩
    · obtain rfl : i = n := by omega
      have d1 : decide (i < i) = false := by simp
      repeat' (go_not_at_region 25; (first | go_skip | go_guarded | go_step))
      rename_i K hK
      have HX0 : Hid (Ext wr wr) := Lib.hid (Ext.refl _)
      refine plays6_25 w _ gh g h hk u8 B m D S X (Lib.hid ⟨HI.out.2.1, HI.out.1, HN.out.2.2.2, HN.out.2.1⟩) (by have := HI.out.2.2.2; omega) hm9 _ _ K _ _ _ _ _ _ _ _ _ _ _ _ _ _ _ _ _ _ _ _ _ _ _ _ _ _ _ _ _ _ _ _ _ _ _ _ _ _ _ _ _ _ _ _ _ _ _ _ _ _ _ _ _ _ _ _ _ _ _ _ _ _ _ _ _ _ _ _ _ _ _ _ _ _ _ _ _ _ _ _ _ _ _ _ _ _ _ _ _ _ _ _ _ _ _ _ _ _ _ _ _ _ _ _ _ _ _ _ _ _ _ _ _ _ _ _ _ _ _ _ _ _ _ _ _ _ _ _ _ _ _ _ _ _ _ _ _ _ _ _ _ _ _ _ _ _ _ _ _ _ _ _ _ _ _ _ _ _ _ _ _ _ _ _ _ _ _ (by kernel_rfl) (by kernel_rfl) hK ?_
      intro z6 z22 z23 z24 z25 z26 z27 z131 z132 z133 z134 z135 z136 z137 z138 z139 z140 z141 z142 z143 z144 z145 z146 z147 z148 z149 z150 z151 z152 z153 z154 z155 z156 z157 z158 z159 z160 z161 z162 z163 z164 z165 wx hE
      have HE := Lib.hid hE
      clear hE
      have HZ := HI.out.2.1.ext ((HX0.out).trans HE.out)
      have HZ2 := Lib.hid HZ
      obtain ⟨c0, c1, c2⟩ := HZ.hs.cells
      clear HZ
      repeat' (first | go_at_call 46 | go_skip | go_guarded | go_step)
      refine (trie6_c h hk wx g u8 X HZ2.out.tr HZ2.out.ps (by have := HI.out.2.2.2; omega) HZ2.out.ok.keys).mono ?_
      rintro e wy ⟨rfl, fy⟩
      have HY := Lib.hid (HI.out.1.trans (HX0.out.trans (HE.out.trans fy)))
      clear fy
      go_simp
      repeat' (first | go_skip | go_guarded | go_step)
      go_ret
      exact ⟨rfl, HY.out⟩
end Go.Proofs.Ytlgnokhfioglaaa
