/- RadixPlays, walked. -/
import Derived.Test.YtmpeniboccahdaaVs
import Derived.Test.YtmpeniboccahdaaVl
import Derived.Deep.LoopGhost
namespace Go.Proofs.Ytmpeniboccahdaa
open Go.RowKit Go.QS
set_option linter.unusedVariables false

theorem box4 {w : World} {g : Nat} {a b c d : Value} {t : TypeId} {f : Nat × Nat} (h : w.heap[g]? = some (.cells #[a, b, c, d] t f)) : w.cell? ⟨g, 0, none⟩ = some a ∧ w.cell? ⟨g, 1, none⟩ = some b ∧ w.cell? ⟨g, 2, none⟩ = some c ∧ w.cell? ⟨g, 3, none⟩ = some d := by
  simp [World.cell?, h]

set_option maxRecDepth 100000 in
set_option maxHeartbeats 2000000 in
theorem radixPlays_c (w : World) (va vs : Value) (L : List Ac) (S : List (List UInt8)) (ha : Sl w 4 va L.length (flatE encA L)) (hs : Sl w 1 vs S.length (flatE encS S)) :
    Calls Try.prog 7 #[va, vs] w fun e w' => e = .returned (.bool true) ∧ Ext w w' := by
  obtain ⟨A, C, rfl, _, hn, hC, hsA⟩ := ha
  obtain ⟨B, D, rfl, _, hm, hD, hsB⟩ := hs
  obtain ⟨n, hn2⟩ : ∃ n, n = L.length := ⟨_, rfl⟩
  obtain ⟨m, hm2⟩ : ∃ m, m = S.length := ⟨_, rfl⟩
  have hn9 : n ≤ 9223372036854775807 := by unfold maxLen at hC; omega
  have hm9 : m ≤ 9223372036854775807 := by unfold maxLen at hD; omega
  rw [← hn2] at hn ⊢
  rw [← hm2] at hm ⊢
  have HN : Hid (n = L.length ∧ m = S.length ∧ Seg w A (flatE encA L) ∧ Seg w B (flatE encS S)) := Lib.hid ⟨hn2, hm2, hsA, hsB⟩
  clear hn2 hm2 hsA hsB
  go_enter Try.func7, Try.ntmps7
  repeat' (first | go_at_call 11 | go_skip | go_guarded | go_step)
  refine (awakeX_c w).mono ?_
  rintro e w1 ⟨rfl, f1⟩
  have H1 := Lib.hid f1
  clear f1
  go_simp
  repeat' (first | (go_at_call 12; refine (empty_c _).mono ?_; rintro e w0 ⟨rfl, rfl⟩; go_simp) | (go_not_at_region 6; (first | go_skip | go_guarded | go_step)))
  have hE0 : Ext w1 (w1.alloc (.cells #[str [], .bool false, str [], .slice none 0 0, .pointer none] NT)) := (Ext.refl _).alloc (Nat.le_refl _) _
  have hR0 := empty_rep w1
  obtain ⟨wa, hwa⟩ : ∃ wa, wa = (w1.alloc (.cells #[str [], .bool false, str [], .slice none 0 0, .pointer none] NT)) := ⟨_, rfl⟩
  obtain ⟨g0, hg0⟩ : ∃ g, g = w1.heap.size := ⟨_, rfl⟩
  rw [← hwa] at hE0 hR0 ⊢
  rw [← hg0] at hR0 ⊢
  have H00 : Hid (Ext w wa ∧ Rep NT wa g0 (RT.node [] none [])) := Lib.hid ⟨H1.out.trans hE0, hR0⟩
  clear hE0 hR0 hwa hg0
  go_loopg [5, 6, 31] n (fun gk v5 v6 v31 wr => ∃ (i g : Nat) (t : RT) (X : List Pr), v5 = ptr g ∧ v31 = .int .i64 i ∧ i ≤ n ∧ n - i ≤ gk ∧ Hid (Ext w wr ∧ Rep NT wr g t ∧ Ok t X ∧ PS wr v6 X ∧ X.length ≤ i ∧ X.length ≤ 60))
  case atStart => exact ⟨0, g0, _, [], rfl, rfl, Nat.zero_le _, by omega, Lib.hid ⟨H00.out.1, H00.out.2, Ok.nil, Sl.nil _ _, Nat.le_refl _, by simp⟩⟩
  case round =>
    obtain ⟨i, g, t, X, rfl, rfl, hin, hgk, HI⟩ := hrel
    rcases Nat.lt_or_ge i n with hlt | hge
    · have d1 : decide (i < n) = true := by simp [hlt]
      obtain ⟨a, hp⟩ := get_of_lt L (show i < L.length by have := HN.out.1; omega)
      obtain ⟨b, o, rfl, q0, q1, q2, q3⟩ := seg_act (HN.out.2.2.1.below HI.out.1) hp
      have hi1 : (i : Int) < (n : Int) := by omega
      obtain ⟨ad, ⟨ak, av⟩, aa⟩ := a
      clear hp
      by_cases h60 : i < 60
      · have d2 : decide (60 ≤ i) = false := by simp; omega
        have d2' : decide ((60 : Int) ≤ (i : Int)) = false := by simp; omega
        repeat' (go_not_at_region 9; (first | go_skip | go_guarded | go_step))
        obtain ⟨w1, hw1⟩ : ∃ x, x = wr.alloc (.cells #[Value.int IntKind.u8 ad.toNat, str ak, str av, Value.int IntKind.u8 aa.toNat] 61) := ⟨_, rfl⟩
        obtain ⟨g8, hg8⟩ : ∃ g, g = wr.heap.size := ⟨_, rfl⟩
        have hb8 := heap_new wr (.cells #[Value.int IntKind.u8 ad.toNat, str ak, str av, Value.int IntKind.u8 aa.toNat] 61)
        have hE1 : Ext wr w1 := by rw [hw1]; exact (Ext.refl _).alloc (Nat.le_refl _) _
        have hw1' : wr.alloc (.cells #[Value.int IntKind.u8 ad.toNat, Value.string (bs ak), Value.string (bs av), Value.int IntKind.u8 aa.toNat] 61) = w1 := hw1.symm
        rw [← hw1, ← hg8] at hb8
        rw [hw1', ← hg8]
        have HA : Hid (Ext wr w1 ∧ w1.heap[g8]? = some (.cells #[Value.int IntKind.u8 ad.toNat, str ak, str av, Value.int IntKind.u8 aa.toNat] 61 (0, 0))) := Lib.hid ⟨hE1, hb8⟩
        obtain ⟨e0, e1, e2, e3⟩ := box4 hb8
        clear hw1 hw1' hg8 hb8 hE1 q0 q1 q2 q3
        repeat' (first | go_at_call 14 | go_skip | go_guarded | go_step)
        refine (fewp_c w1 (ak, av)).mono ?_
        rintro e w2 ⟨rfl, f2⟩
        obtain ⟨p, hp⟩ : ∃ p, p = cutP (ak, av) := ⟨_, rfl⟩
        have hps : p.1.length ≤ 40 ∧ p.2.length ≤ 40 := by rw [hp]; exact cutP_short _
        rw [← hp]
        have H2 : Hid (Ext wr w2 ∧ w2.heap[g8]? = some (.cells #[Value.int IntKind.u8 ad.toNat, str ak, str av, Value.int IntKind.u8 aa.toNat] 61 (0, 0))) := Lib.hid ⟨HA.out.1.trans f2, box_ext HA.out.2 f2⟩
        clear f2 HA e0 e1 e2 e3 hp
        go_simp
        repeat' (go_not_at_region 10; (first | go_skip | go_guarded | go_step))
        obtain ⟨w3, hw3⟩ : ∃ x, x = w2.alloc (.cells #[str p.1, str p.2] 24) := ⟨_, rfl⟩
        obtain ⟨gp, hgp⟩ : ∃ g, g = w2.heap.size := ⟨_, rfl⟩
        have hbp := heap_new w2 (.cells #[str p.1, str p.2] 24)
        have hE3 : Ext w2 w3 := by rw [hw3]; exact (Ext.refl _).alloc (Nat.le_refl _) _
        have hw3' : w2.alloc (.cells #[Value.string (bs p.1), Value.string (bs p.2)] 24) = w3 := hw3.symm
        rw [← hw3, ← hgp] at hbp
        rw [hw3', ← hgp]
        have H3 : Hid (Ext wr w3 ∧ w3.heap[g8]? = some (.cells #[Value.int IntKind.u8 ad.toNat, str ak, str av, Value.int IntKind.u8 aa.toNat] 61 (0, 0)) ∧ Box w3 gp p) := Lib.hid ⟨H2.out.1.trans hE3, box_ext H2.out.2 hE3, hbp⟩
        have hR := rget_c w3 u6 X p.1 (HI.out.2.2.2.1.below H3.out.1) HI.out.2.2.1.rise (by have := HI.out.2.2.2.2.2; omega) (fun q hq => by have := (HI.out.2.2.1.short q hq).1; omega)
        have HW : Hid (hasK X p.1 = true → (getL p.1 X).getD [] = p.2 → p ∈ X) := Lib.hid (by
          intro h1 h2
          rw [← getL_has HI.out.2.2.1.rise] at h1
          obtain ⟨v, hv⟩ := Option.isSome_iff_exists.1 h1
          rw [hv] at h2
          have := (getL_iff HI.out.2.2.1.rise).1 hv
          rw [show v = p.2 from h2] at this
          exact this)
        obtain ⟨was, hwas⟩ : ∃ u, u = (getL p.1 X).getD [] := ⟨_, rfl⟩
        obtain ⟨th, hth⟩ : ∃ th, th = hasK X p.1 := ⟨_, rfl⟩
        rw [← hwas, ← hth] at hR HW
        have HT : Hid (hasK X p.1 = th) := Lib.hid hth.symm
        obtain ⟨c0, c1⟩ := H3.out.2.2.cells
        have HR := Lib.hid hR
        clear hw3 hw3' hgp hbp hE3 H2 hR hwas hth
        repeat' (first | go_at_call 18 | go_skip | go_guarded | go_step)
        refine HR.out.mono ?_
        rintro e w4 ⟨rfl, f4⟩
        have H4 : Hid (Ext wr w4 ∧ Box w4 gp p) := Lib.hid ⟨H3.out.1.trans f4, H3.out.2.2.ext f4⟩
        obtain ⟨e0, _, _, _⟩ := box4 (box_ext H3.out.2.1 f4)
        clear f4 HR H3 c0 c1
        go_simp
        repeat' (go_not_at_if 51; (first | go_skip | go_guarded | go_step))
        go_cut [5, 6] (fun v5 v6 wx => Hid (∃ (g2 : Nat) (T2 : RT) (Y : List Pr), v5 = ptr g2 ∧ Ext wr wx ∧ Rep NT wx g2 T2 ∧ Ok T2 Y ∧ PS wx v6 Y ∧ Box wx gp p ∧ Y.length ≤ X.length + 1))
        case first =>
          have HH : Hid (Box w4 gp p ∧ Rep NT w4 g t ∧ Ok t X ∧ PS w4 u6 X) := Lib.hid ⟨H4.out.2, HI.out.2.1.ext H4.out.1, HI.out.2.2.1, HI.out.2.2.2.1.below H4.out.1⟩
          have hX9 : X.length ≤ 1000 := by have := HI.out.2.2.2.2.2; omega
          by_cases h3 : ad.toNat % 4 = 3
          · have d3 : (ad.toNat : Int) % 4 = 3 := by omega
            repeat' (go_not_at_region 12; (first | go_skip | go_guarded | go_step))
            rename_i K hK
            refine plays_12 w4 g gp u6 t X p HH hX9 hps th HT _ _ K _ _ _ _ _ _ _ _ _ _ _ _ _ _ _ _ _ _ _ _ _ _ _ _ _ _ _ _ _ _ _ _ _ _ _ _ _ _ _ _ _ _ _ _ _ _ _ _ _ _ _ _ _ _ _ _ _ _ _ _ _ _ _ _ _ _ _ _ _ _ _ _ _ _ _ _ _ _ _ _ _ _ _ _ _ _ _ _ _ _ _ _ _ _ _ _ _ _ _ _ _ _ _ _ _ _ _ _ _ _ _ _ _ _ _ _ _ _ _ _ _ _ _ _ _ _ _ _ _ _ _ _ _ _ _ _ _ _ _ _ _ _ _ _ _ _ _ _ _ _ _ _ _ _ _ _ _ _ _ _ _ _ _ (by kernel_rfl) (by kernel_rfl) hK ?_
            intro g2 T2 v2 z12 z13 z52 z53 z54 z55 z56 z57 z58 z59 z60 z61 z62 z63 z64 z65 z66 z67 z68 z69 z70 z71 z72 z73 z74 z75 wx hpo
            repeat' (first | go_skip | go_guarded | go_step)
            go_meet
            exact Lib.hid ⟨g2, T2, _, rfl, H4.out.1.trans hpo.1, hpo.2.1, hpo.2.2.1, hpo.2.2.2, H4.out.2.ext hpo.1, Nat.le_succ_of_le (rdrop_length _ _)⟩
          · have d3 : ((ad.toNat : Int) % 4 = 3) = False := by rw [eq_iff_iff, iff_false]; omega
            have d3' : decide ((ad.toNat : Int) % 4 = 3) = false := by rw [decide_eq_false_iff_not]; omega
            have d3'' : ((ad.toNat : Int) % 4 == 3) = false := by rw [beq_eq_false_iff_ne]; omega
            repeat' (go_not_at_region 16; (first | go_skip | go_guarded | go_step))
            rename_i K hK
            refine plays_16 w4 g gp u6 t X p HH hX9 hps th HT was HW _ _ K _ _ _ _ _ _ _ _ _ _ _ _ _ _ _ _ _ _ _ _ _ _ _ _ _ _ _ _ _ _ _ _ _ _ _ _ _ _ _ _ _ _ _ _ _ _ _ _ _ _ _ _ _ _ _ _ _ _ _ _ _ _ _ _ _ _ _ _ _ _ _ _ _ _ _ _ _ _ _ _ _ _ _ _ _ _ _ _ _ _ _ _ _ _ _ _ _ _ _ _ _ _ _ _ _ _ _ _ _ _ _ _ _ _ _ _ _ _ _ _ _ _ _ _ _ _ _ _ _ _ _ _ _ _ _ _ _ _ _ _ _ _ _ _ _ _ _ _ _ _ _ _ _ _ _ _ _ _ _ _ _ _ (by kernel_rfl) (by kernel_rfl) hK ?_
            intro g2 T2 v2 z14 z15 z76 z77 z78 z79 z80 z81 z82 z83 z84 z85 z86 z87 z88 z89 z90 z91 z92 z93 z94 z95 z96 z97 z98 z99 z100 z101 z102 wx hpo
            repeat' (first | go_skip | go_guarded | go_step)
            go_meet
            exact Lib.hid ⟨g2, T2, _, rfl, H4.out.1.trans hpo.1, hpo.2.1, hpo.2.2.1, hpo.2.2.2, H4.out.2.ext hpo.1, rput_length _ _⟩
        case rest =>
        obtain ⟨g2, T2, Y, rfl, f5, r5, o5, p5, b5, l5⟩ := hcut.out
        have H5 : Hid (Ext wr wc ∧ Rep NT wc g2 T2 ∧ Ok T2 Y ∧ PS wc _ Y ∧ Box wc gp p) := Lib.hid ⟨f5, r5, o5, p5, b5⟩
        have hY : Y.length ≤ 60 ∧ Y.length ≤ i + 1 := by have := HI.out.2.2.2.2; omega
        clear hcut f5 r5 o5 p5 b5 l5 e0
        repeat' (go_not_at_region 20; (first | go_skip | go_guarded | go_step))
        rename_i K hK
        refine plays_20 wc g2 gp _ T2 Y p (Lib.hid ⟨H5.out.2.2.2.2, H5.out.2.1, H5.out.2.2.1, H5.out.2.2.2.1⟩) (by omega) hps _ _ K _ _ _ _ _ _ _ _ _ _ _ _ _ _ _ _ _ _ _ _ _ _ _ _ _ _ _ _ _ _ _ _ _ _ _ _ _ _ _ _ _ _ _ _ _ _ _ _ _ _ _ _ _ _ _ _ _ _ _ _ _ _ _ _ _ _ _ _ _ _ _ _ _ _ _ _ _ _ _ _ _ _ _ _ _ _ _ _ _ _ _ _ _ _ _ _ _ _ _ _ _ _ _ _ _ _ _ _ _ _ _ _ _ _ _ _ _ _ _ _ _ _ _ _ _ _ _ _ _ _ _ _ _ _ _ _ _ _ _ _ _ _ _ _ _ _ _ _ _ _ _ _ _ _ _ _ _ _ _ _ _ _ _ _ (by kernel_rfl) (by kernel_rfl) hK ?_
        intro z16 z17 z18 z19 z103 z104 z105 z106 z107 z108 z109 z110 z111 z112 z113 z114 z115 z116 z117 z118 z119 z120 z121 z122 z123 z124 z125 z126 z127 z128 z129 z130 wx hpo
        have H6 : Hid (Ext wr wx ∧ Ext wc wx) := Lib.hid ⟨H5.out.1.trans hpo, hpo⟩
        clear hpo
        repeat' (first | go_skip | go_guarded | go_step)
        go_roundg (n - (i + 1))
        case measure => omega
        case rel => exact ⟨i + 1, g2, T2, Y, rfl, by go_num, by omega, Nat.le_refl _, Lib.hid ⟨HI.out.1.trans H6.out.1, H5.out.2.1.ext H6.out.2, H5.out.2.2.1, H5.out.2.2.2.1.below H6.out.2, hY.2, hY.1⟩⟩
      · have d2 : decide (60 ≤ i) = true := by simp; omega
        have d2' : decide ((60 : Int) ≤ (i : Int)) = true := by simp; omega
        repeat' (go_not_at_region 25; (first | go_skip | go_guarded | go_step))
        rename_i K hK
        refine plays_25 w _ g 0 u6 B m D S t X (Lib.hid ⟨HI.out.2.1.ext ((Ext.refl _).alloc (Nat.le_refl _) _), HI.out.2.2.1, HI.out.2.2.2.1.alloc _, HI.out.1.alloc HI.out.1.size _, HN.out.2.2.2, HN.out.2.1⟩) (by have := HI.out.2.2.2.2.2; omega) hm9 _ _ K _ _ _ _ _ _ _ _ _ _ _ _ _ _ _ _ _ _ _ _ _ _ _ _ _ _ _ _ _ _ _ _ _ _ _ _ _ _ _ _ _ _ _ _ _ _ _ _ _ _ _ _ _ _ _ _ _ _ _ _ _ _ _ _ _ _ _ _ _ _ _ _ _ _ _ _ _ _ _ _ _ _ _ _ _ _ _ _ _ _ _ _ _ _ _ _ _ _ _ _ _ _ _ _ _ _ _ _ _ _ _ _ _ _ _ _ _ _ _ _ _ _ _ _ _ _ _ _ _ _ _ _ _ _ _ _ _ _ _ _ _ _ _ _ _ _ _ _ _ _ _ _ _ _ _ _ _ _ _ _ _ _ _ _ (by kernel_rfl) (by kernel_rfl) hK ?_
        intro z4 z20 z21 z22 z23 z24 z25 z132 z133 z134 z135 z136 z137 z138 z139 z140 z141 z142 z143 z144 z145 z146 z147 z148 z149 z150 z151 z152 z153 z154 z155 z156 z157 z158 z159 z160 z161 z162 z163 z164 z165 wx hE
        have HE := Lib.hid hE
        clear hE
        repeat' (first | go_skip | go_guarded | go_step)
        go_ret
        exact ⟨rfl, HE.out⟩
    · obtain rfl : i = n := by omega
      have d1 : decide (i < i) = false := by simp
      repeat' (go_not_at_region 25; (first | go_skip | go_guarded | go_step))
      rename_i K hK
      refine plays_25 w _ g 0 u6 B m D S t X (Lib.hid ⟨HI.out.2.1, HI.out.2.2.1, HI.out.2.2.2.1, HI.out.1, HN.out.2.2.2, HN.out.2.1⟩) (by have := HI.out.2.2.2.2.2; omega) hm9 _ _ K _ _ _ _ _ _ _ _ _ _ _ _ _ _ _ _ _ _ _ _ _ _ _ _ _ _ _ _ _ _ _ _ _ _ _ _ _ _ _ _ _ _ _ _ _ _ _ _ _ _ _ _ _ _ _ _ _ _ _ _ _ _ _ _ _ _ _ _ _ _ _ _ _ _ _ _ _ _ _ _ _ _ _ _ _ _ _ _ _ _ _ _ _ _ _ _ _ _ _ _ _ _ _ _ _ _ _ _ _ _ _ _ _ _ _ _ _ _ _ _ _ _ _ _ _ _ _ _ _ _ _ _ _ _ _ _ _ _ _ _ _ _ _ _ _ _ _ _ _ _ _ _ _ _ _ _ _ _ _ _ _ _ _ _ (by kernel_rfl) (by kernel_rfl) hK ?_
      intro z4 z20 z21 z22 z23 z24 z25 z132 z133 z134 z135 z136 z137 z138 z139 z140 z141 z142 z143 z144 z145 z146 z147 z148 z149 z150 z151 z152 z153 z154 z155 z156 z157 z158 z159 z160 z161 z162 z163 z164 z165 wx hE
      have HE := Lib.hid hE
      clear hE
      repeat' (first | go_skip | go_guarded | go_step)
      go_ret
      exact ⟨rfl, HE.out⟩
end Go.Proofs.Ytmpeniboccahdaa
