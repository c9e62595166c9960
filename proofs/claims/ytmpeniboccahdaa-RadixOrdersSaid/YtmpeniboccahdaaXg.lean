/- RadixOrders, walked. -/
import Derived.Test.YtmpeniboccahdaaMk
import Derived.Test.YtmpeniboccahdaaMl
import Derived.Test.YtmpeniboccahdaaXf
import Derived.Test.YtmpeniboccahdaaKm
import Derived.Test.YtmpeniboccahdaaKr
namespace Go.Proofs.Ytmpeniboccahdaa
open Go.RowKit Go.QS
set_option linter.unusedVariables false

theorem mem_sortedP {l : List Pr} {x : Pr} (h : x ∈ sortedP l) : x ∈ l := by
  rw [sortedP_eq, mem_rsort] at h
  exact (lastK_mem h).1
theorem emptyO_c (w : World) : Calls Try.prog 12 #[] w fun e w' => ∃ g, e = .returned (ptr g) ∧ Ext w w' ∧ Rep NT w' g (RT.node [] none []) := by
  refine (empty_c w).mono ?_
  rintro e w' ⟨rfl, rfl⟩
  exact ⟨_, rfl, (Ext.refl _).alloc (Nat.le_refl _) _, empty_rep w⟩

set_option maxRecDepth 100000 in
set_option maxHeartbeats 2000000 in
theorem radixOrders_c (w : World) (va vo vg vt : Value) (L G M : List Pr) (O : List UInt8) (ha : PS w va L) (ho : Sl w 1 vo O.length (flatE encU O)) (hg : PS w vg G) (ht : PS w vt M) :
    Calls Try.prog 10 #[va, vo, vg, vt] w fun e w' => e = .returned (.bool true) ∧ Ext w w' := by
  obtain ⟨A, C, rfl, _, hn0, hnC, hnS⟩ := ha
  obtain ⟨n, hn2⟩ : ∃ n, n = L.length := ⟨_, rfl⟩
  have hn9 : n ≤ 9223372036854775807 := by unfold maxLen at hnC; omega
  rw [← hn2] at hn0 ⊢
  obtain ⟨OA, OC, rfl, _, hq0, hqC, hqS⟩ := ho
  obtain ⟨q, hq2⟩ : ∃ q, q = O.length := ⟨_, rfl⟩
  have hq9 : q ≤ 9223372036854775807 := by unfold maxLen at hqC; omega
  rw [← hq2] at hq0 ⊢
  obtain ⟨GA, GC, rfl, _, hm0, hmC, hmS⟩ := hg
  obtain ⟨m, hm2⟩ : ∃ m, m = G.length := ⟨_, rfl⟩
  have hm9 : m ≤ 9223372036854775807 := by unfold maxLen at hmC; omega
  rw [← hm2] at hm0 ⊢
  obtain ⟨MA, MC, rfl, _, hr0, hrC, hrS⟩ := ht
  obtain ⟨r, hr2⟩ : ∃ r, r = M.length := ⟨_, rfl⟩
  have hr9 : r ≤ 9223372036854775807 := by unfold maxLen at hrC; omega
  rw [← hr2] at hr0 ⊢
  have HN : Hid ((n = L.length ∧ q = O.length ∧ m = G.length ∧ r = M.length) ∧ Seg w A (flat L) ∧ Seg w OA (flatE encU O) ∧ Seg w GA (flat G) ∧ Seg w MA (flat M)) := Lib.hid ⟨⟨hn2, hq2, hm2, hr2⟩, hnS, hqS, hmS, hrS⟩
  clear hn2 hq2 hm2 hr2 hnS hqS hmS hrS
  go_enter Try.func10, Try.ntmps10
  repeat' (first | go_at_call 11 | go_skip | go_guarded | go_step)
  refine (awakeX_c w).mono ?_
  rintro e w1 ⟨rfl, f1⟩
  have H1 := Lib.hid f1
  clear f1
  go_simp
  repeat' (go_not_at_region 4; (first | go_skip | go_guarded | go_step))
  rename_i K hK
  refine ord_4 w1 n C A L (Lib.hid ⟨HN.out.2.1.below H1.out, HN.out.1.1⟩) hn9 _ _ K _ _ _ _ _ _ _ _ _ _ _ _ _ _ _ _ _ _ _ _ _ _ _ _ _ _ _ _ _ _ _ _ _ _ _ _ _ _ _ _ _ _ _ _ _ _ _ _ _ _ _ _ _ _ _ _ _ _ _ _ _ _ _ _ _ _ _ _ _ _ _ _ _ _ _ _ _ _ _ _ _ _ _ _ _ _ _ _ _ _ _ _ _ _ _ _ _ _ _ _ _ _ _ _ _ _ _ _ _ _ _ _ _ _ _ _ _ _ _ _ _ _ _ _ _ _ _ _ _ _ _ _ _ _ _ _ _ _ _ _ _ _ _ _ _ _ _ _ _ _ _ _ _ _ _ _ _ _ _ _ _ _ _ _ _ _ _ _ _ _ _ _ _ _ _ _ _ _ _ _ _ _ _ _ _ _ _ _ _ _ _ _ _ _ _ _ _ _ _ _ _ _ _ _ _ _ _ _ _ _ _ _ (by kernel_rfl) (by kernel_rfl) hK ?_
  intro v9 z10 z11 z34 z35 z36 z37 z38 z39 z40 z41 z42 z43 z44 z45 z46 z47 z48 w2 hpo
  have H2 : Hid (Ext w w2 ∧ PS w2 v9 (cutM 30 L n)) := Lib.hid ⟨H1.out.trans hpo.1, hpo.2⟩
  clear hpo
  repeat' (first | go_at_call 40 | go_skip | go_guarded | go_step)
  refine (Pch.sorted_c w2 v9 (cutM 30 L n) H2.out.2 (by have := cutM_length 30 L n; omega)).mono ?_
  rintro e w3 ⟨vs, rfl, o3, f3⟩
  obtain ⟨X, hX⟩ : ∃ X, X = sortedP (cutM 30 L n) := ⟨_, rfl⟩
  rw [← hX] at o3
  have hXl : X.length ≤ 30 := by rw [hX]; exact Nat.le_trans (sortedP_length _) (cutM_length 30 L n)
  have HX : Hid (Rise X ∧ ∀ q ∈ X, q.1.length ≤ 40 ∧ q.2.length ≤ 40) := Lib.hid ⟨by rw [hX]; exact sortedP_rise _, fun q hq => cutM_short (mem_sortedP (by rw [← hX]; exact hq))⟩
  obtain ⟨SA, sc, rfl⟩ := own_slice' o3
  have H3 : Hid (Ext w w3 ∧ PS w3 (.slice SA X.length sc) X) := Lib.hid ⟨H2.out.1.trans f3, PS.of_own o3⟩
  clear hX o3 f3 H2
  go_simp
  repeat' (first | go_at_call 12 | go_skip | go_guarded | go_step)
  refine (emptyO_c _).mono ?_
  rintro e w4 ⟨g0, rfl, f0, r0⟩
  have H4 : Hid (Ext w w4 ∧ PS w4 (.slice SA X.length sc) X ∧ Rep NT w4 g0 (RT.node [] none [])) := Lib.hid ⟨H3.out.1.trans f0, H3.out.2.below f0, r0⟩
  clear f0 r0 H3
  go_simp
  repeat' (first | go_at_call 12 | go_skip | go_guarded | go_step)
  refine (emptyO_c _).mono ?_
  rintro e w5 ⟨g1, rfl, f0, r0⟩
  have H5 : Hid (Ext w w5 ∧ PS w5 (.slice SA X.length sc) X ∧ Rep NT w5 g0 (RT.node [] none []) ∧ Rep NT w5 g1 (RT.node [] none [])) := Lib.hid ⟨H4.out.1.trans f0, H4.out.2.1.below f0, H4.out.2.2.ext f0, r0⟩
  clear f0 r0 H4
  go_simp
  repeat' (first | go_at_call 12 | go_skip | go_guarded | go_step)
  refine (emptyO_c _).mono ?_
  rintro e w6 ⟨g2, rfl, f0, r0⟩
  have H6 : Hid (Ext w w6 ∧ PS w6 (.slice SA X.length sc) X ∧ Rep NT w6 g0 (RT.node [] none []) ∧ Rep NT w6 g1 (RT.node [] none []) ∧ Rep NT w6 g2 (RT.node [] none [])) := Lib.hid ⟨H5.out.1.trans f0, H5.out.2.1.below f0, H5.out.2.2.1.ext f0, H5.out.2.2.2.ext f0, r0⟩
  clear f0 r0 H5
  go_simp
  repeat' (go_not_at_region 13; (first | go_skip | go_guarded | go_step))
  rename_i K hK
  refine ord_13 w6 g0 _ X (Lib.hid ⟨H6.out.2.2.1, H6.out.2.1, HX.out⟩) (by omega) _ _ K _ _ _ _ _ _ _ _ _ _ _ _ _ _ _ _ _ _ _ _ _ _ _ _ _ _ _ _ _ _ _ _ _ _ _ _ _ _ _ _ _ _ _ _ _ _ _ _ _ _ _ _ _ _ _ _ _ _ _ _ _ _ _ _ _ _ _ _ _ _ _ _ _ _ _ _ _ _ _ _ _ _ _ _ _ _ _ _ _ _ _ _ _ _ _ _ _ _ _ _ _ _ _ _ _ _ _ _ _ _ _ _ _ _ _ _ _ _ _ _ _ _ _ _ _ _ _ _ _ _ _ _ _ _ _ _ _ _ _ _ _ _ _ _ _ _ _ _ _ _ _ _ _ _ _ _ _ _ _ _ _ _ _ _ _ _ _ _ _ _ _ _ _ _ _ _ _ _ _ _ _ _ _ _ _ _ _ _ _ _ _ _ _ _ _ _ _ _ _ _ _ _ _ _ _ _ _ _ _ _ _ (by kernel_rfl) (by kernel_rfl) hK ?_
  intro gn vx Tn z18 z54 z55 z56 z57 z58 z59 z60 z61 z62 z63 z64 z65 z66 z67 z68 z69 z70 w7 hpo
  have H7 : Hid (Ext w6 w7 ∧ Ext w w7 ∧ Rep NT w7 gn Tn ∧ Ok Tn X ∧ PS w7 vx X) := Lib.hid ⟨hpo.1, H6.out.1.trans hpo.1, hpo.2⟩
  clear hpo
  repeat' (go_not_at_region 19; (first | go_skip | go_guarded | go_step))
  rename_i K hK
  refine ord_19 w7 g2 r MC MA M (Lib.hid ⟨H6.out.2.2.2.2.ext H7.out.1, HN.out.2.2.2.2.below H7.out.2.1, HN.out.1.2.2.2⟩) hr9 _ _ K _ _ _ _ _ _ _ _ _ _ _ _ _ _ _ _ _ _ _ _ _ _ _ _ _ _ _ _ _ _ _ _ _ _ _ _ _ _ _ _ _ _ _ _ _ _ _ _ _ _ _ _ _ _ _ _ _ _ _ _ _ _ _ _ _ _ _ _ _ _ _ _ _ _ _ _ _ _ _ _ _ _ _ _ _ _ _ _ _ _ _ _ _ _ _ _ _ _ _ _ _ _ _ _ _ _ _ _ _ _ _ _ _ _ _ _ _ _ _ _ _ _ _ _ _ _ _ _ _ _ _ _ _ _ _ _ _ _ _ _ _ _ _ _ _ _ _ _ _ _ _ _ _ _ _ _ _ _ _ _ _ _ _ _ _ _ _ _ _ _ _ _ _ _ _ _ _ _ _ _ _ _ _ _ _ _ _ _ _ _ _ _ _ _ _ _ _ _ _ _ _ _ _ _ _ _ _ _ _ _ _ (by kernel_rfl) (by kernel_rfl) hK ?_
  intro go vy To Y y19 y20 y71 y72 y73 y74 y75 y76 y77 y78 y79 y80 y81 y82 y83 y84 y85 y86 y87 y88 y89 y90 y91 w8 hpo
  have H8 : Hid (Ext w7 w8 ∧ Ext w w8 ∧ Rep NT w8 go To ∧ Ok To Y ∧ PS w8 vy Y ∧ Y.length ≤ 30) := Lib.hid ⟨hpo.1, H7.out.2.1.trans hpo.1, hpo.2⟩
  clear hpo
  have HA : Hid (PS w8 (.slice SA X.length sc) X) := Lib.hid (H6.out.2.1.below (H7.out.1.trans H8.out.1))
  obtain ⟨SA', sc', he, hl', _, hc', hs'⟩ := HA.out
  simp only [Value.slice.injEq] at he
  obtain ⟨rfl, _, rfl⟩ := he
  have HS := Lib.hid (And.intro hl' hs')
  clear hl' hs'
  repeat' (first | (at_builtin; refine wpList_appE (W := w8) rfl (.tmp 92) (.tmp 93) _ rfl 24 2 32 Try.underlying22 infoP (by decide) _ 0 [] rfl (own_lit [] 0 (by decide) rfl (Nat.le_refl _)) ((Ext.refl w8).alloc (Nat.le_refl _) _) _ _ _ (flat X) rfl HS.out.1 (HS.out.2.alloc _) (flat_one _) (by unfold maxLen; omega) (by omega) ?_; intro v21 w9 hown hb) | (go_not_at_region 27; (first | go_skip | go_guarded | go_step)))
  have H9 : Hid (Ext w8 w9 ∧ w9.ownsRow w8.heap.size 24 2 v21 X.length (flat X)) := Lib.hid ⟨hb, by rw [Nat.zero_add, List.nil_append] at hown; exact hown⟩
  clear hown hb
  repeat' (go_not_at_region 27; (first | go_skip | go_guarded | go_step))
  rename_i K hK
  refine ord_27 w8 w9 q OC OA v21 X O (Lib.hid ⟨H9.out.1, H9.out.2, HN.out.2.2.1.below H8.out.2.1, HN.out.1.2.1⟩) (by omega) hq9 _ _ K _ _ _ _ _ _ _ _ _ _ _ _ _ _ _ _ _ _ _ _ _ _ _ _ _ _ _ _ _ _ _ _ _ _ _ _ _ _ _ _ _ _ _ _ _ _ _ _ _ _ _ _ _ _ _ _ _ _ _ _ _ _ _ _ _ _ _ _ _ _ _ _ _ _ _ _ _ _ _ _ _ _ _ _ _ _ _ _ _ _ _ _ _ _ _ _ _ _ _ _ _ _ _ _ _ _ _ _ _ _ _ _ _ _ _ _ _ _ _ _ _ _ _ _ _ _ _ _ _ _ _ _ _ _ _ _ _ _ _ _ _ _ _ _ _ _ _ _ _ _ _ _ _ _ _ _ _ _ _ _ _ _ _ _ _ _ _ _ _ _ _ _ _ _ _ _ _ _ _ _ _ _ _ _ _ _ _ _ _ _ _ _ _ _ _ _ _ _ _ _ _ _ _ _ _ _ _ _ _ _ _ _ (by kernel_rfl) (by kernel_rfl) hK ?_
  intro Ls x22 x23 x95 x96 x97 x98 x99 x100 x101 x102 x103 x104 x105 x106 x107 x108 x109 x110 x111 x112 x113 x114 x115 x116 x117 x118 x119 x120 x121 x122 x123 x124 x125 x126 x127 x128 x129 x130 wa hpo
  have Ha : Hid (Ext w8 wa ∧ PS wa v21 Ls ∧ Ls.length = X.length ∧ ∀ k, k ∈ Ls ↔ k ∈ X) := Lib.hid hpo
  have Ea : Hid (Ext w wa ∧ Ext w6 wa) := Lib.hid ⟨H8.out.2.1.trans hpo.1, H7.out.1.trans (H8.out.1.trans hpo.1)⟩
  clear hpo
  repeat' (go_not_at_region 34; (first | go_skip | go_guarded | go_step))
  rename_i K hK
  refine ord_34 wa g1 m GC GA G (Lib.hid ⟨H6.out.2.2.2.1.ext Ea.out.2, HN.out.2.2.2.1.below Ea.out.1, HN.out.1.2.2.1⟩) hm9 _ _ K _ _ _ _ _ _ _ _ _ _ _ _ _ _ _ _ _ _ _ _ _ _ _ _ _ _ _ _ _ _ _ _ _ _ _ _ _ _ _ _ _ _ _ _ _ _ _ _ _ _ _ _ _ _ _ _ _ _ _ _ _ _ _ _ _ _ _ _ _ _ _ _ _ _ _ _ _ _ _ _ _ _ _ _ _ _ _ _ _ _ _ _ _ _ _ _ _ _ _ _ _ _ _ _ _ _ _ _ _ _ _ _ _ _ _ _ _ _ _ _ _ _ _ _ _ _ _ _ _ _ _ _ _ _ _ _ _ _ _ _ _ _ _ _ _ _ _ _ _ _ _ _ _ _ _ _ _ _ _ _ _ _ _ _ _ _ _ _ _ _ _ _ _ _ _ _ _ _ _ _ _ _ _ _ _ _ _ _ _ _ _ _ _ _ _ _ _ _ _ _ _ _ _ _ _ _ _ _ _ _ _ _ (by kernel_rfl) (by kernel_rfl) hK ?_
  intro gb Tb M0 t24 t25 t131 t132 t133 t134 t135 t136 t137 t138 t139 t140 t141 t142 t143 t144 t145 t146 t147 wb hpo
  have Hb : Hid (Ext wa wb ∧ Rep NT wb gb Tb ∧ Ok Tb M0 ∧ ∀ q ∈ M0, GoneK G q.1) := Lib.hid hpo
  clear hpo
  repeat' (go_not_at_region 40; (first | go_skip | go_guarded | go_step))
  rename_i K hK
  refine ord_40 wb gb v21 Tb M0 Ls (Lib.hid ⟨Hb.out.2.1, Hb.out.2.2.1, Ha.out.2.1.below Hb.out.1, fun q hq => HX.out.2 q ((Ha.out.2.2.2 q).1 hq)⟩) _ _ K _ _ _ _ _ _ _ _ _ _ _ _ _ _ _ _ _ _ _ _ _ _ _ _ _ _ _ _ _ _ _ _ _ _ _ _ _ _ _ _ _ _ _ _ _ _ _ _ _ _ _ _ _ _ _ _ _ _ _ _ _ _ _ _ _ _ _ _ _ _ _ _ _ _ _ _ _ _ _ _ _ _ _ _ _ _ _ _ _ _ _ _ _ _ _ _ _ _ _ _ _ _ _ _ _ _ _ _ _ _ _ _ _ _ _ _ _ _ _ _ _ _ _ _ _ _ _ _ _ _ _ _ _ _ _ _ _ _ _ _ _ _ _ _ _ _ _ _ _ _ _ _ _ _ _ _ _ _ _ _ _ _ _ _ _ _ _ _ _ _ _ _ _ _ _ _ _ _ _ _ _ _ _ _ _ _ _ _ _ _ _ _ _ _ _ _ _ _ _ _ _ _ _ _ _ _ _ _ _ _ _ _ (by kernel_rfl) (by kernel_rfl) hK ?_
  intro gd Td s27 s148 s149 s150 s151 s152 s153 s154 s155 s156 s157 s158 s159 s160 wd hpo
  have Hd : Hid (Ext wa wd ∧ Rep NT wd gd Td ∧ Ok Td (Ls.foldl rput M0)) := Lib.hid ⟨Hb.out.1.trans hpo.1, hpo.2⟩
  have Ed : Hid (Ext w wd ∧ Ext w8 wd) := Lib.hid ⟨Ea.out.1.trans Hd.out.1, Ha.out.1.trans Hd.out.1⟩
  clear hpo
  repeat' (go_not_at_region 45; (first | go_skip | go_guarded | go_step))
  rename_i K hK
  refine ord_45 wd gd m GC GA _ Td X _ G (Lib.hid ⟨Hd.out.2.1, Hd.out.2.2, HN.out.2.2.2.1.below Ed.out.1, HN.out.1.2.2.1⟩) (Lib.hid ⟨HA.out.below Ed.out.2, HX.out.1⟩) (by omega) hm9 _ _ K _ _ _ _ _ _ _ _ _ _ _ _ _ _ _ _ _ _ _ _ _ _ _ _ _ _ _ _ _ _ _ _ _ _ _ _ _ _ _ _ _ _ _ _ _ _ _ _ _ _ _ _ _ _ _ _ _ _ _ _ _ _ _ _ _ _ _ _ _ _ _ _ _ _ _ _ _ _ _ _ _ _ _ _ _ _ _ _ _ _ _ _ _ _ _ _ _ _ _ _ _ _ _ _ _ _ _ _ _ _ _ _ _ _ _ _ _ _ _ _ _ _ _ _ _ _ _ _ _ _ _ _ _ _ _ _ _ _ _ _ _ _ _ _ _ _ _ _ _ _ _ _ _ _ _ _ _ _ _ _ _ _ _ _ _ _ _ _ _ _ _ _ _ _ _ _ _ _ _ _ _ _ _ _ _ _ _ _ _ _ _ _ _ _ _ _ _ _ _ _ _ _ _ _ _ _ _ _ _ _ _ (by kernel_rfl) (by kernel_rfl) hK ?_
  intro gm Tm N r28 r29 r30 r31 r161 r162 r163 r164 r165 r166 r167 r168 r169 r170 r171 r172 r173 r174 r175 r176 r177 r178 r179 r180 r181 r182 r183 r184 r185 r186 r187 r188 r189 r190 we hpo
  have hNX : N = X := order_end (K := GoneK G) HX.out.1 hpo.2.2.1.rise Ha.out.2.2.2 Hb.out.2.2.2 hpo.2.2.2.1 hpo.2.2.2.2.1 hpo.2.2.2.2.2
  rw [hNX] at hpo
  have He : Hid (Ext w8 we ∧ Rep NT we gm Tm ∧ Ok Tm X) := Lib.hid ⟨Ed.out.2.trans hpo.1, hpo.2.1, hpo.2.2.1⟩
  have Hn : Hid (Rep NT we gn Tn ∧ PS we vx X ∧ Rep NT we go To ∧ PS we vy Y ∧ Ext w we) := Lib.hid ⟨H7.out.2.2.1.ext (H8.out.1.trans He.out.1), H7.out.2.2.2.2.below (H8.out.1.trans He.out.1), H8.out.2.2.1.ext He.out.1, H8.out.2.2.2.2.1.below He.out.1, H8.out.2.1.trans He.out.1⟩
  have hTm : Tm = Tn := Ok.uniq He.out.2.2 H7.out.2.2.2.1
  obtain ⟨c, hc⟩ : ∃ c, c = decide (X = Y) := ⟨_, rfl⟩
  have hcs : decide (Tn.shp = To.shp) = c := by
    rw [hc, decide_eq_decide, shp_inj H7.out.2.2.2.1.sml H8.out.2.2.2.1.sml]
    constructor
    · rintro e; rw [← H7.out.2.2.2.1.prs, ← H8.out.2.2.2.1.prs, e]
    · intro e; have hx := H7.out.2.2.2.1; rw [e] at hx; exact Ok.uniq hx H8.out.2.2.2.1
  have HC : Hid (Tm = Tn ∧ c = decide (X = Y) ∧ decide (Tn.shp = To.shp) = c) := Lib.hid ⟨hTm, hc, hcs⟩
  clear hpo hNX hTm hc hcs
  repeat' (first | go_at_call 28 | go_skip | go_guarded | go_step)
  refine (tree11_c we gn vx Tn X Hn.out.1 H7.out.2.2.2.1 Hn.out.2.1 (by omega)).mono ?_
  rintro e x1 ⟨rfl, f1⟩
  have F1 := Lib.hid f1
  clear f1
  go_simp
  repeat' (first | go_at_call 28 | go_skip | go_guarded | go_step)
  refine (tree11_c x1 gm vx Tm X (He.out.2.1.ext F1.out) He.out.2.2 (Hn.out.2.1.below F1.out) (by omega)).mono ?_
  rintro e x2 ⟨rfl, f2⟩
  have F2 := Lib.hid (F1.out.trans f2)
  clear f2
  go_simp
  repeat' (first | go_at_call 35 | go_skip | go_guarded | go_step)
  refine (same_c x2 _ _ Tn.shp Tm.shp (.of (Hn.out.1.ext F2.out) (by have := H7.out.2.2.2.1.shp; omega)) (.of (He.out.2.1.ext F2.out) (by have := He.out.2.2.shp; omega))).mono ?_
  rintro e x3 ⟨rfl, f3⟩
  have F3 := Lib.hid (F2.out.trans f3)
  clear f3
  have e1 : decide (Tn.shp = Tm.shp) = true := by rw [HC.out.1]; simp
  rw [e1]
  clear e1
  go_simp
  repeat' (first | go_at_call 35 | go_skip | go_guarded | go_step)
  refine (same_c x3 _ _ Tn.shp To.shp (.of (Hn.out.1.ext F3.out) (by have := H7.out.2.2.2.1.shp; omega)) (.of (Hn.out.2.2.1.ext F3.out) (by have := H8.out.2.2.2.1.shp; have := H8.out.2.2.2.2.2; omega))).mono ?_
  rintro e x4 ⟨rfl, f4⟩
  have F4 := Lib.hid (F3.out.trans f4)
  clear f4
  rw [HC.out.2.2]
  go_simp
  repeat' (first | go_at_call 42 | go_skip | go_guarded | go_step)
  refine (Pch.rsame_c x4 _ _ X Y (Hn.out.2.1.below F4.out) (Hn.out.2.2.2.1.below F4.out) (by omega) (by have := H8.out.2.2.2.2.2; omega)).mono ?_
  rintro e x5 ⟨rfl, f5⟩
  have F5 := Lib.hid (Hn.out.2.2.2.2.trans (F4.out.trans f5))
  clear f5
  rw [← HC.out.2.1]
  have hcc : (c == c) = true := by simp
  go_simp
  repeat' (first | go_skip | go_guarded | go_step)
  go_ret
  exact ⟨rfl, F5.out⟩
end Go.Proofs.Ytmpeniboccahdaa
