/- Texts joined. -/
import Derived.Test.YtlgnokhfioglaaaBu
import Derived.Test.YtlgnokhfioglaaaBs
set_option linter.unusedVariables false
set_option linter.unusedSimpArgs false
/- ChampOrders, walked. -/
namespace Go.Proofs.Ytlgnokhfioglaaa
open Go.RowKit Go.QS Go.QS.Nk
set_option linter.unusedVariables false

theorem mem_sortedP {l : List Pr} {x : Pr} (h : x ∈ sortedP l) : x ∈ l := by
  rw [sortedP_eq, mem_rsort] at h
  exact (lastK_mem h).1
set_option maxRecDepth 100000 in
set_option maxHeartbeats 4000000 in
theorem champOrders_c (w : World) (h : Hs) (hk : h.Ok) (va vo vg : Value) (L G : List Pr) (O : List UInt8) (ha : PS w va L) (ho : Sl w 1 vo O.length (flatE encU O)) (hg : PS w vg G) :
    Calls Try.prog 13 #[hsV h, va, vo, vg] w fun e w' => e = .returned (.bool true) ∧ Ext w w' := by
  obtain ⟨A, C, rfl, _, hn0, hnC, hnS⟩ := ha
  obtain ⟨n, hn2⟩ : ∃ n, n = L.length := ⟨_, rfl⟩
  have hn9 : n ≤ 9223372036854775807 := by unfold maxLen at hnC; omega
  rw [← hn2] at hn0 ⊢
  obtain ⟨OA, OC, rfl, _, hq0, hqC, hqS⟩ := ho
  obtain ⟨q, hq2⟩ : ∃ q, q = O.length := ⟨_, rfl⟩
  have hq9 : q ≤ 9223372036854775807 := by unfold maxLen at hqC; omega
  rw [← hq2] at hq0 ⊢
  obtain ⟨GA, GC, rfl, _, hm0, hmC, hmS⟩ := hg
  obtain ⟨m, hm2⟩ : ∃ m, m = G.length := ⟨_, rfl⟩
  have hm9 : m ≤ 9223372036854775807 := by unfold maxLen at hmC; omega
  rw [← hm2] at hm0 ⊢
  have HN : Hid ((n = L.length ∧ q = O.length ∧ m = G.length) ∧ Seg w A (flat L) ∧ Seg w OA (flatE encU O) ∧ Seg w GA (flat G)) := Lib.hid ⟨⟨hn2, hq2, hm2⟩, hnS, hqS, hmS⟩
  clear hn2 hq2 hm2 hnS hqS hmS
  go_enter Try.func13, Try.ntmps13
  repeat' (first | go_at_call 37 | go_skip | go_guarded | go_step)
  obtain ⟨gh, hgh⟩ : ∃ g, g = w.heap.size := ⟨_, rfl⟩
  rw [← hgh]
  refine calls_named (fun w' => HsAt w' gh h ∧ Ext w w') ⟨by rw [hgh]; exact heap_new w _, (Ext.refl w).alloc (Nat.le_refl _) _⟩ ?_
  clear hgh
  intro wh HW
  refine (awake6_c wh).mono ?_
  rintro e w1 ⟨rfl, f1⟩
  have H1 : Hid (Ext w w1 ∧ HsAt w1 gh h) := Lib.hid ⟨HW.out.2.trans f1, HW.out.1.ext f1⟩
  clear f1
  go_simp
  repeat' (go_not_at_region 4; (first | go_skip | go_guarded | go_step))
  rename_i K hK
  refine ord6_4 w1 n C A L (Lib.hid ⟨HN.out.2.1.below H1.out.1, HN.out.1.1⟩) hn9 _ _ K _ _ _ _ _ _ _ _ _ _ _ _ _ _ _ _ _ _ _ _ _ _ _ _ _ _ _ _ _ _ _ _ _ _ _ _ _ _ _ _ _ _ _ _ _ _ _ _ _ _ _ _ _ _ _ _ _ _ _ _ _ _ _ _ _ _ _ _ _ _ _ _ _ _ _ _ _ _ _ _ _ _ _ _ _ _ _ _ _ _ _ _ _ _ _ _ _ _ _ _ _ _ _ _ _ _ _ _ _ _ _ _ _ _ _ _ _ _ _ _ _ _ _ _ _ _ _ _ _ _ _ _ _ _ _ _ _ _ _ _ _ _ _ _ _ _ _ _ _ _ _ _ _ _ _ _ _ _ _ _ _ _ _ _ _ _ _ _ _ _ _ _ _ _ _ _ _ _ _ _ _ _ _ _ _ _ _ (by kernel_rfl) (by kernel_rfl) hK ?_
  intro v9 z10 z11 z32 z33 z34 z35 z36 z37 z38 z39 z40 z41 z42 z43 z44 z45 z46 w2 hpo
  have H2 : Hid (Ext w w2 ∧ PS w2 v9 (cutM 30 L n) ∧ HsAt w2 gh h) := Lib.hid ⟨H1.out.1.trans hpo.1, hpo.2, H1.out.2.ext hpo.1⟩
  clear hpo
  repeat' (first | go_at_call 49 | go_skip | go_guarded | go_step)
  refine (Pch.sorted_c w2 v9 (cutM 30 L n) H2.out.2.1 (by have := cutM_length 30 L n; omega)).mono ?_
  rintro e w3 ⟨vs, rfl, o3, f3⟩
  obtain ⟨X, hX⟩ : ∃ X, X = sortedP (cutM 30 L n) := ⟨_, rfl⟩
  rw [← hX] at o3
  have hXl : X.length ≤ 30 := by rw [hX]; exact Nat.le_trans (sortedP_length _) (cutM_length 30 L n)
  have HX : Hid (OkL X) := Lib.hid ⟨by rw [hX]; exact sortedP_rise _, fun q hq => cutM_short (mem_sortedP (by rw [← hX]; exact hq))⟩
  obtain ⟨SA, sc, rfl⟩ := own_slice' o3
  have H3 : Hid (Ext w w3 ∧ PS w3 (.slice SA X.length sc) X ∧ HsAt w3 gh h) := Lib.hid ⟨H2.out.1.trans f3, PS.of_own o3, H2.out.2.2.ext f3⟩
  clear hX o3 f3 H2
  go_simp
  repeat' (first | go_at_call 38 | go_skip | go_guarded | go_step)
  refine (empty_c h _).mono ?_
  rintro e w4 ⟨g0, rfl, r0, f0⟩
  have H4 : Hid (Ext w w4 ∧ PS w4 (.slice SA X.length sc) X ∧ T6 w4 gh h g0 []) := Lib.hid ⟨H3.out.1.trans f0, H3.out.2.1.below f0, ⟨H3.out.2.2.ext f0, r0, OkL.nil⟩⟩
  clear f0 r0 H3
  go_simp
  repeat' (first | go_at_call 38 | go_skip | go_guarded | go_step)
  refine (empty_c h _).mono ?_
  rintro e w5 ⟨g1, rfl, r0, f0⟩
  have H5 : Hid (Ext w w5 ∧ PS w5 (.slice SA X.length sc) X ∧ T6 w5 gh h g0 [] ∧ T6 w5 gh h g1 []) := Lib.hid ⟨H4.out.1.trans f0, H4.out.2.1.below f0, H4.out.2.2.ext f0, ⟨H4.out.2.2.hs.ext f0, r0, OkL.nil⟩⟩
  clear f0 r0 H4
  go_simp
  repeat' (go_not_at_region 12; (first | go_skip | go_guarded | go_step))
  rename_i K hK
  refine ord6_12 w5 gh g0 h hk _ X (Lib.hid ⟨H5.out.2.2.1, H5.out.2.1, HX.out⟩) (by omega) _ _ K _ _ _ _ _ _ _ _ _ _ _ _ _ _ _ _ _ _ _ _ _ _ _ _ _ _ _ _ _ _ _ _ _ _ _ _ _ _ _ _ _ _ _ _ _ _ _ _ _ _ _ _ _ _ _ _ _ _ _ _ _ _ _ _ _ _ _ _ _ _ _ _ _ _ _ _ _ _ _ _ _ _ _ _ _ _ _ _ _ _ _ _ _ _ _ _ _ _ _ _ _ _ _ _ _ _ _ _ _ _ _ _ _ _ _ _ _ _ _ _ _ _ _ _ _ _ _ _ _ _ _ _ _ _ _ _ _ _ _ _ _ _ _ _ _ _ _ _ _ _ _ _ _ _ _ _ _ _ _ _ _ _ _ _ _ _ _ _ _ _ _ _ _ _ _ _ _ _ _ _ _ _ _ _ _ _ (by kernel_rfl) (by kernel_rfl) hK ?_
  intro gn z15 z51 z52 z53 z54 z55 z56 z57 z58 z59 z60 z61 z62 z63 z64 w8 hpo
  have H8 : Hid (Ext w w8 ∧ PS w8 (.slice SA X.length sc) X ∧ T6 w8 gh h gn X ∧ T6 w8 gh h g1 []) := Lib.hid ⟨H5.out.1.trans hpo.1, H5.out.2.1.below hpo.1, hpo.2, H5.out.2.2.2.ext hpo.1⟩
  clear hpo
  obtain ⟨SA', sc', he, hl', _, hc', hs'⟩ := H8.out.2.1
  simp only [Value.slice.injEq] at he
  obtain ⟨rfl, _, rfl⟩ := he
  have HS := Lib.hid (And.intro hl' hs')
  clear hl' hs'
  repeat' (first | (at_builtin; refine wpList_appE (W := w8) rfl (.tmp 65) (.tmp 66) _ rfl 36 2 32 Try.underlying22 infoPx (by decide) _ 0 [] rfl (own_lit [] 0 (by decide) rfl (Nat.le_refl _)) ((Ext.refl w8).alloc (Nat.le_refl _) _) _ _ _ (flat X) rfl HS.out.1 (HS.out.2.alloc _) (flat_one _) (by unfold maxLen; omega) (by omega) ?_; intro v16 w9 hown hb) | (go_not_at_region 18; (first | go_skip | go_guarded | go_step)))
  have H9 : Hid (Ext w8 w9 ∧ w9.ownsRow w8.heap.size 36 2 v16 X.length (flat X)) := Lib.hid ⟨hb, by rw [Nat.zero_add, List.nil_append] at hown; exact hown⟩
  clear hown hb
  repeat' (go_not_at_region 18; (first | go_skip | go_guarded | go_step))
  rename_i K hK
  refine ord6_18 w8 w9 q OC OA v16 X O (Lib.hid ⟨H9.out.1, H9.out.2, HN.out.2.2.1.below H8.out.1, HN.out.1.2.1⟩) (by omega) hq9 _ _ K _ _ _ _ _ _ _ _ _ _ _ _ _ _ _ _ _ _ _ _ _ _ _ _ _ _ _ _ _ _ _ _ _ _ _ _ _ _ _ _ _ _ _ _ _ _ _ _ _ _ _ _ _ _ _ _ _ _ _ _ _ _ _ _ _ _ _ _ _ _ _ _ _ _ _ _ _ _ _ _ _ _ _ _ _ _ _ _ _ _ _ _ _ _ _ _ _ _ _ _ _ _ _ _ _ _ _ _ _ _ _ _ _ _ _ _ _ _ _ _ _ _ _ _ _ _ _ _ _ _ _ _ _ _ _ _ _ _ _ _ _ _ _ _ _ _ _ _ _ _ _ _ _ _ _ _ _ _ _ _ _ _ _ _ _ _ _ _ _ _ _ _ _ _ _ _ _ _ _ _ _ _ _ _ _ _ _ (by kernel_rfl) (by kernel_rfl) hK ?_
  intro Ls x17 x18 x68 x69 x70 x71 x72 x73 x74 x75 x76 x77 x78 x79 x80 x81 x82 x83 x84 x85 x86 x87 x88 x89 x90 x91 x92 x93 x94 x95 x96 x97 x98 x99 x100 x101 x102 x103 wa hpo
  have Ha : Hid (Ext w8 wa ∧ PS wa v16 Ls ∧ Ls.length = X.length ∧ ∀ k, k ∈ Ls ↔ k ∈ X) := Lib.hid hpo
  have Ea : Hid (Ext w wa) := Lib.hid (H8.out.1.trans hpo.1)
  clear hpo
  repeat' (go_not_at_region 25; (first | go_skip | go_guarded | go_step))
  rename_i K hK
  refine ord6_25 wa gh g1 m GC h hk GA G (Lib.hid ⟨H8.out.2.2.2.ext Ha.out.1, HN.out.2.2.2.below Ea.out, HN.out.1.2.2⟩) hm9 _ _ K _ _ _ _ _ _ _ _ _ _ _ _ _ _ _ _ _ _ _ _ _ _ _ _ _ _ _ _ _ _ _ _ _ _ _ _ _ _ _ _ _ _ _ _ _ _ _ _ _ _ _ _ _ _ _ _ _ _ _ _ _ _ _ _ _ _ _ _ _ _ _ _ _ _ _ _ _ _ _ _ _ _ _ _ _ _ _ _ _ _ _ _ _ _ _ _ _ _ _ _ _ _ _ _ _ _ _ _ _ _ _ _ _ _ _ _ _ _ _ _ _ _ _ _ _ _ _ _ _ _ _ _ _ _ _ _ _ _ _ _ _ _ _ _ _ _ _ _ _ _ _ _ _ _ _ _ _ _ _ _ _ _ _ _ _ _ _ _ _ _ _ _ _ _ _ _ _ _ _ _ _ _ _ _ _ _ (by kernel_rfl) (by kernel_rfl) hK ?_
  intro gb M0 t19 t20 t104 t105 t106 t107 t108 t109 t110 t111 t112 t113 t114 t115 t116 t117 t118 t119 t120 t121 wb hpo
  have Hb : Hid (Ext wa wb ∧ T6 wb gh h gb M0 ∧ (∀ q ∈ M0, GoneK G q.1)) := Lib.hid ⟨hpo.1, hpo.2.1, hpo.2.2.1⟩
  have hM0 : M0.length ≤ 20 := hpo.2.2.2
  clear hpo
  have hLs : Ls.length ≤ 30 := by have := Ha.out.2.2.1; omega
  repeat' (go_not_at_region 31; (first | go_skip | go_guarded | go_step))
  rename_i K hK
  refine ord6_31 wb gh gb h hk v16 M0 Ls (Lib.hid ⟨Hb.out.2.1, Ha.out.2.1.below Hb.out.1, fun q hq => HX.out.short q ((Ha.out.2.2.2 q).1 hq)⟩) (by omega) (by omega) _ _ K _ _ _ _ _ _ _ _ _ _ _ _ _ _ _ _ _ _ _ _ _ _ _ _ _ _ _ _ _ _ _ _ _ _ _ _ _ _ _ _ _ _ _ _ _ _ _ _ _ _ _ _ _ _ _ _ _ _ _ _ _ _ _ _ _ _ _ _ _ _ _ _ _ _ _ _ _ _ _ _ _ _ _ _ _ _ _ _ _ _ _ _ _ _ _ _ _ _ _ _ _ _ _ _ _ _ _ _ _ _ _ _ _ _ _ _ _ _ _ _ _ _ _ _ _ _ _ _ _ _ _ _ _ _ _ _ _ _ _ _ _ _ _ _ _ _ _ _ _ _ _ _ _ _ _ _ _ _ _ _ _ _ _ _ _ _ _ _ _ _ _ _ _ _ _ _ _ _ _ _ _ _ _ _ _ _ (by kernel_rfl) (by kernel_rfl) hK ?_
  intro gd s22 s122 s123 s124 s125 s126 s127 s128 s129 s130 s131 s132 s133 s134 s135 wd hpo
  have Hd : Hid (Ext wa wd ∧ T6 wd gh h gd (Ls.foldl rput M0)) := Lib.hid ⟨Hb.out.1.trans hpo.1, hpo.2⟩
  have Ed : Hid (Ext w wd ∧ Ext w8 wd) := Lib.hid ⟨Ea.out.trans Hd.out.1, Ha.out.1.trans Hd.out.1⟩
  have hMd : (Ls.foldl rput M0).length ≤ 1000 := by have := puts_length Ls M0; omega
  clear hpo
  repeat' (go_not_at_region 36; (first | go_skip | go_guarded | go_step))
  rename_i K hK
  refine ord6_36 wd gh gd m GC h hk GA _ X (Ls.foldl rput M0) G (Lib.hid ⟨Hd.out.2, HN.out.2.2.2.below Ed.out.1, HN.out.1.2.2⟩) (Lib.hid ⟨H8.out.2.1.below Ed.out.2, HX.out.rise⟩) (by omega) hMd hm9 _ _ K _ _ _ _ _ _ _ _ _ _ _ _ _ _ _ _ _ _ _ _ _ _ _ _ _ _ _ _ _ _ _ _ _ _ _ _ _ _ _ _ _ _ _ _ _ _ _ _ _ _ _ _ _ _ _ _ _ _ _ _ _ _ _ _ _ _ _ _ _ _ _ _ _ _ _ _ _ _ _ _ _ _ _ _ _ _ _ _ _ _ _ _ _ _ _ _ _ _ _ _ _ _ _ _ _ _ _ _ _ _ _ _ _ _ _ _ _ _ _ _ _ _ _ _ _ _ _ _ _ _ _ _ _ _ _ _ _ _ _ _ _ _ _ _ _ _ _ _ _ _ _ _ _ _ _ _ _ _ _ _ _ _ _ _ _ _ _ _ _ _ _ _ _ _ _ _ _ _ _ _ _ _ _ _ _ (by kernel_rfl) (by kernel_rfl) hK ?_
  intro gm N r23 r24 r25 r26 r136 r137 r138 r139 r140 r141 r142 r143 r144 r145 r146 r147 r148 r149 r150 r151 r152 r153 r154 r155 r156 r157 r158 r159 r160 r161 r162 r163 r164 r165 r166 we hpo
  have hNX : N = X := order_end (K := GoneK G) HX.out.rise hpo.2.1.ok.rise Ha.out.2.2.2 Hb.out.2.2 hpo.2.2.1 hpo.2.2.2.1 hpo.2.2.2.2
  rw [hNX] at hpo
  have He : Hid (Ext w we ∧ T6 we gh h gm X ∧ T6 we gh h gn X ∧ PS we (.slice SA X.length sc) X) := Lib.hid ⟨Ed.out.1.trans hpo.1, hpo.2.1, H8.out.2.2.1.ext (Ed.out.2.trans hpo.1), H8.out.2.1.below (Ed.out.2.trans hpo.1)⟩
  clear hpo hNX
  repeat' (go_not_at_region 44; (first | go_skip | go_guarded | go_step))
  rename_i K hK
  refine ord6_44 we _ X (Lib.hid He.out.2.2.2) (by omega) _ _ K _ _ _ _ _ _ _ _ _ _ _ _ _ _ _ _ _ _ _ _ _ _ _ _ _ _ _ _ _ _ _ _ _ _ _ _ _ _ _ _ _ _ _ _ _ _ _ _ _ _ _ _ _ _ _ _ _ _ _ _ _ _ _ _ _ _ _ _ _ _ _ _ _ _ _ _ _ _ _ _ _ _ _ _ _ _ _ _ _ _ _ _ _ _ _ _ _ _ _ _ _ _ _ _ _ _ _ _ _ _ _ _ _ _ _ _ _ _ _ _ _ _ _ _ _ _ _ _ _ _ _ _ _ _ _ _ _ _ _ _ _ _ _ _ _ _ _ _ _ _ _ _ _ _ _ _ _ _ _ _ _ _ _ _ _ _ _ _ _ _ _ _ _ _ _ _ _ _ _ _ _ _ _ _ _ _ _ (by kernel_rfl) (by kernel_rfl) hK ?_
  intro vx y29 y167 y168 y169 y170 y171 y172 y173 y174 y175 y176 y177 wf hpo
  have Hf : Hid (Ext w wf ∧ T6 wf gh h gm X ∧ T6 wf gh h gn X ∧ PS wf vx X) := Lib.hid ⟨He.out.1.trans hpo.1, He.out.2.1.ext hpo.1, He.out.2.2.1.ext hpo.1, hpo.2⟩
  have hsf := He.out.2.1.hs.ext hpo.1
  clear hpo
  obtain ⟨d0, d1, d2⟩ := hsf.cells
  repeat' (first | go_at_call 46 | go_skip | go_guarded | go_step)
  refine (trie6_c h hk wf gn vx X Hf.out.2.2.1.tr Hf.out.2.2.2 (by omega) HX.out.keys).mono ?_
  rintro e x1 ⟨rfl, f1⟩
  have F1 := Lib.hid f1
  clear d0 d1 d2 hsf
  obtain ⟨d0, d1, d2⟩ := (Hf.out.2.1.hs.ext f1).cells
  clear f1
  go_simp
  repeat' (first | go_at_call 46 | go_skip | go_guarded | go_step)
  refine (trie6_c h hk x1 gm vx X (TR.ext F1.out 13 Hf.out.2.1.tr) (Hf.out.2.2.2.below F1.out) (by omega) HX.out.keys).mono ?_
  rintro e x2 ⟨rfl, f2⟩
  have F2 := Lib.hid (Hf.out.1.trans (F1.out.trans f2))
  clear f2 d0 d1 d2
  go_simp
  repeat' (first | go_skip | go_guarded | go_step)
  go_ret
  exact ⟨rfl, F2.out⟩
end Go.Proofs.Ytlgnokhfioglaaa
/- ChampOrders returns true for every hasher, every two lists of pairs and every list of bytes, and leaves them as they were. No condition. -/
namespace Go.Proofs.Ytlgnokhfioglaaa.champOrders
open Go.RowKit Go.QS Go.ChangeShapes Go.WideShapes Go.ChangeAt
open Go.ChangeMaps (open_string shut_string)
set_option linter.unusedVariables false

theorem own : ownKnob Try.prog.godebug = none := by kernel_rfl
theorem laidOut : laidOutB Try.prog = true := by kernel_rfl


set_option maxRecDepth 100000 in
theorem contract (H : Type) (enc : TypeId × Value → H) (W : World) (base : Nat) (args : Array Value) (ds : List (DataW H)) (p : List MemPlace)
    (hval : ∀ (j : Nat) t v, Try.f13.params[j]? = some t → args[j]? = some v → Value.okWide Try.prog W .any base t v)
    (hA : DataW.TrodAll enc Try.prog W 0 (fun _ => true) true Try.f13.params.toList args.toList ds p) :
    Calls Try.prog 13 args W fun e w' => e = .returned (.bool true) ∧ Ext W w' := by
  rw [Try.params13] at hA hval
  obtain ⟨v0, vs0, d0, ds0, p0, q0, hargs, rfl, rfl, h0, r0⟩ := trodAll_cons hA
  obtain ⟨v1, vs1, d1, ds1, p1, q1, rfl, rfl, rfl, h1, r1⟩ := trodAll_cons r0
  obtain ⟨v2, vs2, d2, ds2, p2, q2, rfl, rfl, rfl, h2, r2⟩ := trodAll_cons r1
  obtain ⟨v3, vs3, d3, ds3, p3, q3, rfl, rfl, rfl, h3, r3⟩ := trodAll_cons r2
  obtain ⟨rfl, rfl, rfl⟩ := trodAll_nil r3
  obtain rfl : args = #[v0, v1, v2, v3] := by cases args; simp_all
  obtain ⟨a0, rfl, b0⟩ := open_hs (hval 0 _ v0 rfl rfl) h0
  obtain ⟨l1, k1, b1⟩ := open_ps Try.underlying22 Try.underlying36 (by kernel_rfl) (by kernel_rfl) Try.underlying9 Try.underlying9 (hval 1 _ v1 rfl rfl) h1
  obtain ⟨l2, k2, b2⟩ := open_u8s (hval 2 _ v2 rfl rfl) h2
  obtain ⟨l3, k3, b3⟩ := open_ps Try.underlying22 Try.underlying36 (by kernel_rfl) (by kernel_rfl) Try.underlying9 Try.underlying9 (hval 3 _ v3 rfl rfl) h3
  exact champOrders_c W a0 b0 v1 v2 v3 l1 l3 l2 k1 k2 k3

set_option maxRecDepth 100000 in
theorem lifted (os : Os) (started : os.Started) (H : Type) (enc : TypeId × Value → H) :
    ReturnsInHanded {} Try.checked os 13 .any (Rows.champOrdersSpec.pre6 enc Try.prog Try.f13 Rows.champOrdersRow.domain false) (Rows.champOrdersSpec.post enc Try.prog Try.f13 false true false false) := by
  refine returnsInHanded_of_change (C := Try.checked) own started (by kernel_rfl) Try.func13
    (ChangeSpec.witness6 (enc := enc) (C := Try.checked) false ⟨#[], #[.agg #[.int .u64 0, .int .u64 0, .int .u64 0], .slice none 0 0, .slice none 0 0, .slice none 0 0], []⟩ 8 (by kernel_rfl) (by kernel_rfl) (by kernel_rfl) (by kernel_rfl)) ?_
  intro W base args ds gs before hval0 hW hcnd _
  have hW' := hW
  obtain ⟨p, q, hA, hV, rfl, hfz, hnd⟩ := hW
  refine (contract H enc W base args ds p hval0 hA).mono fun e W' ⟨he, bel⟩ => ?_
  subst he
  refine ⟨_, rfl, ?_⟩
  obtain ⟨rfl, rfl⟩ := trodVars_none hV
  rw [Try.params13] at hA
  obtain ⟨v0, vs0, d0, ds0, p0, q0, hargs, rfl, rfl, h0, r0⟩ := trodAll_cons hA
  obtain ⟨v1, vs1, d1, ds1, p1, q1, rfl, rfl, rfl, h1, r1⟩ := trodAll_cons r0
  obtain ⟨v2, vs2, d2, ds2, p2, q2, rfl, rfl, rfl, h2, r2⟩ := trodAll_cons r1
  obtain ⟨v3, vs3, d3, ds3, p3, q3, rfl, rfl, rfl, h3, r3⟩ := trodAll_cons r2
  obtain ⟨rfl, rfl, rfl⟩ := trodAll_nil r3
  exact law_post laidOut (by kernel_rfl) rfl Try.underlying4 hW' rfl rfl rfl rfl bel

theorem over : Rows.champOrdersRow.holds Try.pinned (OpenSpec.ofChange Rows.champOrdersSpec) :=
  OpenClaim.holds_of_wide 13 Try.f13 rfl rfl rfl rfl rfl rfl rfl ⟨rfl, rfl, rfl, rfl, rfl⟩ rfl rfl rfl rfl rfl (by kernel_rfl) Try.func13 (by kernel_rfl)
    (of_decide_eq_true (by kernel_rfl)) (by unfold Func.isWrapper; first | (rw [if_pos (by decide +kernel)]; kernel_rfl) | (rw [if_neg (by decide +kernel)]; exact ⟨rfl, rfl⟩))
    (fun os started H enc _ => lifted os started H enc)

theorem proved : Rows.ChampOrdersSaid := over
end Go.Proofs.Ytlgnokhfioglaaa.champOrders
