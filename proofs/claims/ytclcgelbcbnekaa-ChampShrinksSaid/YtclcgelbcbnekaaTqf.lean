/- ChampShrinks, walked. -/
import Derived.Test.YtclcgelbcbnekaaTqc
import Derived.Test.YtclcgelbcbnekaaBu
set_option linter.unusedVariables false
set_option linter.unusedSimpArgs false
namespace Go.Proofs.Ytclcgelbcbnekaa
open Go Go.RowKit Go.QS Go.QS.Nk
set_option linter.unusedVariables false
variable [Zero (Nat → Prop)]
set_option linter.unusedSectionVars false

set_option maxRecDepth 100000 in
set_option maxHeartbeats 4000000 in
theorem champShrinks_c (w : World) (h : Hs) (hk : h.Ok) (va vg vo : Value) (L G : List Pr) (O : List UInt8) (ha : PS w va L) (hg : PS w vg G) (ho : Sl w 1 vo O.length (flatE encU O)) :
    Calls Try.prog 8 #[hsV h, va, vg, vo] w fun e w' => e = .returned (.bool true) ∧ Ext w w' := by
  obtain ⟨A, C, rfl, _, hn0, hnC, hnS⟩ := ha
  obtain ⟨n, hn2⟩ : ∃ n, n = L.length := ⟨_, rfl⟩
  have hn9 : n ≤ 9223372036854775807 := by unfold maxLen at hnC; omega
  rw [← hn2] at hn0 ⊢
  obtain ⟨GA, GC, rfl, _, hm0, hmC, hmS⟩ := hg
  obtain ⟨m, hm2⟩ : ∃ m, m = G.length := ⟨_, rfl⟩
  have hm9 : m ≤ 9223372036854775807 := by unfold maxLen at hmC; omega
  rw [← hm2] at hm0 ⊢
  obtain ⟨OA, OC, rfl, _, hq0, hqC, hqS⟩ := ho
  obtain ⟨q, hq2⟩ : ∃ q, q = O.length := ⟨_, rfl⟩
  have hq9 : q ≤ 9223372036854775807 := by unfold maxLen at hqC; omega
  rw [← hq2] at hq0 ⊢
  have HN : Hid ((n = L.length ∧ q = O.length ∧ m = G.length) ∧ Seg w A (flat L) ∧ Seg w OA (flatE encU O) ∧ Seg w GA (flat G)) := Lib.hid ⟨⟨hn2, hq2, hm2⟩, hnS, hqS, hmS⟩
  clear hn2 hq2 hm2 hnS hqS hmS
  go_enter Try.func8, Try.ntmps8
  repeat' (first | go_at_call 44 | go_skip | go_guarded | go_step)
  obtain ⟨gh, hgh⟩ : ∃ g, g = w.heap.size := ⟨_, rfl⟩
  rw [← hgh]
  refine calls_named (fun w' => HsAt w' gh h ∧ Ext w w') ⟨by rw [hgh]; exact heap_new w _, (Ext.refl w).alloc (Nat.le_refl _) _⟩ ?_
  clear hgh
  intro wh HW
  refine (awake6_c wh).mono ?_
  rintro e w1 ⟨rfl, f1⟩
  have H1 : Hid (Ext w w1 ∧ HsAt w1 gh h) := Lib.hid ⟨HW.out.2.trans f1, HW.out.1.ext f1⟩
  clear f1
  go_simp
  repeat' (first | go_at_call 45 | go_skip | go_guarded | go_step)
  refine (T6V.empty (v := nil9) h w1 (fun b hb => by cases hb)).mono ?_
  rintro e w2 ⟨g0, rfl, f2, t2⟩
  have H2 : Hid (Ext w w2 ∧ T6V nil9 w2 gh h g0 []) := Lib.hid ⟨H1.out.1.trans f2, t2 gh (H1.out.2.ext f2)⟩
  clear f2 t2 H1
  go_simp
  repeat' (go_not_at_region 5; (first | go_skip | go_guarded | go_step))
  rename_i K hK
  refine shr6_5 w2 gh g0 n C h hk A L (Lib.hid ⟨H2.out.2, HN.out.2.1.below H2.out.1, HN.out.1.1⟩) hn9 _ _ K _ _ _ _ _ _ _ _ _ _ _ _ _ _ _ _ _ _ _ _ _ _ _ _ _ _ _ _ _ _ _ _ _ _ _ _ _ _ _ _ _ _ _ _ _ _ _ _ _ _ _ _ _ _ _ _ _ _ _ _ _ _ _ _ _ _ _ _ _ _ _ _ _ _ _ _ _ _ _ _ _ _ _ _ _ _ _ _ _ _ _ _ _ _ _ _ _ _ _ _ _ _ _ _ _ _ _ _ _ _ _ _ _ _ _ _ _ _ _ _ _ _ _ _ _ _ _ _ _ _ _ _ _ _ _ _ _ _ _ _ _ _ (by kernel_rfl) (by kernel_rfl) hK ?_
  intro g3 v3 X z11 z12 z26 z27 z28 z29 z30 z31 z32 z33 z34 z35 z36 z37 z38 z39 z40 z41 z42 z43 z44 z45 z46 z47 w3 hpo
  have H3 : Hid (Ext w w3 ∧ T6V nil9 w3 gh h g3 X ∧ PS w3 v3 X) := Lib.hid ⟨H2.out.1.trans hpo.1, hpo.2.1, hpo.2.2.1⟩
  have hX : X.length ≤ 25 := hpo.2.2.2
  clear hpo
  repeat' (go_not_at_region 14; (first | go_skip | go_guarded | go_step))
  rename_i K hK
  refine shr6_14 w3 gh g3 m GC h hk GA v3 X G (Lib.hid ⟨H3.out.2.1, H3.out.2.2, HN.out.2.2.2.below H3.out.1, HN.out.1.2.2⟩) hX hm9 _ _ K _ _ _ _ _ _ _ _ _ _ _ _ _ _ _ _ _ _ _ _ _ _ _ _ _ _ _ _ _ _ _ _ _ _ _ _ _ _ _ _ _ _ _ _ _ _ _ _ _ _ _ _ _ _ _ _ _ _ _ _ _ _ _ _ _ _ _ _ _ _ _ _ _ _ _ _ _ _ _ _ _ _ _ _ _ _ _ _ _ _ _ _ _ _ _ _ _ _ _ _ _ _ _ _ _ _ _ _ _ _ _ _ _ _ _ _ _ _ _ _ _ _ _ _ _ _ _ _ _ _ _ _ _ _ _ _ _ _ _ _ _ (by kernel_rfl) (by kernel_rfl) hK ?_
  intro g4 v4 Y Ks y15 y16 y17 y18 y49 y50 y51 y52 y53 y54 y55 y56 y57 y58 y59 y60 y61 y62 y63 y64 y65 y66 y67 y68 y69 y70 y71 y72 y73 y74 y75 y76 y77 y78 y79 y80 y81 y82 y83 y84 w4 hpo
  have H4 : Hid (Ext w3 w4 ∧ T6V v4 w4 gh h g4 Y ∧ RS w3.heap.size w4 v4 Ks ∧ Gone X Y Ks ∧ (∀ k ∈ Ks, k.length ≤ 40)) := Lib.hid ⟨hpo.1, hpo.2.1, hpo.2.2.1, hpo.2.2.2.1, hpo.2.2.2.2.2⟩
  have hKs := hpo.2.2.2.2.1
  clear hpo
  repeat' (go_not_at_region 22; (first | go_skip | go_guarded | go_step))
  rename_i K hK
  refine shr6_22 w3 w4 gh g4 q OC h OA v4 Y Ks O (Lib.hid ⟨H4.out.1, H4.out.2.1, H4.out.2.2.1, HN.out.2.2.1.below H3.out.1, HN.out.1.2.1, heap_lt H3.out.2.1.hs⟩) (by omega) hq9 _ _ K _ _ _ _ _ _ _ _ _ _ _ _ _ _ _ _ _ _ _ _ _ _ _ _ _ _ _ _ _ _ _ _ _ _ _ _ _ _ _ _ _ _ _ _ _ _ _ _ _ _ _ _ _ _ _ _ _ _ _ _ _ _ _ _ _ _ _ _ _ _ _ _ _ _ _ _ _ _ _ _ _ _ _ _ _ _ _ _ _ _ _ _ _ _ _ _ _ _ _ _ _ _ _ _ _ _ _ _ _ _ _ _ _ _ _ _ _ _ _ _ _ _ _ _ _ _ _ _ _ _ _ _ _ _ _ _ _ _ _ _ _ _ _ _ (by kernel_rfl) (by kernel_rfl) hK ?_
  intro Ls x19 x20 x85 x86 x87 x88 x89 x90 x91 x92 x93 x94 x95 x96 x97 x98 x99 x100 x101 x102 x103 x104 x105 x106 x107 x108 x109 x110 x111 x112 x113 x114 x115 x116 x117 x118 x119 x120 w5 hpo
  have H5 : Hid (Ext w3 w5 ∧ T6V v4 w5 gh h g4 Y ∧ RS w3.heap.size w5 v4 Ls ∧ ∀ k, k ∈ Ls ↔ k ∈ Ks) := Lib.hid ⟨hpo.1, hpo.2.1, hpo.2.2.1, hpo.2.2.2.2⟩
  clear hpo
  repeat' (go_not_at_region 29; (first | go_skip | go_guarded | go_step))
  rename_i K hK
  refine shr6_29 w3 w5 gh g4 h hk v4 v4 Y Ls (Lib.hid ⟨H5.out.2.1, fun k hk => H4.out.2.2.2.2 k ((H5.out.2.2.2 k).1 hk), H5.out.2.2.1⟩) (by omega) _ _ K _ _ _ _ _ _ _ _ _ _ _ _ _ _ _ _ _ _ _ _ _ _ _ _ _ _ _ _ _ _ _ _ _ _ _ _ _ _ _ _ _ _ _ _ _ _ _ _ _ _ _ _ _ _ _ _ _ _ _ _ _ _ _ _ _ _ _ _ _ _ _ _ _ _ _ _ _ _ _ _ _ _ _ _ _ _ _ _ _ _ _ _ _ _ _ _ _ _ _ _ _ _ _ _ _ _ _ _ _ _ _ _ _ _ _ _ _ _ _ _ _ _ _ _ _ _ _ _ _ _ _ _ _ _ _ _ _ _ _ _ _ _ _ (by kernel_rfl) (by kernel_rfl) hK ?_
  intro g6 Z t22 t121 t122 t123 t124 t125 t126 t127 t128 t129 t130 t131 t132 t133 t134 w6 hpo
  have ez : Z = X := gone_end H3.out.2.1.ok.rise hpo.2.1.ok.rise H4.out.2.2.2.1 H5.out.2.2.2 hpo.2.2
  rw [ez] at hpo
  have H6 : Hid (Ext w3 w6 ∧ T6V v4 w6 gh h g6 X) := Lib.hid ⟨H5.out.1.trans hpo.1, hpo.2.1⟩
  clear hpo ez
  obtain ⟨c0, c1, c2⟩ := H6.out.2.hs.cells
  repeat' (first | go_at_call 49 | go_skip | go_guarded | go_step)
  refine (H6.out.2.trie hk (H3.out.2.2.below H6.out.1) (by omega)).mono ?_
  rintro e w7 ⟨rfl, f7⟩
  have H7 := Lib.hid (H6.out.1.trans f7)
  clear c0 c1 c2
  obtain ⟨c0, c1, c2⟩ := (H6.out.2.hs.ext f7).cells
  clear f7
  go_simp
  repeat' (first | go_at_call 49 | go_skip | go_guarded | go_step)
  refine ((H3.out.2.1.ext H7.out).trie hk (H3.out.2.2.below H7.out) (by omega)).mono ?_
  rintro e w8 ⟨rfl, f8⟩
  have H8 := Lib.hid (H3.out.1.trans (H7.out.trans f8))
  clear f8 c0 c1 c2
  go_simp
  repeat' (first | go_skip | go_guarded | go_step)
  go_ret
  exact ⟨rfl, H8.out⟩
end Go.Proofs.Ytclcgelbcbnekaa
