/- RadixShrinks, walked. -/
import Derived.Test.YtmpeniboccahdaaWc
import Derived.Test.YtmpeniboccahdaaWe
import Derived.Test.YtmpeniboccahdaaMj
import Derived.Test.YtmpeniboccahdaaWh
namespace Go.Proofs.Ytmpeniboccahdaa
open Go.RowKit Go.QS
set_option linter.unusedVariables false

set_option maxRecDepth 100000 in
set_option maxHeartbeats 2000000 in
theorem radixShrinks_c (w : World) (va vb vo : Value) (L M : List Pr) (O : List UInt8) (ha : PS w va L) (hb : PS w vb M) (ho : Sl w 1 vo O.length (flatE encU O)) :
    Calls Try.prog 6 #[va, vb, vo] w fun e w' => e = .returned (.bool true) ∧ Ext w w' := by
  obtain ⟨A, C, rfl, _, hn, hC, hsA⟩ := ha
  obtain ⟨B, D, rfl, _, hm, hD, hsB⟩ := hb
  obtain ⟨OA, OC, rfl, _, ho, hO, hsO⟩ := ho
  obtain ⟨n, hn2⟩ : ∃ n, n = L.length := ⟨_, rfl⟩
  obtain ⟨m, hm2⟩ : ∃ m, m = M.length := ⟨_, rfl⟩
  obtain ⟨q, hq2⟩ : ∃ q, q = O.length := ⟨_, rfl⟩
  have hn9 : n ≤ 9223372036854775807 := by unfold maxLen at hC; omega
  have hm9 : m ≤ 9223372036854775807 := by unfold maxLen at hD; omega
  have hq9 : q ≤ 9223372036854775807 := by unfold maxLen at hO; omega
  rw [← hn2] at hn ⊢
  rw [← hm2] at hm ⊢
  rw [← hq2] at ho ⊢
  have HN : Hid (n = L.length ∧ m = M.length ∧ q = O.length ∧ Seg w A (flat L) ∧ Seg w B (flat M) ∧ Seg w OA (flatE encU O)) := Lib.hid ⟨hn2, hm2, hq2, hsA, hsB, hsO⟩
  clear hn2 hm2 hq2 hsA hsB hsO
  go_enter Try.func6, Try.ntmps6
  repeat' (first | go_at_call 11 | go_skip | go_guarded | go_step)
  refine (awakeX_c w).mono ?_
  rintro e w1 ⟨rfl, f1⟩
  have H1 := Lib.hid f1
  clear f1
  go_simp
  repeat' (first | (go_at_call 12; refine (empty_c _).mono ?_; rintro e w0 ⟨rfl, rfl⟩; go_simp) | (go_not_at_region 5; (first | go_skip | go_guarded | go_step)))
  have hE0 : Ext w1 (w1.alloc (.cells #[str [], .bool false, str [], .slice none 0 0, .pointer none] NT)) := (Ext.refl _).alloc (Nat.le_refl _) _
  have hR0 := empty_rep w1
  obtain ⟨wa, hwa⟩ : ∃ wa, wa = (w1.alloc (.cells #[str [], .bool false, str [], .slice none 0 0, .pointer none] NT)) := ⟨_, rfl⟩
  obtain ⟨g0, hg0⟩ : ∃ g, g = w1.heap.size := ⟨_, rfl⟩
  rw [← hwa] at hE0 hR0 ⊢
  rw [← hg0] at hR0 ⊢
  have H00 : Hid (Ext w wa ∧ Rep NT wa g0 (RT.node [] none [])) := Lib.hid ⟨H1.out.trans hE0, hR0⟩
  clear hE0 hR0 hwa hg0
  repeat' (go_not_at_region 5; (first | go_skip | go_guarded | go_step))
  rename_i K hK
  refine shr_5 wa g0 n C A L (Lib.hid ⟨H00.out.2, HN.out.2.2.2.1.below H00.out.1, HN.out.1⟩) hn9 _ _ K _ _ _ _ _ _ _ _ _ _ _ _ _ _ _ _ _ _ _ _ _ _ _ _ _ _ _ _ _ _ _ _ _ _ _ _ _ _ _ _ _ _ _ _ _ _ _ _ _ _ _ _ _ _ _ _ _ _ _ _ _ _ _ _ _ _ _ _ _ _ _ _ _ _ _ _ _ _ _ _ _ _ _ _ _ _ _ _ _ _ _ _ _ _ _ _ _ _ _ _ _ _ _ _ _ _ _ _ _ _ _ _ _ _ _ _ _ _ _ _ _ _ _ _ _ _ _ _ _ _ _ _ _ _ _ _ (by kernel_rfl) (by kernel_rfl) hK ?_
  intro g2 v2 T2 X z9 z10 z24 z25 z26 z27 z28 z29 z30 z31 z32 z33 z34 z35 z36 z37 z38 z39 z40 z41 z42 z43 z44 wx hpo
  have H2 : Hid (Ext w wx ∧ Rep NT wx g2 T2 ∧ Ok T2 X ∧ PS wx v2 X ∧ X.length ≤ 25) := Lib.hid ⟨H00.out.1.trans hpo.1, hpo.2⟩
  clear hpo
  repeat' (go_not_at_region 14; (first | go_skip | go_guarded | go_step))
  rename_i K hK
  refine shr_14 wx g2 m D B v2 T2 X M (Lib.hid ⟨H2.out.2.1, H2.out.2.2.1, H2.out.2.2.2.1, HN.out.2.2.2.2.1.below H2.out.1, HN.out.2.1⟩) (by have := H2.out.2.2.2.2; omega) hm9 _ _ K _ _ _ _ _ _ _ _ _ _ _ _ _ _ _ _ _ _ _ _ _ _ _ _ _ _ _ _ _ _ _ _ _ _ _ _ _ _ _ _ _ _ _ _ _ _ _ _ _ _ _ _ _ _ _ _ _ _ _ _ _ _ _ _ _ _ _ _ _ _ _ _ _ _ _ _ _ _ _ _ _ _ _ _ _ _ _ _ _ _ _ _ _ _ _ _ _ _ _ _ _ _ _ _ _ _ _ _ _ _ _ _ _ _ _ _ _ _ _ _ _ _ _ _ _ _ _ _ _ _ _ _ _ _ _ (by kernel_rfl) (by kernel_rfl) hK ?_
  intro g3 v3 T3 Y Ks y13 y14 y15 y16 y46 y47 y48 y49 y50 y51 y52 y53 y54 y55 y56 y57 y58 y59 y60 y61 y62 y63 y64 y65 y66 y67 y68 y69 y70 y71 y72 y73 y74 y75 y76 y77 y78 y79 y80 wy hpo
  have H3 : Hid (Ext wx wy ∧ Rep NT wy g3 T3 ∧ Ok T3 Y ∧ ZR FS wx.heap.size ST wy v3 (Ks.map str) ∧ Gone X Y Ks ∧ Ks.length ≤ 20 ∧ (∀ k ∈ Ks, k.length ≤ 40)) := Lib.hid hpo
  clear hpo
  repeat' (go_not_at_region 22; (first | go_skip | go_guarded | go_step))
  rename_i K hK
  refine shr_22 wx wy g3 q OC OA v3 T3 Ks O (Lib.hid ⟨H3.out.1, H3.out.2.1, H3.out.2.2.2.1, HN.out.2.2.2.2.2.below H2.out.1, HN.out.2.2.1⟩) (by have := H3.out.2.2.2.2.2.1; omega) hq9 _ _ K _ _ _ _ _ _ _ _ _ _ _ _ _ _ _ _ _ _ _ _ _ _ _ _ _ _ _ _ _ _ _ _ _ _ _ _ _ _ _ _ _ _ _ _ _ _ _ _ _ _ _ _ _ _ _ _ _ _ _ _ _ _ _ _ _ _ _ _ _ _ _ _ _ _ _ _ _ _ _ _ _ _ _ _ _ _ _ _ _ _ _ _ _ _ _ _ _ _ _ _ _ _ _ _ _ _ _ _ _ _ _ _ _ _ _ _ _ _ _ _ _ _ _ _ _ _ _ _ _ _ _ _ _ _ _ _ _ (by kernel_rfl) (by kernel_rfl) hK ?_
  intro Ls x17 x18 x81 x82 x83 x84 x85 x86 x87 x88 x89 x90 x91 x92 x93 x94 x95 x96 x97 x98 x99 x100 x101 x102 x103 x104 x105 x106 x107 x108 x109 x110 x111 x112 x113 x114 x115 x116 wz hpo
  have H4 : Hid (Ext wx wz ∧ Rep NT wz g3 T3 ∧ ZR FS wx.heap.size ST wz v3 (Ls.map str) ∧ Ls.length = Ks.length ∧ ∀ k, k ∈ Ls ↔ k ∈ Ks) := Lib.hid hpo
  clear hpo
  repeat' (go_not_at_region 29; (first | go_skip | go_guarded | go_step))
  rename_i K hK
  refine shr_29 wz g3 v3 T3 Y Ls (Lib.hid ⟨H4.out.2.1, H3.out.2.2.1, by have := H4.out.2.2.1.sl; rwa [List.length_map] at this, fun k hk => H3.out.2.2.2.2.2.2 k ((H4.out.2.2.2.2 k).1 hk)⟩) _ _ K _ _ _ _ _ _ _ _ _ _ _ _ _ _ _ _ _ _ _ _ _ _ _ _ _ _ _ _ _ _ _ _ _ _ _ _ _ _ _ _ _ _ _ _ _ _ _ _ _ _ _ _ _ _ _ _ _ _ _ _ _ _ _ _ _ _ _ _ _ _ _ _ _ _ _ _ _ _ _ _ _ _ _ _ _ _ _ _ _ _ _ _ _ _ _ _ _ _ _ _ _ _ _ _ _ _ _ _ _ _ _ _ _ _ _ _ _ _ _ _ _ _ _ _ _ _ _ _ _ _ _ _ _ _ _ _ _ (by kernel_rfl) (by kernel_rfl) hK ?_
  intro g4 T4 Z t20 t117 t118 t119 t120 t121 t122 t123 t124 t125 t126 t127 t128 t129 wu hpo
  have ez : Z = X := gone_end H2.out.2.2.1.rise hpo.2.2.1.rise H3.out.2.2.2.2.1 H4.out.2.2.2.2 hpo.2.2.2
  rw [ez] at hpo
  have H5 : Hid (Ext wx wu ∧ Rep NT wu g4 T4 ∧ Ok T4 X) := Lib.hid ⟨H4.out.1.trans hpo.1, hpo.2.1, hpo.2.2.1⟩
  clear hpo ez
  repeat' (first | go_at_call 28 | go_skip | go_guarded | go_step)
  refine (tree11_c wu g4 v2 T4 X H5.out.2.1 H5.out.2.2 (H2.out.2.2.2.1.below H5.out.1) (by have := H2.out.2.2.2.2; omega)).mono ?_
  rintro e w6 ⟨rfl, f6⟩
  have H6 := Lib.hid (H5.out.1.trans f6)
  clear f6
  go_simp
  repeat' (first | go_at_call 28 | go_skip | go_guarded | go_step)
  refine (tree11_c w6 g2 v2 T2 X (H2.out.2.1.ext H6.out) H2.out.2.2.1 (H2.out.2.2.2.1.below H6.out) (by have := H2.out.2.2.2.2; omega)).mono ?_
  rintro e w7 ⟨rfl, f7⟩
  have H7 := Lib.hid (H2.out.1.trans (H6.out.trans f7))
  clear f7
  go_simp
  repeat' (first | go_skip | go_guarded | go_step)
  go_ret
  exact ⟨rfl, H7.out⟩
end Go.Proofs.Ytmpeniboccahdaa
