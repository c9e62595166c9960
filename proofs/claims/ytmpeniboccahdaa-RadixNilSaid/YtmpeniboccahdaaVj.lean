/- RadixNil, walked. -/
import Derived.Test.YtmpeniboccahdaaVi
namespace Go.Proofs.Ytmpeniboccahdaa
open Go.RowKit Go.QS
set_option linter.unusedVariables false

set_option maxRecDepth 100000 in
set_option maxHeartbeats 2000000 in
theorem radixNil_c (w : World) (p : Pr) : Calls Try.prog 8 #[.agg #[str p.1, str p.2]] w fun e w' => e = .returned (.bool true) ∧ Ext w w' := by
  go_enter Try.func8, Try.ntmps8
  repeat' (first | go_at_call 11 | go_skip | go_guarded | go_step)
  obtain ⟨wa, hwa⟩ : ∃ wa, wa = w.alloc (.cells #[str p.1, str p.2] 24) := ⟨_, rfl⟩
  obtain ⟨g, hg⟩ : ∃ g, g = w.heap.size := ⟨_, rfl⟩
  have hba := heap_new w (.cells #[str p.1, str p.2] 24)
  have hEa : Ext w wa := by rw [hwa]; exact (Ext.refl _).alloc (Nat.le_refl _) _
  rw [← hwa, ← hg] at hba
  rw [← hwa, ← hg]
  have HA : Hid (Ext w wa ∧ Box wa g p ∧ w.heap.size ≤ g) := Lib.hid ⟨hEa, hba, by omega⟩
  clear hwa hg hba hEa
  refine (awakeX_c wa).mono ?_
  rintro e w1 ⟨rfl, f1⟩
  have H1 : Hid (Ext w w1 ∧ Box w1 g p) := Lib.hid ⟨HA.out.1.trans f1, HA.out.2.1.ext f1⟩
  have G : Hid (w.heap.size ≤ g) := Lib.hid HA.out.2.2
  clear f1 HA
  obtain ⟨c0, c1⟩ := H1.out.2.cells
  go_simp
  repeat' (first | go_at_call 14 | go_skip | go_guarded | go_step)
  refine (fewp_c w1 p).mono ?_
  rintro e w2 ⟨rfl, f2⟩
  obtain ⟨q, hq⟩ : ∃ q, q = cutP p := ⟨_, rfl⟩
  have hqs : q.1.length ≤ 40 ∧ q.2.length ≤ 40 := by rw [hq]; exact cutP_short p
  rw [← hq]
  have b2 := H1.out.2.ext f2
  have H2 : Hid (Ext w w2 ∧ Box w2 g p) := Lib.hid ⟨H1.out.1.trans f2, b2⟩
  obtain ⟨c0, c1⟩ := b2.cells
  have cf := box_free b2
  have hgl := heap_lt b2
  clear f2 H1 hq b2
  go_simp
  repeat' (first | go_at_call 29 | go_skip | go_guarded | go_step)
  obtain ⟨x2, hx2⟩ : ∃ x2, x2 = (w2.setCell ⟨g, 0, none⟩ (str q.1)).setCell ⟨g, 1, none⟩ (str q.2) := ⟨_, rfl⟩
  have hx2' : (w2.setCell ⟨g, 0, none⟩ (Value.string (bs q.1))).setCell ⟨g, 1, none⟩ (Value.string (bs q.2)) = x2 := hx2.symm
  rw [hx2']
  have HX : Hid (Ext w x2 ∧ Box x2 g q) := by
    refine Lib.hid ⟨?_, ?_⟩
    · rw [hx2]; exact (H2.out.1.setCell G.out _).setCell G.out _
    · rw [hx2]; exact heap_set (heap_set H2.out.2 0 _) 1 _
  clear hx2 hx2' c0 c1 cf hgl H2 G
  refine (getO_c x2 _ _ [] q.1 (Root.nil x2) Ok.nil hqs.1).mono ?_
  rintro e w3 ⟨rfl, f3⟩
  have H3 : Hid (Ext w w3 ∧ Box w3 g q) := Lib.hid ⟨HX.out.1.trans f3, HX.out.2.ext f3⟩
  obtain ⟨c0, c1⟩ := H3.out.2.cells
  rw [show getL q.1 [] = none from rfl, show hasK [] q.1 = false from rfl]
  clear f3 HX
  go_simp
  repeat' (first | go_at_call 13 | go_skip | go_guarded | go_step)
  refine (putZ_c w3 q hqs).mono ?_
  rintro e w4 ⟨g4, t4, rfl, f4, r4, o4⟩
  have H4 : Hid (Ext w w4 ∧ Box w4 g q ∧ Rep NT w4 g4 t4) := Lib.hid ⟨H3.out.1.trans f4, H3.out.2.ext f4, r4⟩
  have O4 := Lib.hid o4
  obtain ⟨c0, c1⟩ := H4.out.2.1.cells
  clear f4 H3 r4 o4
  go_simp
  repeat' (first | go_at_call 16 | go_skip | go_guarded | go_step)
  refine (dropO_c w4 g4 t4 [q] q.1 H4.out.2.2 O4.out hqs.1).mono ?_
  rintro e w5 ⟨g5, t5, rfl, f5, r5, o5, _⟩
  have hh : hasK [q] q.1 = true := by simp [hasK]
  have hd : rdrop [q] q.1 = [] := by simp [rdrop]
  rw [hd] at o5
  rw [hh]
  have H5 : Hid (Ext w w5 ∧ Box w5 g q ∧ Rep NT w5 g4 t4 ∧ Rep NT w5 g5 t5) := Lib.hid ⟨H4.out.1.trans f5, H4.out.2.1.ext f5, H4.out.2.2.ext f5, r5⟩
  have O5 := Lib.hid o5
  obtain ⟨c0, c1⟩ := H5.out.2.1.cells
  clear f5 H4 r5 o5 hh hd
  go_simp
  repeat' (first | go_at_call 16 | go_skip | go_guarded | go_step)
  refine (dropZ_c w5 q.1 hqs.1).mono ?_
  rintro e w6 ⟨g6, rfl, f6⟩
  have H6 : Hid (Ext w w6 ∧ Box w6 g q ∧ Rep NT w6 g4 t4 ∧ Rep NT w6 g5 t5) := Lib.hid ⟨H5.out.1.trans f6, H5.out.2.1.ext f6, H5.out.2.2.1.ext f6, H5.out.2.2.2.ext f6⟩
  obtain ⟨c0, c1⟩ := H6.out.2.1.cells
  clear f6 H5
  go_simp
  repeat' (go_not_at_region 10; (first | (go_at_call 30; refine (valueZ_c _).mono ?_; rintro e w0 ⟨rfl, rfl⟩; go_simp) | go_skip | go_guarded | go_step))
  refine nil_r10 w6 g g4 g5 t4 t5 q (Lib.hid H6.out.2) O4 O5 _ _ _ _ _ _ _ _ _ _ _ _ _ _ _ _ _ _ _ _ _ _ _ _ _ _ _ _ _ _ _ _ _ _ _ _ _ _ _ _ _ _ _ _ _ _ _ _ _ _ _ _ _ _ _ _ _ _ _ _ _ _ _ _ _ _ _ _ _ _ _ _ _ _ _ _ _ _ _ _ _ _ _ _ _ _ _ _ _ _ _ _ _ _ _ _ _ _ _ _ _ _ _ _ _ _ _ (by kernel_rfl) ?_
  intro u47 u48 u49 u50 u51 u52 u53 u54 u55 u56 u57 u58 u59 u60 u61 u62 u63 u64 u65 u66 u67 u68 u69 u70 u71 u72 u73 u74 u75 u76 u77 u78 u79 u80 u81 u82 u83 u84 u85 u86 u87 u88 u89 u90 u91 u92 u93 u94 u95 u96 u97 u98 u99 u100 u101 u102 u103 u104 u105 u106 u107 u108 u109 u110 u111 u112 u113 wx hE
  have HX2 := Lib.hid (H6.out.1.trans hE)
  clear hE
  repeat' (first | go_skip | go_guarded | go_step)
  go_ret
  exact ⟨rfl, HX2.out⟩
end Go.Proofs.Ytmpeniboccahdaa
