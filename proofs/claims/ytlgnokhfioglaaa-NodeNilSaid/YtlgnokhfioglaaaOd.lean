/- NodeNil, walked. -/
import Derived.Test.YtlgnokhfioglaaaOb
import Derived.Test.YtlgnokhfioglaaaOg
import Derived.Deep.DeepCutAuto
namespace Go.Proofs.Ytlgnokhfioglaaa
open Go.RowKit Go.QS Go.QS.Nk
set_option linter.unusedVariables false

set_option maxRecDepth 100000 in
set_option maxHeartbeats 2000000 in
theorem nodeNil_c (w : World) (i : Int) (p : Pr) : Calls Try.prog 4 #[.int .i64 i, .agg #[str p.1, str p.2]] w fun e w' => e = .returned (.bool true) ∧ Ext w w' := by
  obtain ⟨wa, hwa⟩ : ∃ wa, wa = w.alloc (.cells #[str p.1, str p.2] NP) := ⟨_, rfl⟩
  obtain ⟨g, hg⟩ : ∃ g, g = w.heap.size := ⟨_, rfl⟩
  have hba := heap_new w (.cells #[str p.1, str p.2] NP)
  have hEa : Ext w wa := by rw [hwa]; exact (Ext.refl _).alloc (Nat.le_refl _) _
  rw [← hwa, ← hg] at hba
  have HE : Hid (w.alloc (.cells #[str p.1, str p.2] 36) = wa ∧ w.heap.size = g) := Lib.hid ⟨hwa.symm, hg.symm⟩
  have HA : Hid (Ext w wa ∧ wa.heap[g]? = some (.cells #[str p.1, str p.2] NP (0, 0))) := Lib.hid ⟨hEa, hba⟩
  clear hwa hg hba hEa
  go_enter Try.func4, Try.ntmps4
  repeat' (first | go_at_call 14 | go_skip | go_guarded | go_step)
  rw [HE.out.1, HE.out.2]
  clear HE
  refine (awake5_c wa).mono ?_
  rintro e w1 ⟨rfl, f1⟩
  have H1 : Hid (Ext w w1 ∧ w1.heap[g]? = some (.cells #[str p.1, str p.2] NP (0, 0))) := Lib.hid ⟨HA.out.1.trans f1, box_ext' HA.out.2 f1⟩
  clear f1 HA
  go_simp
  repeat' (first | go_at_call 23 | go_skip | go_guarded | go_step)
  refine (pair_z w1 i).mono ?_
  rintro e w2 ⟨rfl, f2⟩
  have H2 : Hid (Ext w w2 ∧ w2.heap[g]? = some (.cells #[str p.1, str p.2] NP (0, 0))) := Lib.hid ⟨H1.out.1.trans f2, box_ext' H1.out.2 f2⟩
  clear f2 H1
  go_simp
  repeat' (first | go_at_call 24 | go_skip | go_guarded | go_step)
  obtain ⟨wb, hwb⟩ : ∃ x, x = w2.alloc (.cells #[str [], str []] NP) := ⟨_, rfl⟩
  have hEb : Ext w2 wb := by rw [hwb]; exact (Ext.refl _).alloc (Nat.le_refl _) _
  have hwb' : w2.alloc (.cells #[Value.string (bs []), Value.string (bs [])] 36) = wb := hwb.symm
  rw [hwb']
  have H3 : Hid (Ext w wb ∧ wb.heap[g]? = some (.cells #[str p.1, str p.2] NP (0, 0))) := Lib.hid ⟨H2.out.1.trans hEb, box_ext' H2.out.2 hEb⟩
  generalize hg6 : w2.heap.size = g6
  clear hwb hwb' hEb H2 hg6
  refine (kid_z wb i).mono ?_
  rintro e w3 ⟨rfl, f3⟩
  have H4 : Hid (Ext w w3 ∧ w3.heap[g]? = some (.cells #[str p.1, str p.2] NP (0, 0))) := Lib.hid ⟨H3.out.1.trans f3, box_ext' H3.out.2 f3⟩
  clear f3 H3
  go_simp
  repeat' (go_not_at_region 6; (first | go_skip | go_guarded | go_step))
  obtain ⟨q0, q1, _⟩ := box_facts H4.out.2
  refine nn_6 w3 g i p (Lib.hid ⟨q0, q1⟩) _ _ _ _ _ _ _ _ _ _ _ _ _ _ _ _ _ _ _ _ _ _ _ _ _ _ _ _ _ _ _ _ _ _ _ _ _ _ _ _ _ _ _ _ _ _ _ _ _ _ _ _ _ _ _ _ _ _ _ _ _ _ _ _ _ _ _ _ _ _ _ _ _ _ _ _ _ _ _ _ _ _ _ _ _ _ _ _ _ _ _ _ _ _ _ _ _ _ _ _ _ _ _ _ _ _ _ _ _ _ _ _ _ _ _ _ _ _ (by kernel_rfl) ?_
  intro y25 y26 y27 y28 g3 w4 f4 n3
  have H5 : Hid (Ext w w4 ∧ w4.heap[g]? = some (.cells #[str p.1, str p.2] NP (0, 0))) := Lib.hid ⟨H4.out.1.trans f4, box_ext' H4.out.2 f4⟩
  have N3 := Lib.hid n3
  clear f4 n3 H4 q0 q1
  repeat' (go_not_at_region 7; (first | go_skip | go_guarded | go_step))
  obtain ⟨q0, q1, _⟩ := box_facts H5.out.2
  refine nn_7 w4 g i p g3 N3 (Lib.hid ⟨q0, q1⟩) _ _ _ _ _ _ _ _ _ _ _ _ _ _ _ _ _ _ _ _ _ _ _ _ _ _ _ _ _ _ _ _ _ _ _ _ _ _ _ _ _ _ _ _ _ _ _ _ _ _ _ _ _ _ _ _ _ _ _ _ _ _ _ _ _ _ _ _ _ _ _ _ _ _ _ _ _ _ _ _ _ _ _ _ _ _ _ _ _ _ _ _ _ _ _ _ _ _ _ _ _ _ _ _ _ _ _ _ _ _ _ _ _ _ _ _ _ (by kernel_rfl) ?_
  intro y29 y30 y31 y32 y33 y34 y35 y36 y37 y38 y39 y40 y41 y42 y43 y44 y45 y46 y47 y48 y49 y50 y51 y52 y53 y54 y55 y56 y57 y58 y59 y60 y61 y62 y63 y64 y65 y66 y67 y68 y69 y70 y71 y72 y73 y74 y75 y76 y77 y78 y79 y80 y81 y82 y83 y84 y85 y86 y87 y88 y89 y90 y91 y92 y93 y94 y95 y96 y97 y98 y99 y100 y101 y102 y103 y104 y105 y106 y107 y108 y109 y110 y111 y112 y113 y114 y115 y116 y117 y118 y119 w5 f5
  have H6 := Lib.hid (H5.out.1.trans f5)
  clear f5 H5 N3 q0 q1
  repeat' (first | go_skip | go_guarded | go_step)
  go_ret
  exact ⟨rfl, H6.out⟩
end Go.Proofs.Ytlgnokhfioglaaa
