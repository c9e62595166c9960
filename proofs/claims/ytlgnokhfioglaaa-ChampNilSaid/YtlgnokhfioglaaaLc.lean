/- ChampNil, walked. -/
import Derived.Test.YtlgnokhfioglaaaLb
set_option linter.unusedVariables false
set_option linter.unusedSimpArgs false
namespace Go.Proofs.Ytlgnokhfioglaaa
open Go.RowKit Go.QS Go.QS.Nk
set_option linter.unusedVariables false

set_option maxRecDepth 100000 in
set_option maxHeartbeats 2000000 in
theorem champNil_c (w : World) (h : Hs) (hk : h.Ok) (pr : Pr) : Calls Try.prog 9 #[hsV h, prV pr] w fun e w' => e = .returned (.bool true) ∧ Ext w w' := by
  obtain ⟨p, hp⟩ : ∃ p, p = cutP pr := ⟨_, rfl⟩
  have hps : p.1.length ≤ 40 := by rw [hp]; exact (cutP_short pr).1
  have HF : Hid (∀ W, Calls Try.prog 39 #[prV pr] W fun e w' => e = .returned (prV p) ∧ Ext W w') := Lib.hid (fun W => by rw [hp]; exact fewp_c W pr)
  clear hp
  go_enter Try.func9, Try.ntmps9
  repeat' (first | go_at_call 37 | go_skip | go_guarded | go_step)
  obtain ⟨g, hg⟩ : ∃ g, g = w.heap.size := ⟨_, rfl⟩
  obtain ⟨gp, hgp⟩ : ∃ gp, gp = g + 1 := ⟨_, rfl⟩
  rw [← hg, ← hgp]
  refine calls_named (fun w' => (HsAt w' g h ∧ PrAt w' gp pr) ∧ Ext w w') (boxesH w h pr hg hgp) ?_
  have HG : Hid (w.heap.size ≤ g ∧ g ≠ gp ∧ w.heap.size ≤ gp) := Lib.hid (by omega)
  clear hg hgp
  intro wa HW
  refine (awake6_c wa).mono ?_
  rintro e w1 ⟨rfl, f1⟩
  have H1 : Hid ((HsAt w1 g h ∧ PrAt w1 gp pr) ∧ Ext w w1) := Lib.hid ⟨⟨HW.out.1.1.ext f1, HW.out.1.2.ext f1⟩, HW.out.2.trans f1⟩
  clear f1
  obtain ⟨b0, b1⟩ := H1.out.1.2.cells
  go_simp
  repeat' (first | go_at_call 39 | go_skip | go_guarded | go_step)
  refine (HF.out w1).mono ?_
  rintro e w2 ⟨rfl, f2⟩
  have hh2 := H1.out.1.1.ext f2
  have hp2 := H1.out.1.2.ext f2
  have H2 : Hid ((HsAt w2 g h ∧ PrAt w2 gp pr) ∧ Ext w w2) := Lib.hid ⟨⟨hh2, hp2⟩, H1.out.2.trans f2⟩
  clear b0 b1
  obtain ⟨b0, b1⟩ := H2.out.1.2.cells
  have bf : ∀ j, w2.frozen? ⟨gp, j, none⟩ = false := fun j => by simp [World.frozen?, show w2.heap[gp]? = _ from H2.out.1.2]
  clear hh2 hp2 f2
  go_simp
  repeat' (go_not_at_region 4; (first | go_skip | go_guarded | go_step))
  refine wp_named (fun w' => HsAt w' g h ∧ PrAt w' gp p ∧ Ext w w') ⟨?_, ?_, ?_⟩ ?_
  · exact (Below.heap_setCell _ _ _ g (fun e => HG.out.2.1 e)).trans ((Below.heap_setCell _ _ _ g (fun e => HG.out.2.1 e)).trans H2.out.1.1)
  · exact heap_set (heap_set H2.out.1.2 0 _) 1 _
  · exact (H2.out.2.setCell (p := ⟨gp, 0, none⟩) HG.out.2.2 _).setCell (p := ⟨gp, 1, none⟩) HG.out.2.2 _
  clear b0 b1 bf
  intro wb HB
  obtain ⟨c0, c1, c2⟩ := HB.out.1.cells
  obtain ⟨b0, b1⟩ := HB.out.2.1.cells
  repeat' (first | go_at_call 45 | go_skip | go_guarded | go_step)
  refine (get_c h hk wb nil0 [] p.1 (Rot.nil h wb) rise_nil (by simp) (by omega)).mono ?_
  rintro e w3 ⟨rfl, f3⟩
  have H3 : Hid (HsAt w3 g h ∧ PrAt w3 gp p ∧ Ext w w3) := Lib.hid ⟨HB.out.1.ext f3, HB.out.2.1.ext f3, HB.out.2.2.trans f3⟩
  clear c0 c1 c2 b0 b1 f3
  obtain ⟨c0, c1, c2⟩ := H3.out.1.cells
  obtain ⟨b0, b1⟩ := H3.out.2.1.cells
  rw [show hasK [] p.1 = false from rfl]
  go_simp
  repeat' (first | go_at_call 43 | go_skip | go_guarded | go_step)
  refine (cput_c h hk w3 nil0 [] p (Rot.nil h w3) rise_nil (by simp) (by simp) (by omega)).mono ?_
  rintro e w4 ⟨g4, rfl, R4, f4, s4⟩
  rw [show rput [] p = [p] from rfl] at R4
  have H4 : Hid (HsAt w4 g h ∧ PrAt w4 gp p ∧ Ext w w4 ∧ TR ND h.hash w4 13 g4 [p]) := Lib.hid ⟨H3.out.1.ext f4, H3.out.2.1.ext f4, H3.out.2.2.trans f4, R4⟩
  clear c0 c1 c2 b0 b1 f4 R4 s4
  obtain ⟨c0, c1, c2⟩ := H4.out.1.cells
  obtain ⟨b0, b1⟩ := H4.out.2.1.cells
  rw [show (!hasK [] p.1) = true from rfl]
  go_simp
  repeat' (first | go_at_call 41 | go_skip | go_guarded | go_step)
  refine (cdrop_c h hk w4 (ptr g4) [p] p.1 (Rot.of H4.out.2.2.2) (by simp [Rise]) (by simp) (by omega)).mono ?_
  rintro e w5 ⟨g5, rfl, R5, f5, s5⟩
  rw [show rdrop [p] p.1 = [] by simp [rdrop]] at R5
  have H5 : Hid (HsAt w5 g h ∧ PrAt w5 gp p ∧ Ext w w5 ∧ TR ND h.hash w5 13 g4 [p] ∧ TR ND h.hash w5 13 g5 []) := Lib.hid ⟨H4.out.1.ext f5, H4.out.2.1.ext f5, H4.out.2.2.1.trans f5, TR.ext f5 13 H4.out.2.2.2, R5⟩
  clear c0 c1 c2 b0 b1 f5 R5 s5
  obtain ⟨c0, c1, c2⟩ := H5.out.1.cells
  obtain ⟨b0, b1⟩ := H5.out.2.1.cells
  rw [show hasK [p] p.1 = true by simp [hasK]]
  go_simp
  repeat' (first | go_at_call 41 | go_skip | go_guarded | go_step)
  refine (cdrop_c h hk w5 nil0 [] p.1 (Rot.nil h w5) rise_nil (by simp) (by omega)).mono ?_
  rintro e w6 ⟨g6, rfl, R6, f6, s6⟩
  have H6 : Hid (HsAt w6 g h ∧ PrAt w6 gp p ∧ TR ND h.hash w6 13 g4 [p] ∧ TR ND h.hash w6 13 g5 []) := Lib.hid ⟨H5.out.1.ext f6, H5.out.2.1.ext f6, TR.ext f6 13 H5.out.2.2.2.1, TR.ext f6 13 H5.out.2.2.2.2⟩
  have E6 : Hid (Ext w w6) := Lib.hid (H5.out.2.2.1.trans f6)
  clear c0 c1 c2 b0 b1 f6 R6 s6
  rw [show hasK [] p.1 = false from rfl]
  go_simp
  repeat' (go_not_at_region 8; (first | go_skip | go_guarded | go_step))
  refine nil6_8 w6 g gp g4 g5 h hk p hps H6 _ _ _ _ _ _ _ _ _ _ _ _ _ _ _ _ _ _ _ _ _ _ _ _ _ _ _ _ _ _ _ _ _ _ _ _ _ _ _ _ _ _ _ _ _ _ _ _ _ _ _ _ _ _ _ _ _ _ _ _ _ _ _ _ _ _ _ _ _ _ _ _ (by kernel_rfl) ?_
  intro _ _ _ _ _ _ _ _ _ _ _ _ _ _ _ _ _ _ _ _ _ _ _ _ _ _ _ _ _ _ _ _ _ wx f7
  have H7 := Lib.hid (E6.out.trans f7)
  clear f7
  repeat' (first | go_skip | go_guarded | go_step)
  go_ret
  exact ⟨rfl, H7.out⟩
end Go.Proofs.Ytlgnokhfioglaaa
