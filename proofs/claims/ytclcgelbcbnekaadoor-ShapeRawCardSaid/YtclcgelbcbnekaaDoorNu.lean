/- Contract: SetPair, by a contract of own. -/
import Derived.Test.YtclcgelbcbnekaaDoorM17
set_option linter.unusedVariables false
set_option linter.unusedSimpArgs false
namespace Go.Proofs.YtclcgelbcbnekaaDoor
open Go.RowKit Go.QS Go.QS.Nk
set_option linter.unusedVariables false
variable [Zero (Nat → Prop)]
set_option linter.unusedSectionVars false

set_option maxRecDepth 100000 in
set_option maxHeartbeats 2000000 in
theorem setp_pr (C : Nat → World → World → Nat → Value → Value → Prop) (w : World) (v tok : Value) (i : Nat) (sl : List (Slot Nat)) (p q : Pr) (hs : sl[i]? = some (.pr q)) (hl : sl.length = 32)
    (HI : Hid (∀ w1, Ext w w1 → Calls Tryd.prog 39 #[v, .int .i64 i] w1 fun e w' => e = .returned (.bool true) ∧ Ext w1 w'))
    (HO : Hid (∀ w1, Ext w w1 → Calls Tryd.prog 40 #[v, tok] w1 fun e w' => ∃ c B ow pv kv, e = .returned (ptr c) ∧ InO B w' c sl ow pv kv ∧ B ≤ w'.heap.size ∧ (w.heap.size < w1.heap.size → pv.ownBlock ≠ some w.heap.size) ∧ Ext w1 w' ∧ C B w1 w' c pv kv)) :
    Calls Tryd.prog 17 #[v, tok, .int .i64 i, .agg #[str p.1, str p.2]] w fun e w' => ∃ c B ow pv kv pv' kv' w1 wm, e = .returned (ptr c) ∧ Ext w w1 ∧ Ext w1 wm ∧ C B w1 wm c pv kv ∧ InO B w' c (sl.set i (.pr p)) ow pv' kv' ∧ Only (fun k => k = c ∨ pv.ownBlock = some k ∨ kv.ownBlock = some k) wm w' ∧ (pv'.ownBlock = pv.ownBlock ∨ ∃ b, pv'.ownBlock = some b ∧ wm.heap.size ≤ b) ∧ (kv'.ownBlock = kv.ownBlock ∨ ∃ b, kv'.ownBlock = some b ∧ wm.heap.size ≤ b) := by
  have hd9 : dataOf sl < 4294967296 := bits32 _ hl
  have hn9 : nodesOf sl < 4294967296 := bits32 _ hl
  have hi : i < 32 := by have := get_lt hs; omega
  obtain ⟨wa, hwa⟩ : ∃ x, x = w.alloc (.cells #[str p.1, str p.2] NP) := ⟨_, rfl⟩
  obtain ⟨gp, hgp⟩ : ∃ x, x = w.heap.size := ⟨_, rfl⟩
  have hba := heap_new w (.cells #[str p.1, str p.2] NP)
  rw [← hwa, ← hgp] at hba
  have hEa : Ext w wa := by rw [hwa]; exact (Ext.refl _).alloc (Nat.le_refl _) _
  have HA := Lib.hid (And.intro hba hEa)
  have HSZ : Hid (w.heap.size < wa.heap.size) := Lib.hid (by rw [hwa]; simp)
  have HW : Hid (w.alloc (.cells #[str p.1, str p.2] NP) = wa ∧ w.heap.size = gp) := Lib.hid ⟨hwa.symm, hgp.symm⟩
  clear hwa hgp hba hEa
  go_enter Tryd.func17, Tryd.ntmps17
  repeat' (first | go_at_call 39 | go_skip | go_guarded | go_step)
  have hW1 := HW.out.1
  have hW2 := HW.out.2
  rw [hW1]
  try rw [hW2]
  clear hW1 hW2
  refine (HI.out _ HA.out.2).mono ?_
  rintro e w2 ⟨rfl, f2⟩
  have H2 := Lib.hid f2
  clear f2
  go_simp
  repeat' (first | go_at_call 40 | go_skip | go_guarded | go_step)
  refine (HO.out w2 (HA.out.2.trans H2.out)).mono ?_
  rintro e wm ⟨c, B, ow, pv, kv, rfl, hO, hB, hne, hE, hC⟩
  obtain ⟨c0, c1, c2, c3, c4, c5⟩ := hO.2.node.cells
  replace hne := hne (Nat.lt_of_lt_of_le HSZ.out H2.out.size)
  have N := Lib.hid (And.intro hO (And.intro hB (And.intro hne (And.intro hE hC))))
  have hbm := Lib.hid (box_ext' HA.out.1 (H2.out.trans hE))
  clear hE hC hne hB
  go_simp
  repeat' (first | go_at_call 41 | go_skip | go_guarded | go_step)
  refine (has_c _ (dataOf sl) i hd9 hi).mono ?_
  rintro e w3 ⟨rfl, rfl⟩
  rw [bit_at Slot.isP hs]
  simp only [Slot.isP_pr]
  go_simp
  repeat' (go_not_at_region 5; (first | go_skip | go_guarded | go_step))
  refine setp_5 B wm c gp i sl ow pv kv p q (Lib.hid ⟨N.out.1, hs, hbm.out, by rw [← HW.out.2]; exact N.out.2.2.1⟩) _ _ _ _ _ _ _ _ _ _ _ _ _ _ _ _ _ _ _ _ _ _ _ _ _ _ _ _ _ _ _ _ _ _ _ _ _ _ _ _ _ _ _ _ _ _ _ _ _ _ _ _ _ _ _ _ _ _ _ _ _ _ _ _ _ _ _ _ _ _ _ _ _ _ _ (by kernel_rfl) ?_
  intro z25 z26 z27 z28 z29 z30 z31 z32 z33 z34 z35 z36 z37 z38 wx h1 h2
  have HX := Lib.hid (And.intro h1 h2)
  clear h1 h2
  repeat' (first | go_skip | go_guarded | go_step)
  go_ret
  exact ⟨c, B, ow, pv, kv, pv, kv, w2, wm, rfl, HA.out.2.trans H2.out, N.out.2.2.2.1, N.out.2.2.2.2, HX.out.1, HX.out.2, .inl rfl, .inl rfl⟩


set_option maxRecDepth 100000 in
set_option maxHeartbeats 2000000 in
theorem setp_np (C : Nat → World → World → Nat → Value → Value → Prop) (w : World) (v tok : Value) (i : Nat) (sl : List (Slot Nat)) (p : Pr) (s : Slot Nat) (hsp : s.isP = false) (hs : sl[i]? = some (s)) (hl : sl.length = 32)
    (HI : Hid (∀ w1, Ext w w1 → Calls Tryd.prog 39 #[v, .int .i64 i] w1 fun e w' => e = .returned (.bool true) ∧ Ext w1 w'))
    (HO : Hid (∀ w1, Ext w w1 → Calls Tryd.prog 40 #[v, tok] w1 fun e w' => ∃ c B ow pv kv, e = .returned (ptr c) ∧ InO B w' c sl ow pv kv ∧ B ≤ w'.heap.size ∧ (w.heap.size < w1.heap.size → pv.ownBlock ≠ some w.heap.size) ∧ Ext w1 w' ∧ C B w1 w' c pv kv)) :
    Calls Tryd.prog 17 #[v, tok, .int .i64 i, .agg #[str p.1, str p.2]] w fun e w' => ∃ c B ow pv kv pv' kv' w1 wm, e = .returned (ptr c) ∧ Ext w w1 ∧ Ext w1 wm ∧ C B w1 wm c pv kv ∧ InO B w' c (sl.set i (.pr p)) ow pv' kv' ∧ Only (fun k => k = c ∨ pv.ownBlock = some k ∨ kv.ownBlock = some k) wm w' ∧ (pv'.ownBlock = pv.ownBlock ∨ ∃ b, pv'.ownBlock = some b ∧ wm.heap.size ≤ b) ∧ (kv'.ownBlock = kv.ownBlock ∨ ∃ b, kv'.ownBlock = some b ∧ wm.heap.size ≤ b) := by
  have hd9 : dataOf sl < 4294967296 := bits32 _ hl
  have hn9 : nodesOf sl < 4294967296 := bits32 _ hl
  have hi : i < 32 := by have := get_lt hs; omega
  obtain ⟨wa, hwa⟩ : ∃ x, x = w.alloc (.cells #[str p.1, str p.2] NP) := ⟨_, rfl⟩
  obtain ⟨gp, hgp⟩ : ∃ x, x = w.heap.size := ⟨_, rfl⟩
  have hba := heap_new w (.cells #[str p.1, str p.2] NP)
  rw [← hwa, ← hgp] at hba
  have hEa : Ext w wa := by rw [hwa]; exact (Ext.refl _).alloc (Nat.le_refl _) _
  have HA := Lib.hid (And.intro hba hEa)
  have HSZ : Hid (w.heap.size < wa.heap.size) := Lib.hid (by rw [hwa]; simp)
  have HW : Hid (w.alloc (.cells #[str p.1, str p.2] NP) = wa ∧ w.heap.size = gp) := Lib.hid ⟨hwa.symm, hgp.symm⟩
  clear hwa hgp hba hEa
  go_enter Tryd.func17, Tryd.ntmps17
  repeat' (first | go_at_call 39 | go_skip | go_guarded | go_step)
  have hW1 := HW.out.1
  have hW2 := HW.out.2
  rw [hW1]
  try rw [hW2]
  clear hW1 hW2
  refine (HI.out _ HA.out.2).mono ?_
  rintro e w2 ⟨rfl, f2⟩
  have H2 := Lib.hid f2
  clear f2
  go_simp
  repeat' (first | go_at_call 40 | go_skip | go_guarded | go_step)
  refine (HO.out w2 (HA.out.2.trans H2.out)).mono ?_
  rintro e wm ⟨c, B, ow, pv, kv, rfl, hO, hB, hne, hE, hC⟩
  obtain ⟨c0, c1, c2, c3, c4, c5⟩ := hO.2.node.cells
  replace hne := hne (Nat.lt_of_lt_of_le HSZ.out H2.out.size)
  have N := Lib.hid (And.intro hO (And.intro hB (And.intro hne (And.intro hE hC))))
  have hbm := Lib.hid (box_ext' HA.out.1 (H2.out.trans hE))
  clear hE hC hne hB
  go_simp
  repeat' (first | go_at_call 41 | go_skip | go_guarded | go_step)
  refine (has_c _ (dataOf sl) i hd9 hi).mono ?_
  rintro e w3 ⟨rfl, rfl⟩
  rw [bit_at Slot.isP hs]
  rw [hsp]
  go_simp
  have hgc : gp ≠ c := fun e => by
    have h1 := N.out.1.2.node
    unfold NdAt at h1
    rw [← e, hbm.out] at h1
    simp at h1
  have hkg : kv.ownBlock ≠ some gp := own_block_ne N.out.1.2.kids hbm.out (by decide)
  have hpg : pv.ownBlock ≠ some gp := by rw [← HW.out.2]; exact N.out.2.2.1
  have HG := Lib.hid (And.intro hgc (And.intro hkg hpg))
  clear hgc hkg hpg
  repeat' (first | go_at_call 43 | go_skip | go_guarded | go_step)
  refine (drop_c B wm c i sl ow pv kv s N.out.1 hs).mono ?_
  rintro e wd ⟨rfl, pv1, kv1, hd1, od, bp, bk⟩
  have hbd := Lib.hid (od.heap hbm.out (fun h => by
    rcases h with h | h | h
    · exact HG.out.1 h
    · exact HG.out.2.2 h
    · exact HG.out.2.1 h))
  have D := Lib.hid (And.intro hd1 (And.intro od (And.intro bp bk)))
  have hBd : B ≤ wd.heap.size := Nat.le_trans N.out.2.1 od.size
  have hs0 : (sl.set i .no)[i]? = some .no := by rw [List.getElem?_set_self (by omega)]
  clear hd1 od bp bk c0 c1 c2 c3 c4 c5
  go_simp
  repeat' (go_not_at_region 8; (first | go_skip | go_guarded | go_step))
  refine setp_8 B wd c gp i (sl.set i .no) ow pv1 kv1 p (Lib.hid ⟨D.out.1, hs0, hbd.out, by rw [D.out.2.2.1]; exact HG.out.2.2⟩) hBd _ _ _ _ _ _ _ _ _ _ _ _ _ _ _ _ _ _ _ _ _ _ _ _ _ _ _ _ _ _ _ _ _ _ _ _ _ _ _ _ _ _ _ _ _ _ _ _ _ _ _ _ _ _ _ _ _ _ _ _ _ _ _ _ _ _ _ _ _ _ _ _ _ _ _ (by kernel_rfl) ?_
  intro z45 z46 z47 z48 z49 z50 z51 z52 z53 z54 z55 z56 z57 z58 z59 z60 z61 z62 z63 wx pv2 hN hp hk hO2 hb2
  rw [List.set_set] at hp hk
  have X := Lib.hid (And.intro hN (And.intro hp (And.intro hk (And.intro hO2 hb2))))
  obtain ⟨y0, y1, y2, y3, y4, y5⟩ := hN.cells
  have yf := hN.free
  have hd09 : dataOf (sl.set i .no) < 4294967296 := bits32 _ (by rw [List.length_set]; exact hl)
  clear hN hp hk hO2 hb2 y1 y2 y3 y4 y5
  repeat' (first | go_at_call 45 | go_skip | go_guarded | go_step)
  refine (with_c _ (dataOf (sl.set i .no)) i hd09 hi).mono ?_
  rintro e w3 ⟨rfl, rfl⟩
  go_simp
  repeat' (first | go_skip | go_guarded | go_step)
  go_ret
  have ed : dataOf (sl.set i (.pr p)) = dataOf (sl.set i .no) ||| 2 ^ i := by
    have := bits_set_on Slot.isP (sl := sl.set i .no) (i := i) (by rw [List.length_set]; omega) (s := .pr p) rfl
    rw [List.set_set] at this
    exact this
  have en : nodesOf (sl.set i (.pr p)) = nodesOf (sl.set i .no) := by
    have := bits_set_same Slot.isK hs0 (s := .pr p) rfl
    rw [List.set_set] at this
    exact this
  obtain ⟨hN, hp, hk, hO2, hb2⟩ := X.out
  have hN2 := hN.set0 (dataOf (sl.set i .no) ||| 2 ^ i)
  refine ⟨c, B, ow, pv, kv, pv2, kv1, w2, wm, rfl, HA.out.2.trans H2.out, N.out.2.2.2.1, N.out.2.2.2.2, ⟨by rw [List.length_set]; exact hl, ?_⟩, ?_, ?_, .inl D.out.2.2.2⟩
  · rw [ed, en]
    exact ⟨hN2, own_other hp hN (by decide) 0 _, own_other hk hN (by decide) 0 _⟩
  · refine (D.out.2.1.trans' hO2 (fun j hj h => ?_)).setCell (p := ⟨c, 0, none⟩) (.inl (.inl rfl)) _
    rw [D.out.2.2.1, D.out.2.2.2] at h
    exact h
  · rcases hb2 with h | ⟨b, h, hb⟩
    · exact .inl (h.trans D.out.2.2.1)
    · exact .inr ⟨b, h, Nat.le_trans D.out.2.1.size hb⟩

end Go.Proofs.YtclcgelbcbnekaaDoor
