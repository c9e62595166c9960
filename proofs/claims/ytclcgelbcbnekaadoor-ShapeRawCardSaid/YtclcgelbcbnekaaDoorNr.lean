/- Contracts: SetKid, Clear, by a contract of own. -/
import Derived.Test.YtclcgelbcbnekaaDoorM18
import Derived.Test.YtclcgelbcbnekaaDoorM17
set_option linter.unusedVariables false
set_option linter.unusedSimpArgs false
namespace Go.Proofs.YtclcgelbcbnekaaDoor
open Go.RowKit Go.QS Go.QS.Nk
set_option linter.unusedVariables false
variable [Zero (Nat → Prop)]
set_option linter.unusedSectionVars false

set_option maxRecDepth 100000 in
set_option maxHeartbeats 2000000 in
theorem setk_kid (C : Nat → World → World → Nat → Value → Value → Prop) (w : World) (v tok : Value) (i : Nat) (sl : List (Slot Nat)) (g q : Nat) (hs : sl[i]? = some (.kid q)) (hl : sl.length = 32)
    (HI : Hid (∀ w1, Ext w w1 → Calls Tryd.prog 39 #[v, .int .i64 i] w1 fun e w' => e = .returned (.bool true) ∧ Ext w1 w'))
    (HO : Hid (∀ w1, Ext w w1 → Calls Tryd.prog 40 #[v, tok] w1 fun e w' => ∃ c B ow pv kv, e = .returned (ptr c) ∧ InO B w' c sl ow pv kv ∧ B ≤ w'.heap.size ∧ (w.heap.size < w1.heap.size → pv.ownBlock ≠ some w.heap.size) ∧ Ext w1 w' ∧ C B w1 w' c pv kv)) :
    Calls Tryd.prog 19 #[v, tok, .int .i64 i, ptr g] w fun e w' => ∃ c B ow pv kv pv' kv' w1 wm, e = .returned (ptr c) ∧ Ext w w1 ∧ Ext w1 wm ∧ C B w1 wm c pv kv ∧ InO B w' c (sl.set i (.kid g)) ow pv' kv' ∧ Only (fun k => k = c ∨ pv.ownBlock = some k ∨ kv.ownBlock = some k) wm w' ∧ (pv'.ownBlock = pv.ownBlock ∨ ∃ b, pv'.ownBlock = some b ∧ wm.heap.size ≤ b) ∧ (kv'.ownBlock = kv.ownBlock ∨ ∃ b, kv'.ownBlock = some b ∧ wm.heap.size ≤ b) := by
  have hd9 : dataOf sl < 4294967296 := bits32 _ hl
  have hn9 : nodesOf sl < 4294967296 := bits32 _ hl
  have hi : i < 32 := by have := get_lt hs; omega
  go_enter Tryd.func19, Tryd.ntmps19
  repeat' (first | go_at_call 39 | go_skip | go_guarded | go_step)
  refine (HI.out _ (Ext.refl _)).mono ?_
  rintro e w2 ⟨rfl, f2⟩
  have H2 := Lib.hid f2
  clear f2
  go_simp
  repeat' (first | go_at_call 40 | go_skip | go_guarded | go_step)
  refine (HO.out w2 H2.out).mono ?_
  rintro e wm ⟨c, B, ow, pv, kv, rfl, hO, hB, hne, hE, hC⟩
  obtain ⟨c0, c1, c2, c3, c4, c5⟩ := hO.2.node.cells
  have N := Lib.hid (And.intro hO (And.intro hB (And.intro hne (And.intro hE hC))))
  clear hE hC hne hB
  go_simp
  repeat' (first | go_at_call 41 | go_skip | go_guarded | go_step)
  refine (has_c _ (nodesOf sl) i hn9 hi).mono ?_
  rintro e w3 ⟨rfl, rfl⟩
  rw [bit_at Slot.isK hs]
  simp only [Slot.isK_kid]
  go_simp
  repeat' (go_not_at_region 7; (first | go_skip | go_guarded | go_step))
  refine setk_7 B wm c g i q sl ow pv kv (Lib.hid ⟨N.out.1, hs⟩) _ _ _ _ _ _ _ _ _ _ _ _ _ _ _ _ _ _ _ _ _ _ _ _ _ _ _ _ _ _ _ _ _ _ _ _ _ _ _ _ _ _ _ _ _ _ _ _ _ _ _ _ _ _ _ _ _ _ _ _ _ _ _ _ _ _ _ _ _ _ _ _ _ _ _ _ _ _ _ _ _ (by kernel_rfl) ?_
  intro z31 z32 z33 z34 z35 z36 z37 z38 z39 z40 z41 z42 z43 z44 wx h1 h2
  have HX := Lib.hid (And.intro h1 h2)
  clear h1 h2
  repeat' (first | go_skip | go_guarded | go_step)
  go_ret
  exact ⟨c, B, ow, pv, kv, pv, kv, w2, wm, rfl, H2.out, N.out.2.2.2.1, N.out.2.2.2.2, HX.out.1, HX.out.2, .inl rfl, .inl rfl⟩


set_option maxRecDepth 100000 in
set_option maxHeartbeats 2000000 in
theorem setk_nk (C : Nat → World → World → Nat → Value → Value → Prop) (w : World) (v tok : Value) (i : Nat) (sl : List (Slot Nat)) (g : Nat) (s : Slot Nat) (hsp : s.isK = false) (hs : sl[i]? = some (s)) (hl : sl.length = 32)
    (HI : Hid (∀ w1, Ext w w1 → Calls Tryd.prog 39 #[v, .int .i64 i] w1 fun e w' => e = .returned (.bool true) ∧ Ext w1 w'))
    (HO : Hid (∀ w1, Ext w w1 → Calls Tryd.prog 40 #[v, tok] w1 fun e w' => ∃ c B ow pv kv, e = .returned (ptr c) ∧ InO B w' c sl ow pv kv ∧ B ≤ w'.heap.size ∧ (w.heap.size < w1.heap.size → pv.ownBlock ≠ some w.heap.size) ∧ Ext w1 w' ∧ C B w1 w' c pv kv)) :
    Calls Tryd.prog 19 #[v, tok, .int .i64 i, ptr g] w fun e w' => ∃ c B ow pv kv pv' kv' w1 wm, e = .returned (ptr c) ∧ Ext w w1 ∧ Ext w1 wm ∧ C B w1 wm c pv kv ∧ InO B w' c (sl.set i (.kid g)) ow pv' kv' ∧ Only (fun k => k = c ∨ pv.ownBlock = some k ∨ kv.ownBlock = some k) wm w' ∧ (pv'.ownBlock = pv.ownBlock ∨ ∃ b, pv'.ownBlock = some b ∧ wm.heap.size ≤ b) ∧ (kv'.ownBlock = kv.ownBlock ∨ ∃ b, kv'.ownBlock = some b ∧ wm.heap.size ≤ b) := by
  have hd9 : dataOf sl < 4294967296 := bits32 _ hl
  have hn9 : nodesOf sl < 4294967296 := bits32 _ hl
  have hi : i < 32 := by have := get_lt hs; omega
  go_enter Tryd.func19, Tryd.ntmps19
  repeat' (first | go_at_call 39 | go_skip | go_guarded | go_step)
  refine (HI.out _ (Ext.refl _)).mono ?_
  rintro e w2 ⟨rfl, f2⟩
  have H2 := Lib.hid f2
  clear f2
  go_simp
  repeat' (first | go_at_call 40 | go_skip | go_guarded | go_step)
  refine (HO.out w2 H2.out).mono ?_
  rintro e wm ⟨c, B, ow, pv, kv, rfl, hO, hB, hne, hE, hC⟩
  obtain ⟨c0, c1, c2, c3, c4, c5⟩ := hO.2.node.cells
  have N := Lib.hid (And.intro hO (And.intro hB (And.intro hne (And.intro hE hC))))
  clear hE hC hne hB
  go_simp
  repeat' (first | go_at_call 41 | go_skip | go_guarded | go_step)
  refine (has_c _ (nodesOf sl) i hn9 hi).mono ?_
  rintro e w3 ⟨rfl, rfl⟩
  rw [bit_at Slot.isK hs, hsp]
  go_simp
  repeat' (first | go_at_call 43 | go_skip | go_guarded | go_step)
  refine (drop_c B wm c i sl ow pv kv s N.out.1 hs).mono ?_
  rintro e wd ⟨rfl, pv1, kv1, hd1, od, bp, bk⟩
  have D := Lib.hid (And.intro hd1 (And.intro od (And.intro bp bk)))
  have hBd : B ≤ wd.heap.size := Nat.le_trans N.out.2.1 od.size
  have hs0 : (sl.set i .no)[i]? = some .no := by rw [List.getElem?_set_self (by omega)]
  clear hd1 od bp bk c0 c1 c2 c3 c4 c5
  go_simp
  repeat' (go_not_at_region 10; (first | go_skip | go_guarded | go_step))
  refine setk_10 B wd c g i (sl.set i .no) ow pv1 kv1 (Lib.hid ⟨D.out.1, hs0⟩) hBd _ _ _ _ _ _ _ _ _ _ _ _ _ _ _ _ _ _ _ _ _ _ _ _ _ _ _ _ _ _ _ _ _ _ _ _ _ _ _ _ _ _ _ _ _ _ _ _ _ _ _ _ _ _ _ _ _ _ _ _ _ _ _ _ _ _ _ _ _ _ _ _ _ _ _ _ _ _ _ _ _ (by kernel_rfl) ?_
  intro z51 z52 z53 z54 z55 z56 z57 z58 z59 z60 z61 z62 z63 z64 z65 z66 z67 z68 z69 wx kv2 hN hp hk hO2 hb2
  rw [List.set_set] at hp hk
  have X := Lib.hid (And.intro hN (And.intro hp (And.intro hk (And.intro hO2 hb2))))
  obtain ⟨y0, y1, y2, y3, y4, y5⟩ := hN.cells
  have yf := hN.free
  have hn09 : nodesOf (sl.set i .no) < 4294967296 := bits32 _ (by rw [List.length_set]; exact hl)
  clear hN hp hk hO2 hb2 y0 y2 y3 y4 y5
  repeat' (first | go_at_call 45 | go_skip | go_guarded | go_step)
  refine (with_c _ (nodesOf (sl.set i .no)) i hn09 hi).mono ?_
  rintro e w3 ⟨rfl, rfl⟩
  go_simp
  repeat' (first | go_skip | go_guarded | go_step)
  go_ret
  have ed : nodesOf (sl.set i (.kid g)) = nodesOf (sl.set i .no) ||| 2 ^ i := by
    have := bits_set_on Slot.isK (sl := sl.set i .no) (i := i) (by rw [List.length_set]; omega) (s := .kid g) rfl
    rw [List.set_set] at this
    exact this
  have en : dataOf (sl.set i (.kid g)) = dataOf (sl.set i .no) := by
    have := bits_set_same Slot.isP hs0 (s := .kid g) rfl
    rw [List.set_set] at this
    exact this
  obtain ⟨hN, hp, hk, hO2, hb2⟩ := X.out
  have hN2 := hN.set1 (nodesOf (sl.set i .no) ||| 2 ^ i)
  refine ⟨c, B, ow, pv, kv, pv1, kv2, w2, wm, rfl, H2.out, N.out.2.2.2.1, N.out.2.2.2.2, ⟨by rw [List.length_set]; exact hl, ?_⟩, ?_, .inl D.out.2.2.1, ?_⟩
  · rw [ed, en]
    exact ⟨hN2, own_other hp hN (by decide) 1 _, own_other hk hN (by decide) 1 _⟩
  · refine (D.out.2.1.trans' hO2 (fun j hj h => ?_)).setCell (p := ⟨c, 1, none⟩) (.inl (.inl rfl)) _
    rw [D.out.2.2.1, D.out.2.2.2] at h
    exact h
  · rcases hb2 with h | ⟨b, h, hb⟩
    · exact .inl (h.trans D.out.2.2.2)
    · exact .inr ⟨b, h, Nat.le_trans D.out.2.1.size hb⟩


set_option maxRecDepth 100000 in
set_option maxHeartbeats 2000000 in
theorem clear_g (C : Nat → World → World → Nat → Value → Value → Prop) (w : World) (v tok : Value) (i : Nat) (sl : List (Slot Nat)) (s : Slot Nat) (hs : sl[i]? = some s) (hl : sl.length = 32)
    (HI : Hid (∀ w1, Ext w w1 → Calls Tryd.prog 39 #[v, .int .i64 i] w1 fun e w' => e = .returned (.bool true) ∧ Ext w1 w'))
    (HO : Hid (∀ w1, Ext w w1 → Calls Tryd.prog 40 #[v, tok] w1 fun e w' => ∃ c B ow pv kv, e = .returned (ptr c) ∧ InO B w' c sl ow pv kv ∧ B ≤ w'.heap.size ∧ (w.heap.size < w1.heap.size → pv.ownBlock ≠ some w.heap.size) ∧ Ext w1 w' ∧ C B w1 w' c pv kv)) :
    Calls Tryd.prog 18 #[v, tok, .int .i64 i] w fun e w' => ∃ c B ow pv kv pv' kv' w1 wm, e = .returned (ptr c) ∧ Ext w w1 ∧ Ext w1 wm ∧ C B w1 wm c pv kv ∧ InO B w' c (sl.set i (.no)) ow pv' kv' ∧ Only (fun k => k = c ∨ pv.ownBlock = some k ∨ kv.ownBlock = some k) wm w' ∧ (pv'.ownBlock = pv.ownBlock ∨ ∃ b, pv'.ownBlock = some b ∧ wm.heap.size ≤ b) ∧ (kv'.ownBlock = kv.ownBlock ∨ ∃ b, kv'.ownBlock = some b ∧ wm.heap.size ≤ b) := by
  go_enter Tryd.func18, Tryd.ntmps18
  repeat' (first | go_at_call 39 | go_skip | go_guarded | go_step)
  refine (HI.out _ (Ext.refl _)).mono ?_
  rintro e w2 ⟨rfl, f2⟩
  have H2 := Lib.hid f2
  clear f2
  go_simp
  repeat' (first | go_at_call 40 | go_skip | go_guarded | go_step)
  refine (HO.out w2 H2.out).mono ?_
  rintro e wm ⟨c, B, ow, pv, kv, rfl, hO, hB, hne, hE, hC⟩
  obtain ⟨c0, c1, c2, c3, c4, c5⟩ := hO.2.node.cells
  have N := Lib.hid (And.intro hO (And.intro hB (And.intro hne (And.intro hE hC))))
  clear hE hC hne hB
  go_simp
  repeat' (first | go_at_call 43 | go_skip | go_guarded | go_step)
  refine (drop_c B wm c i sl ow pv kv s N.out.1 hs).mono ?_
  rintro e wd ⟨rfl, pv1, kv1, hd1, od, bp, bk⟩
  have D := Lib.hid (And.intro hd1 (And.intro od (And.intro bp bk)))
  clear hd1 od bp bk c0 c1 c2 c3 c4 c5
  go_simp
  repeat' (first | go_skip | go_guarded | go_step)
  go_ret
  exact ⟨c, B, ow, pv, kv, pv1, kv1, w2, wm, rfl, H2.out, N.out.2.2.2.1, N.out.2.2.2.2, D.out.1, D.out.2.1, .inl D.out.2.2.1, .inl D.out.2.2.2⟩
end Go.Proofs.YtclcgelbcbnekaaDoor
