/- Contract: a node of one's own: a chunk is emptied: its three ways. -/
import Derived.Test.YtclcgelbcbnekaaDoorM16
import Derived.IntWalk
set_option linter.unusedVariables false
set_option linter.unusedSimpArgs false
namespace Go.Proofs.YtclcgelbcbnekaaDoor
open Go.RowKit Go.QS Go.QS.Nk
set_option linter.unusedVariables false
variable [Zero (Nat → Prop)]
set_option linter.unusedSectionVars false

set_option maxRecDepth 100000 in
set_option maxHeartbeats 2000000 in
theorem drop_no (base : Nat) (w : World) (g i : Nat) (sl : List (Slot Nat)) (ow : Option Addr) (pv kv : Value) (h : InO base w g sl ow pv kv) (hs : sl[i]? = some (.no)) :
    Calls Tryd.prog 43 #[ptr g, .int .i64 i] w fun e w' => e = .returned (.tuple #[]) ∧ ∃ pv' kv', InO base w' g (sl.set i .no) ow pv' kv' ∧ Only (fun k => k = g ∨ pv.ownBlock = some k ∨ kv.ownBlock = some k) w w' ∧ pv'.ownBlock = pv.ownBlock ∧ kv'.ownBlock = kv.ownBlock := by
  have hi : i < 32 := by have := get_lt hs; rw [h.1] at this; exact this
  have hz : dataOf sl < 4294967296 ∧ nodesOf sl < 4294967296 := ⟨bits32 _ h.1, bits32 _ h.1⟩
  have hp32 := prsOf_len sl
  have hk32 := kdsOf_len sl
  rw [h.1] at hp32 hk32
  obtain ⟨d, hd⟩ : ∃ d, d = dataOf sl := ⟨_, rfl⟩
  obtain ⟨n, hn⟩ : ∃ n, n = nodesOf sl := ⟨_, rfl⟩
  have HB : Hid (d.testBit i = false ∧ n.testBit i = false ∧ clr d i = dataOf (sl.set i .no) ∧ clr n i = nodesOf (sl.set i .no) ∧ rnk d i = rkP sl i ∧ rnk n i = rkK sl i) := Lib.hid ⟨by rw [hd]; exact bit_at Slot.isP hs, by rw [hn]; exact bit_at Slot.isK hs, by rw [hd, clr_eq h.1 hi (s := .no) rfl], by rw [hn, clr_eq h.1 hi (s := .no) rfl], by rw [hd]; exact rk_data (by rw [h.1]; decide) i, by rw [hn]; exact rk_nodes (by rw [h.1]; decide) i⟩
  have h2 := h.2
  rw [← hd, ← hn] at h2 hz
  obtain ⟨hd9, hn9⟩ := hz
  obtain ⟨c0, c1, c2, c3, c4, c5⟩ := h2.node.cells
  have hf := h2.node.free
  have HN := Lib.hid h2
  have HS := Lib.hid (And.intro hs h.1)
  clear h h2 hd hn hs
  go_enter Tryd.func43, Tryd.ntmps43
  repeat' (first | go_at_call 41 | go_skip | go_guarded | go_step)
  refine (has_c _ d i hd9 hi).mono ?_
  rintro e w1 ⟨rfl, rfl⟩
  rw [HB.out.1]
  go_simp
  repeat' (first | go_at_call 41 | go_skip | go_guarded | go_step)
  refine (has_c _ n i hn9 hi).mono ?_
  rintro e w9 ⟨rfl, rfl⟩
  rw [HB.out.2.1]
  go_simp
  repeat' (go_not_at_region 6; (first | go_skip | go_guarded | go_step))
  refine drop_6 w g i d n pv kv false ow HN.out.node hd9 hn9 hi _ _ _ _ _ _ _ _ _ _ _ _ _ _ _ _ _ _ _ _ _ _ _ _ _ _ _ _ _ _ _ _ _ _ _ _ _ _ _ _ _ _ _ _ _ _ _ _ _ _ _ _ _ _ _ _ _ _ _ _ _ _ _ _ _ _ _ _ _ _ (by kernel_rfl) ?_
  intro z52 z53 z54 z55 z56 z57 z58 z59 z60 z61 z62 z63 z64 z65 z66 z67 z68 z69 wx hN hO
  have HX := Lib.hid (And.intro hN hO)
  clear hN hO
  repeat' (first | go_skip | go_guarded | go_step)
  first | refine bodyPost_ret (results_none rfl _ _ _) rfl ?_ | refine bodyPost_end (results_none rfl _ _ _) rfl ?_
  obtain ⟨hN, hO⟩ := HX.out
  refine ⟨rfl, pv, kv, ⟨by rw [List.length_set]; exact HS.out.2, ?_⟩, hO.mono (fun j _ h => .inl h), rfl, rfl⟩
  have e1 := prs_set_nn HS.out.1 rfl (s := .no) rfl
  have e2 := kds_set_nn HS.out.1 rfl (s := .no) rfl
  rw [HB.out.2.2.1, HB.out.2.2.2.1] at hN
  rw [e1, e2]
  exact ⟨hN, hO.own HN.out.pairs (fun b hb e => own_block_ne HN.out.pairs HN.out.node (by decide) (e ▸ hb)), hO.own HN.out.kids (fun b hb e => own_block_ne HN.out.kids HN.out.node (by decide) (e ▸ hb))⟩

set_option maxRecDepth 100000 in
set_option maxHeartbeats 2000000 in
theorem drop_pr (base : Nat) (w : World) (g i : Nat) (sl : List (Slot Nat)) (ow : Option Addr) (pv kv : Value) (p : Pr) (h : InO base w g sl ow pv kv) (hs : sl[i]? = some (.pr p)) :
    Calls Tryd.prog 43 #[ptr g, .int .i64 i] w fun e w' => e = .returned (.tuple #[]) ∧ ∃ pv' kv', InO base w' g (sl.set i .no) ow pv' kv' ∧ Only (fun k => k = g ∨ pv.ownBlock = some k ∨ kv.ownBlock = some k) w w' ∧ pv'.ownBlock = pv.ownBlock ∧ kv'.ownBlock = kv.ownBlock := by
  have hi : i < 32 := by have := get_lt hs; rw [h.1] at this; exact this
  have hz : dataOf sl < 4294967296 ∧ nodesOf sl < 4294967296 := ⟨bits32 _ h.1, bits32 _ h.1⟩
  have hp32 := prsOf_len sl
  have hk32 := kdsOf_len sl
  rw [h.1] at hp32 hk32
  obtain ⟨d, hd⟩ : ∃ d, d = dataOf sl := ⟨_, rfl⟩
  obtain ⟨n, hn⟩ : ∃ n, n = nodesOf sl := ⟨_, rfl⟩
  have HB : Hid (d.testBit i = true ∧ n.testBit i = false ∧ clr d i = dataOf (sl.set i .no) ∧ clr n i = nodesOf (sl.set i .no) ∧ rnk d i = rkP sl i ∧ rnk n i = rkK sl i) := Lib.hid ⟨by rw [hd]; exact bit_at Slot.isP hs, by rw [hn]; exact bit_at Slot.isK hs, by rw [hd, clr_eq h.1 hi (s := .no) rfl], by rw [hn, clr_eq h.1 hi (s := .no) rfl], by rw [hd]; exact rk_data (by rw [h.1]; decide) i, by rw [hn]; exact rk_nodes (by rw [h.1]; decide) i⟩
  have h2 := h.2
  rw [← hd, ← hn] at h2 hz
  obtain ⟨hd9, hn9⟩ := hz
  obtain ⟨c0, c1, c2, c3, c4, c5⟩ := h2.node.cells
  have hf := h2.node.free
  have HN := Lib.hid h2
  have HS := Lib.hid (And.intro hs h.1)
  clear h h2 hd hn hs
  have hrl : rkP sl i < (prsOf sl).length := (List.getElem?_eq_some_iff.1 (prs_at HS.out.1)).1
  obtain ⟨r, hr⟩ : ∃ r, r = rkP sl i := ⟨_, rfl⟩
  rw [← hr] at hrl
  have HR := Lib.hid hr
  have hr32 : r < 32 := by omega
  have hs1 : IntKind.i64.wrap ((r : Int) + 1) = ((r + 1 : Nat) : Int) := by rw [show (r : Int) + 1 = ((r + 1 : Nat) : Int) by omega]; exact IntWalk.i64_in _ (by omega)
  clear hr
  go_enter Tryd.func43, Tryd.ntmps43
  repeat' (first | go_at_call 41 | go_skip | go_guarded | go_step)
  refine (has_c _ d i hd9 hi).mono ?_
  rintro e w1 ⟨rfl, rfl⟩
  rw [HB.out.1]
  go_simp
  repeat' (first | go_at_call 42 | go_skip | go_guarded | go_step)
  refine (rank_c w d i hd9 hi).mono ?_
  rintro e w1 ⟨rfl, f1⟩
  rw [HB.out.2.2.2.2.1, ← HR.out]
  have N1 := Lib.hid (And.intro (HN.out.ext f1) f1)
  obtain ⟨x0, x1, x2, x3, x4, x5⟩ := N1.out.1.node.cells
  have xf := N1.out.1.node.free
  clear f1 c0 c1 c2 c3 c4 c5 hf
  go_simp
  repeat' (first | go_at_call 76 | go_skip | go_guarded | go_step)
  refine (pdelete_c base w1 pv (prsOf sl) r N1.out.1.pairs hrl (by omega)).mono ?_
  rintro e w2 ⟨v2, rfl, o2, f2, b2⟩
  obtain ⟨q2, hq2⟩ : ∃ q, q = (prsOf sl).take r ++ (prsOf sl).drop (r + 1) := ⟨_, rfl⟩
  rw [← hq2] at o2
  obtain ⟨A2, C2, rfl⟩ := own_slice o2
  have hgne : pv.ownBlock ≠ some g := own_block_ne N1.out.1.pairs N1.out.1.node (by decide)
  have N2 := Lib.hid (And.intro (NdAt.only N1.out.1.node (Only.of_grown f2) hgne) (And.intro o2 (And.intro f2 b2)))
  obtain ⟨y0, y1, y2, y3, y4, y5⟩ := N2.out.1.cells
  have yf := N2.out.1.free
  have HG := Lib.hid (And.intro hgne hq2)
  clear o2 f2 b2 x0 x1 x2 x3 x4 x5 xf hgne hq2
  go_simp
  repeat' (first | go_at_call 41 | go_skip | go_guarded | go_step)
  refine (has_c _ n i hn9 hi).mono ?_
  rintro e w9 ⟨rfl, rfl⟩
  rw [HB.out.2.1]
  go_simp
  repeat' (go_not_at_region 6; (first | go_skip | go_guarded | go_step))
  refine drop_6 (w2.setCell ⟨g, 2, none⟩ (.slice A2 q2.length C2)) g i d n (.slice A2 q2.length C2) kv false ow (N2.out.1.set2 _) hd9 hn9 hi _ _ _ _ _ _ _ _ _ _ _ _ _ _ _ _ _ _ _ _ _ _ _ _ _ _ _ _ _ _ _ _ _ _ _ _ _ _ _ _ _ _ _ _ _ _ _ _ _ _ _ _ _ _ _ _ _ _ _ _ _ _ _ _ _ _ _ _ _ _ (by kernel_rfl) ?_
  intro z52 z53 z54 z55 z56 z57 z58 z59 z60 z61 z62 z63 z64 z65 z66 z67 z68 z69 wx hN hO
  have HX := Lib.hid (And.intro hN hO)
  clear hN hO
  repeat' (first | go_skip | go_guarded | go_step)
  first | refine bodyPost_ret (results_none rfl _ _ _) rfl ?_ | refine bodyPost_end (results_none rfl _ _ _) rfl ?_
  obtain ⟨hN, hO⟩ := HX.out
  have hne0 : kv.ownBlock ≠ some g := own_block_ne HN.out.kids HN.out.node (by decide)
  have hnep : pv.ownBlock ≠ some g := HG.out.1
  have on1 : Only (fun k => k = g ∨ pv.ownBlock = some k ∨ kv.ownBlock = some k) w w2 := (Only.of_ext N1.out.2).trans ((Only.of_grown N2.out.2.2.1).mono fun j _ hj => .inr (.inl hj))
  have on2 : Only (fun k => k = g ∨ pv.ownBlock = some k ∨ kv.ownBlock = some k) w wx := (on1.setCell (p := ⟨g, 2, none⟩) (.inl (.inl rfl)) _).trans (hO.mono fun j _ hj => .inl hj)
  have e1 := prs_set_pn HS.out.1 (s := .no) rfl
  have e2 := kds_set_nn HS.out.1 rfl (s := .no) rfl
  rw [← HR.out, ← HG.out.2] at e1
  rw [HB.out.2.2.1, HB.out.2.2.2.1] at hN
  have r2 := hO.own (own_other N2.out.2.1 N2.out.1 (by decide) 2 (.slice A2 q2.length C2)) (fun b hb e => by
    subst e
    rw [show (Value.slice A2 q2.length C2).ownBlock = pv.ownBlock from N2.out.2.2.2] at hb
    exact hnep hb)
  have o1 := (Only.of_grown N2.out.2.2.1).own (HN.out.ext N1.out.2).kids (fun b hb e => by
    rcases N1.out.1.pairs.2 with ⟨h, _⟩ | ⟨g', cap, cur, h1, h2, h3, h4⟩
    · rw [h] at e; cases e
    · rw [h1] at e
      cases e
      exact own_block_ne N1.out.1.kids h3 (by decide) hb)
  have r1 := hO.own (own_other o1 N2.out.1 (by decide) 2 (.slice A2 q2.length C2)) (fun b hb e => hne0 (by rw [hb, e]))
  refine ⟨rfl, _, kv, ⟨by rw [List.length_set]; exact HS.out.2, ?_⟩, on2, N2.out.2.2.2, rfl⟩
  rw [e1, e2]
  exact ⟨hN, r2, r1⟩

set_option maxRecDepth 100000 in
set_option maxHeartbeats 2000000 in
theorem drop_kid (base : Nat) (w : World) (g i : Nat) (sl : List (Slot Nat)) (ow : Option Addr) (pv kv : Value) (k : Nat) (h : InO base w g sl ow pv kv) (hs : sl[i]? = some (.kid k)) :
    Calls Tryd.prog 43 #[ptr g, .int .i64 i] w fun e w' => e = .returned (.tuple #[]) ∧ ∃ pv' kv', InO base w' g (sl.set i .no) ow pv' kv' ∧ Only (fun k => k = g ∨ pv.ownBlock = some k ∨ kv.ownBlock = some k) w w' ∧ pv'.ownBlock = pv.ownBlock ∧ kv'.ownBlock = kv.ownBlock := by
  have hi : i < 32 := by have := get_lt hs; rw [h.1] at this; exact this
  have hz : dataOf sl < 4294967296 ∧ nodesOf sl < 4294967296 := ⟨bits32 _ h.1, bits32 _ h.1⟩
  have hp32 := prsOf_len sl
  have hk32 := kdsOf_len sl
  rw [h.1] at hp32 hk32
  obtain ⟨d, hd⟩ : ∃ d, d = dataOf sl := ⟨_, rfl⟩
  obtain ⟨n, hn⟩ : ∃ n, n = nodesOf sl := ⟨_, rfl⟩
  have HB : Hid (d.testBit i = false ∧ n.testBit i = true ∧ clr d i = dataOf (sl.set i .no) ∧ clr n i = nodesOf (sl.set i .no) ∧ rnk d i = rkP sl i ∧ rnk n i = rkK sl i) := Lib.hid ⟨by rw [hd]; exact bit_at Slot.isP hs, by rw [hn]; exact bit_at Slot.isK hs, by rw [hd, clr_eq h.1 hi (s := .no) rfl], by rw [hn, clr_eq h.1 hi (s := .no) rfl], by rw [hd]; exact rk_data (by rw [h.1]; decide) i, by rw [hn]; exact rk_nodes (by rw [h.1]; decide) i⟩
  have h2 := h.2
  rw [← hd, ← hn] at h2 hz
  obtain ⟨hd9, hn9⟩ := hz
  obtain ⟨c0, c1, c2, c3, c4, c5⟩ := h2.node.cells
  have hf := h2.node.free
  have HN := Lib.hid h2
  have HS := Lib.hid (And.intro hs h.1)
  clear h h2 hd hn hs
  have hrl : rkK sl i < (kdsOf sl).length := (List.getElem?_eq_some_iff.1 (kds_at HS.out.1)).1
  obtain ⟨r, hr⟩ : ∃ r, r = rkK sl i := ⟨_, rfl⟩
  rw [← hr] at hrl
  have HR := Lib.hid hr
  have hr32 : r < 32 := by omega
  have hs1 : IntKind.i64.wrap ((r : Int) + 1) = ((r + 1 : Nat) : Int) := by rw [show (r : Int) + 1 = ((r + 1 : Nat) : Int) by omega]; exact IntWalk.i64_in _ (by omega)
  clear hr
  go_enter Tryd.func43, Tryd.ntmps43
  repeat' (first | go_at_call 41 | go_skip | go_guarded | go_step)
  refine (has_c _ d i hd9 hi).mono ?_
  rintro e w1 ⟨rfl, rfl⟩
  rw [HB.out.1]
  go_simp
  repeat' (first | go_at_call 41 | go_skip | go_guarded | go_step)
  refine (has_c _ n i hn9 hi).mono ?_
  rintro e w9 ⟨rfl, rfl⟩
  rw [HB.out.2.1]
  go_simp
  repeat' (first | go_at_call 42 | go_skip | go_guarded | go_step)
  refine (rank_c w n i hn9 hi).mono ?_
  rintro e w1 ⟨rfl, f1⟩
  rw [HB.out.2.2.2.2.2, ← HR.out]
  have N1 := Lib.hid (And.intro (HN.out.ext f1) f1)
  obtain ⟨x0, x1, x2, x3, x4, x5⟩ := N1.out.1.node.cells
  have xf := N1.out.1.node.free
  clear f1 c0 c1 c2 c3 c4 c5 hf
  go_simp
  repeat' (first | go_at_call 77 | go_skip | go_guarded | go_step)
  refine (kdelete_c base w1 kv (kdsOf sl) r N1.out.1.kids hrl (by omega)).mono ?_
  rintro e w2 ⟨v2, rfl, o2, f2, b2⟩
  obtain ⟨q2, hq2⟩ : ∃ q, q = (kdsOf sl).take r ++ (kdsOf sl).drop (r + 1) := ⟨_, rfl⟩
  rw [← hq2] at o2
  obtain ⟨A2, C2, rfl⟩ := own_slice o2
  have hgne : kv.ownBlock ≠ some g := own_block_ne N1.out.1.kids N1.out.1.node (by decide)
  have N2 := Lib.hid (And.intro (NdAt.only N1.out.1.node (Only.of_grown f2) hgne) (And.intro o2 (And.intro f2 b2)))
  obtain ⟨y0, y1, y2, y3, y4, y5⟩ := N2.out.1.cells
  have yf := N2.out.1.free
  have HG := Lib.hid (And.intro hgne hq2)
  clear o2 f2 b2 x0 x1 x2 x3 x4 x5 xf hgne hq2
  go_simp
  repeat' (go_not_at_region 6; (first | go_skip | go_guarded | go_step))
  refine drop_6 (w2.setCell ⟨g, 3, none⟩ (.slice A2 q2.length C2)) g i d n pv (.slice A2 q2.length C2) false ow (N2.out.1.set3 _) hd9 hn9 hi _ _ _ _ _ _ _ _ _ _ _ _ _ _ _ _ _ _ _ _ _ _ _ _ _ _ _ _ _ _ _ _ _ _ _ _ _ _ _ _ _ _ _ _ _ _ _ _ _ _ _ _ _ _ _ _ _ _ _ _ _ _ _ _ _ _ _ _ _ _ (by kernel_rfl) ?_
  intro z52 z53 z54 z55 z56 z57 z58 z59 z60 z61 z62 z63 z64 z65 z66 z67 z68 z69 wx hN hO
  have HX := Lib.hid (And.intro hN hO)
  clear hN hO
  repeat' (first | go_skip | go_guarded | go_step)
  first | refine bodyPost_ret (results_none rfl _ _ _) rfl ?_ | refine bodyPost_end (results_none rfl _ _ _) rfl ?_
  obtain ⟨hN, hO⟩ := HX.out
  have hne0 : pv.ownBlock ≠ some g := own_block_ne HN.out.pairs HN.out.node (by decide)
  have hnep : kv.ownBlock ≠ some g := HG.out.1
  have on1 : Only (fun k => k = g ∨ pv.ownBlock = some k ∨ kv.ownBlock = some k) w w2 := (Only.of_ext N1.out.2).trans ((Only.of_grown N2.out.2.2.1).mono fun j _ hj => .inr (.inr hj))
  have on2 : Only (fun k => k = g ∨ pv.ownBlock = some k ∨ kv.ownBlock = some k) w wx := (on1.setCell (p := ⟨g, 3, none⟩) (.inl (.inl rfl)) _).trans (hO.mono fun j _ hj => .inl hj)
  have e1 := kds_set_kn HS.out.1 (s := .no) rfl
  have e2 := prs_set_nn HS.out.1 rfl (s := .no) rfl
  rw [← HR.out, ← HG.out.2] at e1
  rw [HB.out.2.2.1, HB.out.2.2.2.1] at hN
  have r2 := hO.own (own_other N2.out.2.1 N2.out.1 (by decide) 3 (.slice A2 q2.length C2)) (fun b hb e => by
    subst e
    rw [show (Value.slice A2 q2.length C2).ownBlock = kv.ownBlock from N2.out.2.2.2] at hb
    exact hnep hb)
  have o1 := (Only.of_grown N2.out.2.2.1).own (HN.out.ext N1.out.2).pairs (fun b hb e => by
    rcases N1.out.1.kids.2 with ⟨h, _⟩ | ⟨g', cap, cur, h1, h2, h3, h4⟩
    · rw [h] at e; cases e
    · rw [h1] at e
      cases e
      exact own_block_ne N1.out.1.pairs h3 (by decide) hb)
  have r1 := hO.own (own_other o1 N2.out.1 (by decide) 3 (.slice A2 q2.length C2)) (fun b hb e => hne0 (by rw [hb, e]))
  refine ⟨rfl, pv, _, ⟨by rw [List.length_set]; exact HS.out.2, ?_⟩, on2, rfl, N2.out.2.2.2⟩
  rw [e1, e2]
  exact ⟨hN, r1, r2⟩

theorem drop_c (base : Nat) (w : World) (g i : Nat) (sl : List (Slot Nat)) (ow : Option Addr) (pv kv : Value) (s : Slot Nat) (h : InO base w g sl ow pv kv) (hs : sl[i]? = some s) :
    Calls Tryd.prog 43 #[ptr g, .int .i64 i] w fun e w' => e = .returned (.tuple #[]) ∧ ∃ pv' kv', InO base w' g (sl.set i .no) ow pv' kv' ∧ Only (fun k => k = g ∨ pv.ownBlock = some k ∨ kv.ownBlock = some k) w w' ∧ pv'.ownBlock = pv.ownBlock ∧ kv'.ownBlock = kv.ownBlock := by
  cases s with
  | no => exact drop_no base w g i sl ow pv kv h hs
  | pr p => exact drop_pr base w g i sl ow pv kv p h hs
  | kid k => exact drop_kid base w g i sl ow pv kv k h hs
end Go.Proofs.YtclcgelbcbnekaaDoor
