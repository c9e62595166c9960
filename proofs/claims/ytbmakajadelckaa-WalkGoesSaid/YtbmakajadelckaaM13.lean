/- Texts joined. -/
import Derived.Test.YtbmakajadelckaaM12
import Derived.Shelf.SlicesE.Delete
import Derived.Test.YtbmakajadelckaaM00
import Derived.Test.YtbmakajadelckaaM10
import Derived.BigRegion
import Derived.IntWalk
set_option linter.unusedVariables false
set_option linter.unusedSimpArgs false
/- Contract: slices.Delete of one pair. -/
namespace Go.Proofs.Ytbmakajadelckaa
open Go.RowKit Go.QS Go.QS.Nk Go.Shelf
set_option linter.unusedVariables false

theorem run_clear_pair {P : Program} (w : World) (t e ty : TypeId) (z : Value) (ht : P.underlying t = some (.slice e)) (hv : ∀ w, (zeroValue e).run P w = .ok z w) (hz : z.cells = #[str [], str []]) (b o c : Nat)
    (hc : ∀ j, j < 2 → (w.cell? ⟨b, o + j, none⟩).isSome = true) (hf : ∀ j, j < 2 → w.frozen? ⟨b, o + j, none⟩ = false) :
    (Builtin.clear_ #[t] ty #[.slice (some ⟨b, o, none⟩) 1 c]).run P w = .ok (.tuple #[]) (w.setCells b o [str [], str []]) := by
  have hzc : (Builtin.zeroCells z.cells 1).toList = [str [], str []] := by
    rw [hz]
    simp only [Builtin.zeroCells]
    apply List.ext_getElem
    · simp
    · intro i h1 h2
      have h2' : i < 2 := h2
      match i, h2' with
      | 0, _ => simp
      | 1, _ => simp
  have hst := run_storeCells_cells (P := P) b o [str [], str []] 0 w (by simpa using hc) (by simpa using hf) (by intro v hv'; simp at hv'; subst hv'; rfl)
  simp only [Nat.add_zero] at hst
  simp [Builtin.clear_, run_underlying ht, hv, hzc, hst]

set_option maxRecDepth 100000 in
set_option maxHeartbeats 1000000 in
theorem pdelete_c (base : Nat) (w : World) (v : Value) (l : List Pr) (i : Nat) (h : w.ownsRow base PP 2 v l.length (flat l)) (hi : i < l.length) (h9 : l.length ≤ 1000000000) :
    Calls Try.prog 129 #[v, .int .i64 i, .int .i64 ((i + 1 : Nat) : Int)] w fun e w' => ∃ v', e = .returned v' ∧ w'.ownsRow base PP 2 v' (l.take i ++ l.drop (i + 1)).length (flat (l.take i ++ l.drop (i + 1))) ∧ w.grownBy w' v.ownBlock ∧ v'.ownBlock = v.ownBlock := by
  rcases h.2 with ⟨rfl, h0⟩ | ⟨g, cap, cur, rfl, hg, hh, hnc, hcm, hsz, htk⟩
  · omega
  · have mixed : Try.prog.follows .mixedOrders = true := by kernel_rfl
    obtain ⟨n, hn⟩ : ∃ n, n = l.length := ⟨_, rfl⟩
    obtain ⟨m, hm⟩ : ∃ m, m = n - (i + 1) := ⟨_, rfl⟩
    have hpl := flat_length l
    rw [← hn] at hpl hnc htk hi h9
    obtain ⟨news, hnews⟩ : ∃ news, news = (flat l).drop ((i + 1) * 2) := ⟨_, rfl⟩
    have hlen : news.length = m * 2 := by rw [hnews, List.length_drop, hpl]; omega
    have hcs : ∀ j u, (flat l)[j]? = some u → w.cell? ⟨g, j, none⟩ = some u := by
      intro j u hj
      rw [seg_of_heap hh, ← Array.getElem?_toList]
      rw [← htk, List.getElem?_take] at hj
      split at hj
      · exact hj
      · cases hj
    obtain ⟨A, hA, hsrc⟩ : ∃ A : Addr, (if cap = i + 1 then (some ⟨g, 0, none⟩ : Option Addr) else some ⟨g, (i + 1) * 2, none⟩) = some A ∧ Hid (∀ t u, news[t]? = some u → w.drew.cell? (A.add t) = some u) := by
      by_cases hc : cap = i + 1
      · refine ⟨⟨g, 0, none⟩, by simp [hc], fun t u hu => ?_⟩
        have h0 : news.length = 0 := by rw [hlen]; omega
        rw [List.length_eq_zero_iff.1 h0] at hu
        simp at hu
      · refine ⟨⟨g, (i + 1) * 2, none⟩, by simp [hc], fun t u hu => ?_⟩
        rw [Addr.add_lit]
        refine hcs _ u ?_
        rw [hnews, List.getElem?_drop] at hu
        exact hu
    have s1 : Hid (news.length = m * 2) := hlen
    have s2 : Hid (∀ u ∈ news, u.oneCell' = true) := by
      intro u hu
      rw [hnews] at hu
      exact flat_one l u (List.mem_of_mem_drop hu)
    have hisS : ∀ t, t < cap * 2 → (w.cell? ⟨g, t, none⟩).isSome = true := fun t ht => by rw [seg_of_heap hh, Array.getElem?_eq_getElem (by omega)]; rfl
    have hfz : ∀ t, w.frozen? ⟨g, t, none⟩ = false := fun t => by simp [World.frozen?, hh]
    have s3 : Hid (∀ t, t < news.length → (w.drew.cell? ⟨g, 0 + i * 2 + t, none⟩).isSome = true ∧ w.drew.frozen? ⟨g, 0 + i * 2 + t, none⟩ = false) := by
      intro t ht
      rw [hlen] at ht
      exact ⟨hisS _ (by omega), hfz _⟩
    obtain ⟨W1, hW1⟩ : ∃ W1, W1 = w.drew.setCells g (0 + i * 2) news := ⟨_, rfl⟩
    obtain ⟨c1, k1, k2, k3⟩ := heap_setCells g PP (0, 0) news (0 + i * 2) w.drew cur hh (by rw [hlen]; omega)
    rw [← hW1] at k1
    have hcl : ∀ ty, (Builtin.clear_ #[27] ty #[.slice (some ⟨g, (i + m) * 2, none⟩) (n - (i + m)) (cap - (i + m))]).run Try.prog W1 = .ok (.tuple #[]) (W1.setCells g ((i + m) * 2) [str [], str []]) := fun ty => by
      rw [show n - (i + m) = 1 by omega]
      exact run_clear_pair W1 _ _ ty zP Try.underlying27 Try.zeroValue40 rfl g ((i + m) * 2) _ (fun t ht => by rw [seg_of_heap k1, Array.getElem?_eq_getElem (by omega)]; rfl) (fun t ht => by simp [World.frozen?, k1])
    obtain ⟨c2, j1, j2, j3⟩ := heap_setCells g PP (0, 0) [str [], str []] ((i + m) * 2) W1 c1 k1 (by simp; omega)
    have HFIN : Hid ((W1.setCells g ((i + m) * 2) [str [], str []]).ownsRow base PP 2 (.slice (some ⟨g, 0, none⟩) (i + m) cap) (l.take i ++ l.drop (i + 1)).length (flat (l.take i ++ l.drop (i + 1))) ∧ w.grownBy (W1.setCells g ((i + m) * 2) [str [], str []]) (some g)) := by
      have hl1 : cur.toList.length = cap * 2 := by simpa using hsz
      have hll : (l.take i ++ l.drop (i + 1)).length = i + m := by simp; omega
      have hfl : flat (l.take i ++ l.drop (i + 1)) = (flat l).take (i * 2) ++ news := by rw [flat_append, flat_take, flat_drop, hnews]
      have e1 : c1.toList.take ((i + m) * 2) = (flat l).take (i * 2) ++ news := by
        rw [k3, Nat.zero_add]
        have e2 : cur.toList.take (i * 2) = (flat l).take (i * 2) := by rw [← htk, List.take_take, Nat.min_eq_left (by omega)]
        rw [e2, List.take_append_of_le_length (by simp [hlen, hpl]; omega), List.take_of_length_le (by simp [hlen, hpl]; omega)]
      refine Lib.hid ⟨⟨by rw [flat_length], .inr ⟨g, cap, c2, by rw [hll], hg, j1, by omega, hcm, by omega, ?_⟩⟩, ?_⟩
      · rw [hll, hfl, j3, e1, List.append_assoc, List.take_append_of_le_length (by simp [hlen, hpl]; omega), List.take_of_length_le (by simp [hlen, hpl]; omega)]
      · rw [hW1]
        exact World.grownBy.trans (grown_ext' (Ext.refl w).drew) (World.grownBy.trans (grown_setCells g _ _ _) (grown_setCells g _ _ _))
    have hW : Hid (W1 = w.drew.setCells g (0 + i * 2) news) := hW1
    have hic : i ≤ cap := by omega
    have hjc : i + 1 ≤ cap := by omega
    have hin : i + 1 ≤ n := by omega
    have hin2 : (i : Int) + 1 ≤ (n : Int) := by omega
    have hin0 : (0 : Int) ≤ (i : Int) + 1 := by omega
    have hine : ¬ ((i : Int) = ((i + 1 : Nat) : Int)) := by omega
    have hmm : n - (i + 1) = m := hm.symm
    have hcim : ¬ (cap = i + m) := by omega
    obtain ⟨i0, z0, hi0, hz0, hz1, hz2, hz3⟩ := infoPQ
    rw [← hn]
    have hcm' : cap ≤ 9223372036854775807 := by unfold maxLen at hcm; omega
    clear hW1 k1 k2 k3 j1 j2 j3 hlen hcs hisS hfz hn hm hpl htk hh hnews hsz h
    go_enter Try.func129, Try.ntmps129
    go_wp2_with fail
    go_region_law_o (refine step_append_room rfl (.tmp 22) (.tmp 25) 27 rfl PP i0 2 Try.underlying27 hi0 hz1 g 0 i cap (by simp [Act.eval, Act.put]) A m (cap - (i + 1)) news (by simp [Act.eval, Act.put]) s1.out hsrc.out s2.out (by omega) s3.out ?_; rw [← hW.out])
    go_wp2
    go_ret
    exact ⟨_, rfl, HFIN.out.1, HFIN.out.2, rfl⟩
end Go.Proofs.Ytbmakajadelckaa
/- Pieces of a function's code. No program. -/
namespace Go.QS.Nk
open Go
def lead : Code → Option Nat
  | .region id _ _ => some id
  | .seq a _ => lead a
  | _ => none
def findS (n : Nat) : Code → Option Code
  | .region id ops d => if id = n then some (.region id ops d) else none
  | .seq a b => if lead a = some n then some (.seq a b) else match findS n a with | some c => some c | none => findS n b
  | .cond _ a b => match findS n a with | some c => some c | none => findS n b
  | .block _ b => findS n b
  | .loop b => findS n b
  | .scope b => findS n b
  | _ => none
def findT (n : Nat) : Code → Option Code
  | .seq a b => match a with
    | .region id _ _ => if id = n then some b else findT n b
    | _ => match findT n a with | some c => some c | none => findT n b
  | .cond _ a b => match findT n a with | some c => some c | none => findT n b
  | .block _ b => findT n b
  | .loop b => findT n b
  | .scope b => findT n b
  | _ => none
def findR (n : Nat) : Code → Option Code
  | .region id ops d => if id = n then some (.region id ops d) else none
  | .seq a b => match findR n a with | some c => some c | none => findR n b
  | .cond _ a b => match findR n a with | some c => some c | none => findR n b
  | .block _ b => findR n b
  | .loop b => findR n b
  | .scope b => findR n b
  | _ => none

end Go.QS.Nk
/- Contract: a chunk of a node of one's own is emptied (its slots' drop). -/
namespace Go.Proofs.Ytbmakajadelckaa
open Go.RowKit Go.QS Go.QS.Nk
set_option linter.unusedVariables false

/-- An inner node, its rows its own. -/
def InO (base : Nat) (w : World) (g : Nat) (sl : List (Slot Nat)) (ow : Option Addr) (pv kv : Value) : Prop := sl.length = 32 ∧ NdO ND NP NK base w g (dataOf sl) (nodesOf sl) (prsOf sl) (kdsOf sl) false ow pv kv
theorem only_set2 (w : World) (g a b : Nat) (u v : Value) : Only (fun k => k = g) w ((w.setCell ⟨g, a, none⟩ u).setCell ⟨g, b, none⟩ v) := (Only.setCell (S := fun k => k = g) (Only.setCell (S := fun k => k = g) (Only.refl w) (p := ⟨g, a, none⟩) (.inl rfl) u) (p := ⟨g, b, none⟩) (.inl rfl) v)
theorem clr_eq {f : Slot Nat → Bool} {sl : List (Slot Nat)} {i : Nat} (h : sl.length = 32) (hi : i < 32) {s : Slot Nat} (hs : f s = false) : clr (bitsOf f sl) i = bitsOf f (sl.set i s) := by
  apply Nat.eq_of_testBit_eq
  intro j
  rw [clr_bit _ _ _ (bits32 f h), bits_off f (by omega) hs]

set_option maxRecDepth 100000 in
set_option maxHeartbeats 2000000 in
theorem drop_6 (wr : World) (g i d n : Nat) (pv kv : Value) (bk : Bool) (ow : Option Addr) (h : NdAt ND wr g d n pv kv bk ow) (hd9 : d < 4294967296) (hn9 : n < 4294967296) (hi : i < 32) (c : Code) (Q : Exit → Act → World → Prop) (t2 t3 t4 t5 t6 t7 t8 t9 t10 t11 t12 t13 t14 t15 t16 t17 t18 t19 t20 t21 t22 t23 t24 t25 t26 t27 t28 t29 t30 t31 t32 t33 t34 t35 t36 t37 t38 t39 t40 t41 t42 t43 t44 t45 t46 t47 t48 t49 t50 t51 t52 t53 t54 t55 t56 t57 t58 t59 t60 t61 t62 t63 t64 t65 t66 t67 t68 t69 : Value)
    (hc : (Try.f113.body.bind (findR 6)) = some c)
    (hQ : ∀ (u52 u53 u54 u55 u56 u57 u58 u59 u60 u61 u62 u63 u64 u65 u66 u67 u68 u69 : Value) (wx : World), NdAt ND wx g (clr d i) (clr n i) pv kv bk ow → Only (fun k => k = g) wr wx → Q .normal { tmps := List.toArray ((ptr g) :: (.int .i64 i) :: t2 :: t3 :: t4 :: t5 :: t6 :: t7 :: t8 :: t9 :: t10 :: t11 :: t12 :: t13 :: t14 :: t15 :: t16 :: t17 :: t18 :: t19 :: t20 :: t21 :: t22 :: t23 :: t24 :: t25 :: t26 :: t27 :: t28 :: t29 :: t30 :: t31 :: t32 :: t33 :: t34 :: t35 :: t36 :: t37 :: t38 :: t39 :: t40 :: t41 :: t42 :: t43 :: t44 :: t45 :: t46 :: t47 :: t48 :: t49 :: t50 :: t51 :: u52 :: u53 :: u54 :: u55 :: u56 :: u57 :: u58 :: u59 :: u60 :: u61 :: u62 :: u63 :: u64 :: u65 :: u66 :: u67 :: u68 :: u69 :: []), defers := [] } wx) :
    c.wp Try.prog Q { tmps := List.toArray ((ptr g) :: (.int .i64 i) :: t2 :: t3 :: t4 :: t5 :: t6 :: t7 :: t8 :: t9 :: t10 :: t11 :: t12 :: t13 :: t14 :: t15 :: t16 :: t17 :: t18 :: t19 :: t20 :: t21 :: t22 :: t23 :: t24 :: t25 :: t26 :: t27 :: t28 :: t29 :: t30 :: t31 :: t32 :: t33 :: t34 :: t35 :: t36 :: t37 :: t38 :: t39 :: t40 :: t41 :: t42 :: t43 :: t44 :: t45 :: t46 :: t47 :: t48 :: t49 :: t50 :: t51 :: t52 :: t53 :: t54 :: t55 :: t56 :: t57 :: t58 :: t59 :: t60 :: t61 :: t62 :: t63 :: t64 :: t65 :: t66 :: t67 :: t68 :: t69 :: []), defers := [] } wr := by
  change some _ = some c at hc
  cases hc
  have HQF := Lib.hid hQ
  clear hQ
  have hf := h.free
  obtain ⟨c0, c1, c2, c3, c4, c5⟩ := h.cells
  have HN := Lib.hid h
  clear h c2 c3 c4 c5
  refine wp_region_noPanic ?_
  go_region_with (first
    | (go_at_call 131; ((with_reducible refine (without_c _ d i hd9 hi).mono ?_); rintro e x1 ⟨rfl, rfl⟩))
    | (go_at_call 131; ((with_reducible refine (without_c _ n i hn9 hi).mono ?_); rintro e x1 ⟨rfl, rfl⟩)))
  all_goals
    refine NoPanic.normal ?_
    refine HQF.out _ _ _ _ _ _ _ _ _ _ _ _ _ _ _ _ _ _ _ ?_ ?_
    · first | exact (HN.out.set0 _).set1 _ | exact (HN.out.set1 _).set0 _
    · first | exact Only.drew (only_set2 wr g _ _ _ _) | exact only_set2 wr g _ _ _ _


end Go.Proofs.Ytbmakajadelckaa
/- Contract: a node of one's own: a chunk is emptied: its three ways. -/
namespace Go.Proofs.Ytbmakajadelckaa
open Go.RowKit Go.QS Go.QS.Nk
set_option linter.unusedVariables false

set_option maxRecDepth 100000 in
set_option maxHeartbeats 2000000 in
theorem drop_no (base : Nat) (w : World) (g i : Nat) (sl : List (Slot Nat)) (ow : Option Addr) (pv kv : Value) (h : InO base w g sl ow pv kv) (hs : sl[i]? = some (.no)) :
    Calls Try.prog 113 #[ptr g, .int .i64 i] w fun e w' => e = .returned (.tuple #[]) ∧ ∃ pv' kv', InO base w' g (sl.set i .no) ow pv' kv' ∧ Only (fun k => k = g ∨ pv.ownBlock = some k ∨ kv.ownBlock = some k) w w' ∧ pv'.ownBlock = pv.ownBlock ∧ kv'.ownBlock = kv.ownBlock := by
  have hi : i < 32 := by have := get_lt hs; rw [h.1] at this; exact this
  have hz : dataOf sl < 4294967296 ∧ nodesOf sl < 4294967296 := ⟨bits32 _ h.1, bits32 _ h.1⟩
  have hp32 := prsOf_len sl
  have hk32 := kdsOf_len sl
  rw [h.1] at hp32 hk32
  obtain ⟨d, hd⟩ : ∃ d, d = dataOf sl := ⟨_, rfl⟩
  obtain ⟨n, hn⟩ : ∃ n, n = nodesOf sl := ⟨_, rfl⟩
  have HB : Hid (d.testBit i = false ∧ n.testBit i = false ∧ clr d i = dataOf (sl.set i .no) ∧ clr n i = nodesOf (sl.set i .no) ∧ rnk d i = rkP sl i ∧ rnk n i = rkK sl i) := Lib.hid ⟨by rw [hd]; exact bit_at Slot.isP hs, by rw [hn]; exact bit_at Slot.isK hs, by rw [hd, clr_eq h.1 hi (s := .no) rfl], by rw [hn, clr_eq h.1 hi (s := .no) rfl], by rw [hd]; exact rk_data (by rw [h.1]; decide) i, by rw [hn]; exact rk_nodes (by rw [h.1]; decide) i⟩
  have h2 := h.2
  rw [← hd, ← hn] at h2 hz
  obtain ⟨hd9, hn9⟩ := hz
  obtain ⟨c0, c1, c2, c3, c4, c5⟩ := h2.node.cells
  have hf := h2.node.free
  have HN := Lib.hid h2
  have HS := Lib.hid (And.intro hs h.1)
  clear h h2 hd hn hs
  go_enter Try.func113, Try.ntmps113
  repeat' (first | go_at_call 77 | go_skip | go_guarded | go_step)
  refine (has_c _ d i hd9 hi).mono ?_
  rintro e w1 ⟨rfl, rfl⟩
  rw [HB.out.1]
  go_simp
  repeat' (first | go_at_call 77 | go_skip | go_guarded | go_step)
  refine (has_c _ n i hn9 hi).mono ?_
  rintro e w9 ⟨rfl, rfl⟩
  rw [HB.out.2.1]
  go_simp
  repeat' (go_not_at_region 6; (first | go_skip | go_guarded | go_step))
  refine drop_6 w g i d n pv kv false ow HN.out.node hd9 hn9 hi _ _ _ _ _ _ _ _ _ _ _ _ _ _ _ _ _ _ _ _ _ _ _ _ _ _ _ _ _ _ _ _ _ _ _ _ _ _ _ _ _ _ _ _ _ _ _ _ _ _ _ _ _ _ _ _ _ _ _ _ _ _ _ _ _ _ _ _ _ _ (by kernel_rfl) ?_
  intro z52 z53 z54 z55 z56 z57 z58 z59 z60 z61 z62 z63 z64 z65 z66 z67 z68 z69 wx hN hO
  have HX := Lib.hid (And.intro hN hO)
  clear hN hO
  repeat' (first | go_skip | go_guarded | go_step)
  first | refine bodyPost_ret (results_none rfl _ _ _) rfl ?_ | refine bodyPost_end (results_none rfl _ _ _) rfl ?_
  obtain ⟨hN, hO⟩ := HX.out
  refine ⟨rfl, pv, kv, ⟨by rw [List.length_set]; exact HS.out.2, ?_⟩, hO.mono (fun j _ h => .inl h), rfl, rfl⟩
  have e1 := prs_set_nn HS.out.1 rfl (s := .no) rfl
  have e2 := kds_set_nn HS.out.1 rfl (s := .no) rfl
  rw [HB.out.2.2.1, HB.out.2.2.2.1] at hN
  rw [e1, e2]
  exact ⟨hN, hO.own HN.out.pairs (fun b hb e => own_block_ne HN.out.pairs HN.out.node (by decide) (e ▸ hb)), hO.own HN.out.kids (fun b hb e => own_block_ne HN.out.kids HN.out.node (by decide) (e ▸ hb))⟩

set_option maxRecDepth 100000 in
set_option maxHeartbeats 2000000 in
theorem drop_pr (base : Nat) (w : World) (g i : Nat) (sl : List (Slot Nat)) (ow : Option Addr) (pv kv : Value) (p : Pr) (h : InO base w g sl ow pv kv) (hs : sl[i]? = some (.pr p)) :
    Calls Try.prog 113 #[ptr g, .int .i64 i] w fun e w' => e = .returned (.tuple #[]) ∧ ∃ pv' kv', InO base w' g (sl.set i .no) ow pv' kv' ∧ Only (fun k => k = g ∨ pv.ownBlock = some k ∨ kv.ownBlock = some k) w w' ∧ pv'.ownBlock = pv.ownBlock ∧ kv'.ownBlock = kv.ownBlock := by
  have hi : i < 32 := by have := get_lt hs; rw [h.1] at this; exact this
  have hz : dataOf sl < 4294967296 ∧ nodesOf sl < 4294967296 := ⟨bits32 _ h.1, bits32 _ h.1⟩
  have hp32 := prsOf_len sl
  have hk32 := kdsOf_len sl
  rw [h.1] at hp32 hk32
  obtain ⟨d, hd⟩ : ∃ d, d = dataOf sl := ⟨_, rfl⟩
  obtain ⟨n, hn⟩ : ∃ n, n = nodesOf sl := ⟨_, rfl⟩
  have HB : Hid (d.testBit i = true ∧ n.testBit i = false ∧ clr d i = dataOf (sl.set i .no) ∧ clr n i = nodesOf (sl.set i .no) ∧ rnk d i = rkP sl i ∧ rnk n i = rkK sl i) := Lib.hid ⟨by rw [hd]; exact bit_at Slot.isP hs, by rw [hn]; exact bit_at Slot.isK hs, by rw [hd, clr_eq h.1 hi (s := .no) rfl], by rw [hn, clr_eq h.1 hi (s := .no) rfl], by rw [hd]; exact rk_data (by rw [h.1]; decide) i, by rw [hn]; exact rk_nodes (by rw [h.1]; decide) i⟩
  have h2 := h.2
  rw [← hd, ← hn] at h2 hz
  obtain ⟨hd9, hn9⟩ := hz
  obtain ⟨c0, c1, c2, c3, c4, c5⟩ := h2.node.cells
  have hf := h2.node.free
  have HN := Lib.hid h2
  have HS := Lib.hid (And.intro hs h.1)
  clear h h2 hd hn hs
  have hrl : rkP sl i < (prsOf sl).length := (List.getElem?_eq_some_iff.1 (prs_at HS.out.1)).1
  obtain ⟨r, hr⟩ : ∃ r, r = rkP sl i := ⟨_, rfl⟩
  rw [← hr] at hrl
  have HR := Lib.hid hr
  have hr32 : r < 32 := by omega
  have hs1 : IntKind.i64.wrap ((r : Int) + 1) = ((r + 1 : Nat) : Int) := by rw [show (r : Int) + 1 = ((r + 1 : Nat) : Int) by omega]; exact IntWalk.i64_in _ (by omega)
  clear hr
  go_enter Try.func113, Try.ntmps113
  repeat' (first | go_at_call 77 | go_skip | go_guarded | go_step)
  refine (has_c _ d i hd9 hi).mono ?_
  rintro e w1 ⟨rfl, rfl⟩
  rw [HB.out.1]
  go_simp
  repeat' (first | go_at_call 58 | go_skip | go_guarded | go_step)
  refine (rank_c w d i hd9 hi).mono ?_
  rintro e w1 ⟨rfl, f1⟩
  rw [HB.out.2.2.2.2.1, ← HR.out]
  have N1 := Lib.hid (And.intro (HN.out.ext f1) f1)
  obtain ⟨x0, x1, x2, x3, x4, x5⟩ := N1.out.1.node.cells
  have xf := N1.out.1.node.free
  clear f1 c0 c1 c2 c3 c4 c5 hf
  go_simp
  repeat' (first | go_at_call 129 | go_skip | go_guarded | go_step)
  refine (pdelete_c base w1 pv (prsOf sl) r N1.out.1.pairs hrl (by omega)).mono ?_
  rintro e w2 ⟨v2, rfl, o2, f2, b2⟩
  obtain ⟨q2, hq2⟩ : ∃ q, q = (prsOf sl).take r ++ (prsOf sl).drop (r + 1) := ⟨_, rfl⟩
  rw [← hq2] at o2
  obtain ⟨A2, C2, rfl⟩ := own_slice o2
  have hgne : pv.ownBlock ≠ some g := own_block_ne N1.out.1.pairs N1.out.1.node (by decide)
  have N2 := Lib.hid (And.intro (NdAt.only N1.out.1.node (Only.of_grown f2) hgne) (And.intro o2 (And.intro f2 b2)))
  obtain ⟨y0, y1, y2, y3, y4, y5⟩ := N2.out.1.cells
  have yf := N2.out.1.free
  have HG := Lib.hid (And.intro hgne hq2)
  clear o2 f2 b2 x0 x1 x2 x3 x4 x5 xf hgne hq2
  go_simp
  repeat' (first | go_at_call 77 | go_skip | go_guarded | go_step)
  refine (has_c _ n i hn9 hi).mono ?_
  rintro e w9 ⟨rfl, rfl⟩
  rw [HB.out.2.1]
  go_simp
  repeat' (go_not_at_region 6; (first | go_skip | go_guarded | go_step))
  refine drop_6 (w2.setCell ⟨g, 2, none⟩ (.slice A2 q2.length C2)) g i d n (.slice A2 q2.length C2) kv false ow (N2.out.1.set2 _) hd9 hn9 hi _ _ _ _ _ _ _ _ _ _ _ _ _ _ _ _ _ _ _ _ _ _ _ _ _ _ _ _ _ _ _ _ _ _ _ _ _ _ _ _ _ _ _ _ _ _ _ _ _ _ _ _ _ _ _ _ _ _ _ _ _ _ _ _ _ _ _ _ _ _ (by kernel_rfl) ?_
  intro z52 z53 z54 z55 z56 z57 z58 z59 z60 z61 z62 z63 z64 z65 z66 z67 z68 z69 wx hN hO
  have HX := Lib.hid (And.intro hN hO)
  clear hN hO
  repeat' (first | go_skip | go_guarded | go_step)
  first | refine bodyPost_ret (results_none rfl _ _ _) rfl ?_ | refine bodyPost_end (results_none rfl _ _ _) rfl ?_
  obtain ⟨hN, hO⟩ := HX.out
  have hne0 : kv.ownBlock ≠ some g := own_block_ne HN.out.kids HN.out.node (by decide)
  have hnep : pv.ownBlock ≠ some g := HG.out.1
  have on1 : Only (fun k => k = g ∨ pv.ownBlock = some k ∨ kv.ownBlock = some k) w w2 := (Only.of_ext N1.out.2).trans ((Only.of_grown N2.out.2.2.1).mono fun j _ hj => .inr (.inl hj))
  have on2 : Only (fun k => k = g ∨ pv.ownBlock = some k ∨ kv.ownBlock = some k) w wx := (on1.setCell (p := ⟨g, 2, none⟩) (.inl (.inl rfl)) _).trans (hO.mono fun j _ hj => .inl hj)
  have e1 := prs_set_pn HS.out.1 (s := .no) rfl
  have e2 := kds_set_nn HS.out.1 rfl (s := .no) rfl
  rw [← HR.out, ← HG.out.2] at e1
  rw [HB.out.2.2.1, HB.out.2.2.2.1] at hN
  have r2 := hO.own (own_other N2.out.2.1 N2.out.1 (by decide) 2 (.slice A2 q2.length C2)) (fun b hb e => by
    subst e
    rw [show (Value.slice A2 q2.length C2).ownBlock = pv.ownBlock from N2.out.2.2.2] at hb
    exact hnep hb)
  have o1 := (Only.of_grown N2.out.2.2.1).own (HN.out.ext N1.out.2).kids (fun b hb e => by
    rcases N1.out.1.pairs.2 with ⟨h, _⟩ | ⟨g', cap, cur, h1, h2, h3, h4⟩
    · rw [h] at e; cases e
    · rw [h1] at e
      cases e
      exact own_block_ne N1.out.1.kids h3 (by decide) hb)
  have r1 := hO.own (own_other o1 N2.out.1 (by decide) 2 (.slice A2 q2.length C2)) (fun b hb e => hne0 (by rw [hb, e]))
  refine ⟨rfl, _, kv, ⟨by rw [List.length_set]; exact HS.out.2, ?_⟩, on2, N2.out.2.2.2, rfl⟩
  rw [e1, e2]
  exact ⟨hN, r2, r1⟩

set_option maxRecDepth 100000 in
set_option maxHeartbeats 2000000 in
theorem drop_kid (base : Nat) (w : World) (g i : Nat) (sl : List (Slot Nat)) (ow : Option Addr) (pv kv : Value) (k : Nat) (h : InO base w g sl ow pv kv) (hs : sl[i]? = some (.kid k)) :
    Calls Try.prog 113 #[ptr g, .int .i64 i] w fun e w' => e = .returned (.tuple #[]) ∧ ∃ pv' kv', InO base w' g (sl.set i .no) ow pv' kv' ∧ Only (fun k => k = g ∨ pv.ownBlock = some k ∨ kv.ownBlock = some k) w w' ∧ pv'.ownBlock = pv.ownBlock ∧ kv'.ownBlock = kv.ownBlock := by
  have hi : i < 32 := by have := get_lt hs; rw [h.1] at this; exact this
  have hz : dataOf sl < 4294967296 ∧ nodesOf sl < 4294967296 := ⟨bits32 _ h.1, bits32 _ h.1⟩
  have hp32 := prsOf_len sl
  have hk32 := kdsOf_len sl
  rw [h.1] at hp32 hk32
  obtain ⟨d, hd⟩ : ∃ d, d = dataOf sl := ⟨_, rfl⟩
  obtain ⟨n, hn⟩ : ∃ n, n = nodesOf sl := ⟨_, rfl⟩
  have HB : Hid (d.testBit i = false ∧ n.testBit i = true ∧ clr d i = dataOf (sl.set i .no) ∧ clr n i = nodesOf (sl.set i .no) ∧ rnk d i = rkP sl i ∧ rnk n i = rkK sl i) := Lib.hid ⟨by rw [hd]; exact bit_at Slot.isP hs, by rw [hn]; exact bit_at Slot.isK hs, by rw [hd, clr_eq h.1 hi (s := .no) rfl], by rw [hn, clr_eq h.1 hi (s := .no) rfl], by rw [hd]; exact rk_data (by rw [h.1]; decide) i, by rw [hn]; exact rk_nodes (by rw [h.1]; decide) i⟩
  have h2 := h.2
  rw [← hd, ← hn] at h2 hz
  obtain ⟨hd9, hn9⟩ := hz
  obtain ⟨c0, c1, c2, c3, c4, c5⟩ := h2.node.cells
  have hf := h2.node.free
  have HN := Lib.hid h2
  have HS := Lib.hid (And.intro hs h.1)
  clear h h2 hd hn hs
  have hrl : rkK sl i < (kdsOf sl).length := (List.getElem?_eq_some_iff.1 (kds_at HS.out.1)).1
  obtain ⟨r, hr⟩ : ∃ r, r = rkK sl i := ⟨_, rfl⟩
  rw [← hr] at hrl
  have HR := Lib.hid hr
  have hr32 : r < 32 := by omega
  have hs1 : IntKind.i64.wrap ((r : Int) + 1) = ((r + 1 : Nat) : Int) := by rw [show (r : Int) + 1 = ((r + 1 : Nat) : Int) by omega]; exact IntWalk.i64_in _ (by omega)
  clear hr
  go_enter Try.func113, Try.ntmps113
  repeat' (first | go_at_call 77 | go_skip | go_guarded | go_step)
  refine (has_c _ d i hd9 hi).mono ?_
  rintro e w1 ⟨rfl, rfl⟩
  rw [HB.out.1]
  go_simp
  repeat' (first | go_at_call 77 | go_skip | go_guarded | go_step)
  refine (has_c _ n i hn9 hi).mono ?_
  rintro e w9 ⟨rfl, rfl⟩
  rw [HB.out.2.1]
  go_simp
  repeat' (first | go_at_call 58 | go_skip | go_guarded | go_step)
  refine (rank_c w n i hn9 hi).mono ?_
  rintro e w1 ⟨rfl, f1⟩
  rw [HB.out.2.2.2.2.2, ← HR.out]
  have N1 := Lib.hid (And.intro (HN.out.ext f1) f1)
  obtain ⟨x0, x1, x2, x3, x4, x5⟩ := N1.out.1.node.cells
  have xf := N1.out.1.node.free
  clear f1 c0 c1 c2 c3 c4 c5 hf
  go_simp
  repeat' (first | go_at_call 130 | go_skip | go_guarded | go_step)
  refine (kdelete_c base w1 kv (kdsOf sl) r N1.out.1.kids hrl (by omega)).mono ?_
  rintro e w2 ⟨v2, rfl, o2, f2, b2⟩
  obtain ⟨q2, hq2⟩ : ∃ q, q = (kdsOf sl).take r ++ (kdsOf sl).drop (r + 1) := ⟨_, rfl⟩
  rw [← hq2] at o2
  obtain ⟨A2, C2, rfl⟩ := own_slice o2
  have hgne : kv.ownBlock ≠ some g := own_block_ne N1.out.1.kids N1.out.1.node (by decide)
  have N2 := Lib.hid (And.intro (NdAt.only N1.out.1.node (Only.of_grown f2) hgne) (And.intro o2 (And.intro f2 b2)))
  obtain ⟨y0, y1, y2, y3, y4, y5⟩ := N2.out.1.cells
  have yf := N2.out.1.free
  have HG := Lib.hid (And.intro hgne hq2)
  clear o2 f2 b2 x0 x1 x2 x3 x4 x5 xf hgne hq2
  go_simp
  repeat' (go_not_at_region 6; (first | go_skip | go_guarded | go_step))
  refine drop_6 (w2.setCell ⟨g, 3, none⟩ (.slice A2 q2.length C2)) g i d n pv (.slice A2 q2.length C2) false ow (N2.out.1.set3 _) hd9 hn9 hi _ _ _ _ _ _ _ _ _ _ _ _ _ _ _ _ _ _ _ _ _ _ _ _ _ _ _ _ _ _ _ _ _ _ _ _ _ _ _ _ _ _ _ _ _ _ _ _ _ _ _ _ _ _ _ _ _ _ _ _ _ _ _ _ _ _ _ _ _ _ (by kernel_rfl) ?_
  intro z52 z53 z54 z55 z56 z57 z58 z59 z60 z61 z62 z63 z64 z65 z66 z67 z68 z69 wx hN hO
  have HX := Lib.hid (And.intro hN hO)
  clear hN hO
  repeat' (first | go_skip | go_guarded | go_step)
  first | refine bodyPost_ret (results_none rfl _ _ _) rfl ?_ | refine bodyPost_end (results_none rfl _ _ _) rfl ?_
  obtain ⟨hN, hO⟩ := HX.out
  have hne0 : pv.ownBlock ≠ some g := own_block_ne HN.out.pairs HN.out.node (by decide)
  have hnep : kv.ownBlock ≠ some g := HG.out.1
  have on1 : Only (fun k => k = g ∨ pv.ownBlock = some k ∨ kv.ownBlock = some k) w w2 := (Only.of_ext N1.out.2).trans ((Only.of_grown N2.out.2.2.1).mono fun j _ hj => .inr (.inr hj))
  have on2 : Only (fun k => k = g ∨ pv.ownBlock = some k ∨ kv.ownBlock = some k) w wx := (on1.setCell (p := ⟨g, 3, none⟩) (.inl (.inl rfl)) _).trans (hO.mono fun j _ hj => .inl hj)
  have e1 := kds_set_kn HS.out.1 (s := .no) rfl
  have e2 := prs_set_nn HS.out.1 rfl (s := .no) rfl
  rw [← HR.out, ← HG.out.2] at e1
  rw [HB.out.2.2.1, HB.out.2.2.2.1] at hN
  have r2 := hO.own (own_other N2.out.2.1 N2.out.1 (by decide) 3 (.slice A2 q2.length C2)) (fun b hb e => by
    subst e
    rw [show (Value.slice A2 q2.length C2).ownBlock = kv.ownBlock from N2.out.2.2.2] at hb
    exact hnep hb)
  have o1 := (Only.of_grown N2.out.2.2.1).own (HN.out.ext N1.out.2).pairs (fun b hb e => by
    rcases N1.out.1.kids.2 with ⟨h, _⟩ | ⟨g', cap, cur, h1, h2, h3, h4⟩
    · rw [h] at e; cases e
    · rw [h1] at e
      cases e
      exact own_block_ne N1.out.1.pairs h3 (by decide) hb)
  have r1 := hO.own (own_other o1 N2.out.1 (by decide) 3 (.slice A2 q2.length C2)) (fun b hb e => hne0 (by rw [hb, e]))
  refine ⟨rfl, pv, _, ⟨by rw [List.length_set]; exact HS.out.2, ?_⟩, on2, rfl, N2.out.2.2.2⟩
  rw [e1, e2]
  exact ⟨hN, r1, r2⟩

theorem drop_c (base : Nat) (w : World) (g i : Nat) (sl : List (Slot Nat)) (ow : Option Addr) (pv kv : Value) (s : Slot Nat) (h : InO base w g sl ow pv kv) (hs : sl[i]? = some s) :
    Calls Try.prog 113 #[ptr g, .int .i64 i] w fun e w' => e = .returned (.tuple #[]) ∧ ∃ pv' kv', InO base w' g (sl.set i .no) ow pv' kv' ∧ Only (fun k => k = g ∨ pv.ownBlock = some k ∨ kv.ownBlock = some k) w w' ∧ pv'.ownBlock = pv.ownBlock ∧ kv'.ownBlock = kv.ownBlock := by
  cases s with
  | no => exact drop_no base w g i sl ow pv kv h hs
  | pr p => exact drop_pr base w g i sl ow pv kv p h hs
  | kid k => exact drop_kid base w g i sl ow pv kv k h hs
end Go.Proofs.Ytbmakajadelckaa
/- Small laws for the node chapter's regions. -/
namespace Go.Proofs.Ytbmakajadelckaa
open Go.RowKit Go.QS Go.QS.Nk
set_option linter.unusedVariables false

theorem ext_alloc {a w : World} (h : Ext a w) (o : Obj) : Ext a (w.alloc o) := h.alloc h.size o
theorem ext_drew {a w : World} (h : Ext a w) : Ext a w.drew := h.drew
theorem Ext.cell' {w w' : World} {a : Addr} {u : Value} (f : Ext w w') (h : w.cell? a = some u) : w'.cell? a = some u := (f.cell (World.block_lt_of_cell? w _ h)).trans h
end Go.Proofs.Ytbmakajadelckaa
