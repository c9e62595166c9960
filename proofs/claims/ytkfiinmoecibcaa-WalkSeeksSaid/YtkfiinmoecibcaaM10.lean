/- Texts joined. -/
import Derived.Test.YtkfiinmoecibcaaNf
import Derived.Shelf.SlicesE.Delete
import Derived.Test.YtkfiinmoecibcaaM00
import Derived.Test.YtkfiinmoecibcaaM08
import Derived.Test.YtkfiinmoecibcaaM09
import Derived.BigRegion
set_option linter.unusedVariables false
set_option linter.unusedSimpArgs false
/- Contract: slices.Insert of one pair into a row of one's own. -/
namespace Go.Proofs.Ytkfiinmoecibcaa
open Go.RowKit Go.QS Go.QS.Nk Go.Lib
set_option linter.unusedVariables false

abbrev PP : TypeId := 40
theorem flat_in (l : List Pr) (i : Nat) (p : Pr) : flat (l.take i ++ p :: l.drop i) = (flat l).take (i * 2) ++ encP p ++ (flat l).drop (i * 2) := by
  rw [flat_append, ← flat_take, ← flat_drop]
  simp [flat]

set_option maxRecDepth 100000 in
theorem pinsert_c (base : Nat) (w : World) (v : Value) (l : List Pr) (i vb : Nat) (p : Pr) (h : w.ownsRow base PP 2 v l.length (flat l)) (hi : i ≤ l.length) (hv : w.heap[vb]? = some (.cells #[str p.1, str p.2] PP (0, 0))) (hne : v.ownBlock ≠ some vb) (h9 : l.length ≤ 1000000000) (hbase : base ≤ w.heap.size) :
    Calls Try.prog 105 #[v, .int .i64 i, .slice (some ⟨vb, 0, none⟩) 1 1] w fun e w' => ∃ v', e = .returned v' ∧ w'.ownsRow base PP 2 v' (l.take i ++ p :: l.drop i).length (flat (l.take i ++ p :: l.drop i)) ∧ w.grownBy w' v.ownBlock ∧ (v'.ownBlock = v.ownBlock ∨ v'.ownBlock = some w.heap.size) := by
  have hlen : (l.take i ++ p :: l.drop i).length = l.length + 1 := by simp; omega
  rw [hlen, flat_in]
  have hvs : ∀ j u, (encP p)[j]? = some u → w.cell? ⟨vb, 0 + j, none⟩ = some u := by
    intro j u hj
    rw [seg_of_heap hv, Nat.zero_add]
    simpa [encP] using hj
  have h1v : ∀ u ∈ encP p, u.oneCell' = true := by intro u hu; simp [encP] at hu; rcases hu with rfl | rfl <;> rfl
  have hpl := flat_length l
  have hel : (encP p).length = 2 := rfl
  rcases Nat.lt_or_ge i l.length with hin | hin
  · rcases h.2 with ⟨rfl, h0⟩ | ⟨g, cap, cur, rfl, hg, hh, hnc, hcm, hsz, htk⟩
    · omega
    · have hcs : ∀ j u, (flat l)[j]? = some u → w.cell? ⟨g, 0 + j, none⟩ = some u := by
        intro j u hj
        rw [seg_of_heap hh, Nat.zero_add, ← Array.getElem?_toList]
        rw [← htk, List.getElem?_take] at hj
        split at hj
        · exact hj
        · cases hj
      have hfz : ∀ j, w.frozen? ⟨g, j, none⟩ = false := fun j => by simp [World.frozen?, hh]
      have hsp : ∀ j, j < cap * 2 → (w.cell? ⟨g, 0 + j, none⟩).isSome = true := by
        intro j hj
        rw [seg_of_heap hh, Nat.zero_add, Array.getElem?_eq_getElem (by omega)]; rfl
      have hgw := heap_lt hh
      have hgb : vb ≠ g := fun e => hne (by rw [e]; rfl)
      have hcm' : cap ≤ 9223372036854775807 := by unfold maxLen at hcm; omega
      have hl1 : cur.toList.length = cap * 2 := by simpa using hsz
      rcases Nat.lt_or_ge cap (l.length + 1) with hroom | hroom
      · refine (pinsert_grow g 0 l.length cap i vb 0 1 1 (flat l) (encP p) w hin (by decide) hnc hroom (by omega) hpl rfl hcs hvs (flat_one _) h1v).mono ?_
        rintro e w' ⟨rfl, rfl⟩
        obtain ⟨G, hG⟩ : ∃ G, G = grownCap w (l.length + 1) cap PP := ⟨_, rfl⟩
        have hG1 : l.length + 1 ≤ G := by rw [hG]; exact grownCap_ge w _ _ _
        have hG2 : G ≤ maxLen := by rw [hG]; exact grownCap_le_maxLen w _ _ _ (by unfold maxLen; omega)
        rw [← hG]
        obtain ⟨R, hR⟩ : ∃ R : Array Value, R = ((flat l).take (i * 2)).toArray ++ Builtin.zeroCells zP.cells (l.length + 1 - i) ++ Builtin.zeroCells zP.cells (G - (l.length + 1)) := ⟨_, rfl⟩
        rw [← hR]
        have hz2 : zP.cells.size = 2 := rfl
        have hRs : R.size = G * 2 := by
          rw [hR]
          simp only [Array.size_append, size_zeroCells, hz2, List.size_toArray, List.length_take, hpl]
          omega
        have hRt : R.toList.take (i * 2) = (flat l).take (i * 2) := by
          rw [hR]
          simp only [Array.toList_append, List.append_assoc]
          rw [List.take_append_of_le_length (by simp only [List.length_take, hpl]; omega), List.take_take, Nat.min_self]
        have hR0 : ((w.alloc (.cells R PP)).drew).heap[w.heap.size]? = some (.cells R PP (0, 0)) := heap_new w _
        have hdl : ((flat l).drop (i * 2)).length = (l.length - i) * 2 := by rw [List.length_drop, hpl]; omega
        obtain ⟨c1, k1, k2, k3⟩ := heap_setCells w.heap.size PP (0, 0) (encP p) (i * 2) _ _ hR0 (by rw [hel]; omega)
        obtain ⟨c2, k4, k5, k6⟩ := heap_setCells w.heap.size PP (0, 0) ((flat l).drop (i * 2)) ((i + 1) * 2) ((((w.alloc (.cells R PP)).drew).setCells w.heap.size (i * 2) (encP p)).drew) _ k1 (by omega)
        refine ⟨_, rfl, ⟨by simp [hel]; omega, .inr ⟨w.heap.size, G, c2, rfl, hbase, k4, hG1, hG2, by omega, ?_⟩⟩, ?_, .inr rfl⟩
        · have e1 : c1.toList.take ((i + 1) * 2) = (flat l).take (i * 2) ++ encP p := by
            rw [k3, hRt]
            rw [List.take_append_of_le_length (by simp [hel]; omega)]
            rw [List.take_of_length_le (by simp [hel]; omega)]
          rw [k6, e1]
          rw [List.take_append_of_le_length (by simp [hel]; omega), List.take_of_length_le (by simp [hel]; omega)]
        · refine (grown_ext' ?_ : w.grownBy _ _)
          exact Go.QS.Nk.below_setCells _ (Nat.le_refl _) _ _ _ (Below.drew (Go.QS.Nk.below_setCells _ (Nat.le_refl _) _ _ _ ((Ext.refl w).alloc (Nat.le_refl _) _).drew))
      · refine (pinsert_shift g 0 l.length cap i vb 0 1 1 (flat l) (encP p) w hin (by decide) hroom hcm' hgb hpl rfl hcs (fun j hj => hsp j (by omega)) (fun j hj => hfz _) hvs (flat_one _) h1v PP PP 2 (cap * 2) (by simp [World.shape?, hv]) (by simp [World.shape?, hh, hsz]) (by omega) (by simp [World.frozen?, hv]) (by simp [World.frozen?, hv])).mono ?_
        rintro e w' ⟨rfl, rfl⟩
        rw [Nat.zero_add, Nat.zero_add]
        have hdl : ((flat l).drop (i * 2)).length = (l.length - i) * 2 := by rw [List.length_drop, hpl]; omega
        obtain ⟨c1, k1, k2, k3⟩ := heap_setCells g PP (0, 0) ((flat l).drop (i * 2)) ((i + 1) * 2) w.drew _ hh (by omega)
        obtain ⟨c2, k4, k5, k6⟩ := heap_setCells g PP (0, 0) (encP p) (i * 2) (w.drew.setCells g ((i + 1) * 2) ((flat l).drop (i * 2))) _ k1 (by rw [hel]; omega)
        refine ⟨_, rfl, ⟨by simp [hel]; omega, .inr ⟨g, cap, c2, rfl, hg, k4, hroom, hcm, by omega, ?_⟩⟩, ?_, .inl rfl⟩
        · have e1 : c1.toList.take (i * 2) = (flat l).take (i * 2) := by
            rw [k3, List.append_assoc, List.take_append_of_le_length (by simp; omega), List.take_take, Nat.min_eq_left (by omega), ← htk, List.take_take, Nat.min_eq_left (by omega)]
          have e2 : c1.toList.drop ((i + 1) * 2) = (flat l).drop (i * 2) ++ cur.toList.drop ((i + 1) * 2 + ((flat l).drop (i * 2)).length) := by
            rw [k3, List.append_assoc]
            exact List.drop_left' (by simp; omega)
          rw [k6, e1, hel, show i * 2 + 2 = (i + 1) * 2 by omega, e2, ← List.append_assoc, List.take_append_of_le_length (by simp [hel]; omega), List.take_of_length_le (by simp [hel]; omega)]
        · exact World.grownBy.trans (grown_ext' (Ext.refl w).drew) (World.grownBy.trans (grown_setCells g _ _ _) (grown_setCells g _ _ _))
  · have hie : i = l.length := by omega
    subst hie
    have ht : (flat l).take (l.length * 2) = flat l := List.take_of_length_le (by rw [hpl]; omega)
    have hd : (flat l).drop (l.length * 2) = [] := List.drop_eq_nil_of_le (by rw [hpl]; omega)
    rw [ht, hd, List.append_nil]
    exact pinsert_end base l.length w v (flat l) (encP p) vb h rfl hvs h1v h9 hbase
end Go.Proofs.Ytkfiinmoecibcaa
/- Contract: slices.Delete of one pair. -/
namespace Go.Proofs.Ytkfiinmoecibcaa
open Go.RowKit Go.QS Go.QS.Nk Go.Shelf
set_option linter.unusedVariables false

theorem run_clear_pair {P : Program} (w : World) (t e ty : TypeId) (z : Value) (ht : P.underlying t = some (.slice e)) (hv : ∀ w, (zeroValue e).run P w = .ok z w) (hz : z.cells = #[str [], str []]) (b o c : Nat)
    (hc : ∀ j, j < 2 → (w.cell? ⟨b, o + j, none⟩).isSome = true) (hf : ∀ j, j < 2 → w.frozen? ⟨b, o + j, none⟩ = false) :
    (Builtin.clear_ #[t] ty #[.slice (some ⟨b, o, none⟩) 1 c]).run P w = .ok (.tuple #[]) (w.setCells b o [str [], str []]) := by
  have hzc : (Builtin.zeroCells z.cells 1).toList = [str [], str []] := by
    rw [hz]
    simp only [Builtin.zeroCells]
    apply List.ext_getElem
    · simp
    · intro i h1 h2
      have h2' : i < 2 := h2
      match i, h2' with
      | 0, _ => simp
      | 1, _ => simp
  have hst := run_storeCells_cells (P := P) b o [str [], str []] 0 w (by simpa using hc) (by simpa using hf) (by intro v hv'; simp at hv'; subst hv'; rfl)
  simp only [Nat.add_zero] at hst
  simp [Builtin.clear_, run_underlying ht, hv, hzc, hst]

set_option maxRecDepth 100000 in
set_option maxHeartbeats 1000000 in
theorem pdelete_c (base : Nat) (w : World) (v : Value) (l : List Pr) (i : Nat) (h : w.ownsRow base PP 2 v l.length (flat l)) (hi : i < l.length) (h9 : l.length ≤ 1000000000) :
    Calls Try.prog 121 #[v, .int .i64 i, .int .i64 ((i + 1 : Nat) : Int)] w fun e w' => ∃ v', e = .returned v' ∧ w'.ownsRow base PP 2 v' (l.take i ++ l.drop (i + 1)).length (flat (l.take i ++ l.drop (i + 1))) ∧ w.grownBy w' v.ownBlock ∧ v'.ownBlock = v.ownBlock := by
  rcases h.2 with ⟨rfl, h0⟩ | ⟨g, cap, cur, rfl, hg, hh, hnc, hcm, hsz, htk⟩
  · omega
  · have mixed : Try.prog.follows .mixedOrders = true := by kernel_rfl
    obtain ⟨n, hn⟩ : ∃ n, n = l.length := ⟨_, rfl⟩
    obtain ⟨m, hm⟩ : ∃ m, m = n - (i + 1) := ⟨_, rfl⟩
    have hpl := flat_length l
    rw [← hn] at hpl hnc htk hi h9
    obtain ⟨news, hnews⟩ : ∃ news, news = (flat l).drop ((i + 1) * 2) := ⟨_, rfl⟩
    have hlen : news.length = m * 2 := by rw [hnews, List.length_drop, hpl]; omega
    have hcs : ∀ j u, (flat l)[j]? = some u → w.cell? ⟨g, j, none⟩ = some u := by
      intro j u hj
      rw [seg_of_heap hh, ← Array.getElem?_toList]
      rw [← htk, List.getElem?_take] at hj
      split at hj
      · exact hj
      · cases hj
    obtain ⟨A, hA, hsrc⟩ : ∃ A : Addr, (if cap = i + 1 then (some ⟨g, 0, none⟩ : Option Addr) else some ⟨g, (i + 1) * 2, none⟩) = some A ∧ Hid (∀ t u, news[t]? = some u → w.drew.cell? (A.add t) = some u) := by
      by_cases hc : cap = i + 1
      · refine ⟨⟨g, 0, none⟩, by simp [hc], fun t u hu => ?_⟩
        have h0 : news.length = 0 := by rw [hlen]; omega
        rw [List.length_eq_zero_iff.1 h0] at hu
        simp at hu
      · refine ⟨⟨g, (i + 1) * 2, none⟩, by simp [hc], fun t u hu => ?_⟩
        rw [Addr.add_lit]
        refine hcs _ u ?_
        rw [hnews, List.getElem?_drop] at hu
        exact hu
    have s1 : Hid (news.length = m * 2) := hlen
    have s2 : Hid (∀ u ∈ news, u.oneCell' = true) := by
      intro u hu
      rw [hnews] at hu
      exact flat_one l u (List.mem_of_mem_drop hu)
    have hisS : ∀ t, t < cap * 2 → (w.cell? ⟨g, t, none⟩).isSome = true := fun t ht => by rw [seg_of_heap hh, Array.getElem?_eq_getElem (by omega)]; rfl
    have hfz : ∀ t, w.frozen? ⟨g, t, none⟩ = false := fun t => by simp [World.frozen?, hh]
    have s3 : Hid (∀ t, t < news.length → (w.drew.cell? ⟨g, 0 + i * 2 + t, none⟩).isSome = true ∧ w.drew.frozen? ⟨g, 0 + i * 2 + t, none⟩ = false) := by
      intro t ht
      rw [hlen] at ht
      exact ⟨hisS _ (by omega), hfz _⟩
    obtain ⟨W1, hW1⟩ : ∃ W1, W1 = w.drew.setCells g (0 + i * 2) news := ⟨_, rfl⟩
    obtain ⟨c1, k1, k2, k3⟩ := heap_setCells g PP (0, 0) news (0 + i * 2) w.drew cur hh (by rw [hlen]; omega)
    rw [← hW1] at k1
    have hcl : ∀ ty, (Builtin.clear_ #[27] ty #[.slice (some ⟨g, (i + m) * 2, none⟩) (n - (i + m)) (cap - (i + m))]).run Try.prog W1 = .ok (.tuple #[]) (W1.setCells g ((i + m) * 2) [str [], str []]) := fun ty => by
      rw [show n - (i + m) = 1 by omega]
      exact run_clear_pair W1 _ _ ty zP Try.underlying27 Try.zeroValue40 rfl g ((i + m) * 2) _ (fun t ht => by rw [seg_of_heap k1, Array.getElem?_eq_getElem (by omega)]; rfl) (fun t ht => by simp [World.frozen?, k1])
    obtain ⟨c2, j1, j2, j3⟩ := heap_setCells g PP (0, 0) [str [], str []] ((i + m) * 2) W1 c1 k1 (by simp; omega)
    have HFIN : Hid ((W1.setCells g ((i + m) * 2) [str [], str []]).ownsRow base PP 2 (.slice (some ⟨g, 0, none⟩) (i + m) cap) (l.take i ++ l.drop (i + 1)).length (flat (l.take i ++ l.drop (i + 1))) ∧ w.grownBy (W1.setCells g ((i + m) * 2) [str [], str []]) (some g)) := by
      have hl1 : cur.toList.length = cap * 2 := by simpa using hsz
      have hll : (l.take i ++ l.drop (i + 1)).length = i + m := by simp; omega
      have hfl : flat (l.take i ++ l.drop (i + 1)) = (flat l).take (i * 2) ++ news := by rw [flat_append, flat_take, flat_drop, hnews]
      have e1 : c1.toList.take ((i + m) * 2) = (flat l).take (i * 2) ++ news := by
        rw [k3, Nat.zero_add]
        have e2 : cur.toList.take (i * 2) = (flat l).take (i * 2) := by rw [← htk, List.take_take, Nat.min_eq_left (by omega)]
        rw [e2, List.take_append_of_le_length (by simp [hlen, hpl]; omega), List.take_of_length_le (by simp [hlen, hpl]; omega)]
      refine Lib.hid ⟨⟨by rw [flat_length], .inr ⟨g, cap, c2, by rw [hll], hg, j1, by omega, hcm, by omega, ?_⟩⟩, ?_⟩
      · rw [hll, hfl, j3, e1, List.append_assoc, List.take_append_of_le_length (by simp [hlen, hpl]; omega), List.take_of_length_le (by simp [hlen, hpl]; omega)]
      · rw [hW1]
        exact World.grownBy.trans (grown_ext' (Ext.refl w).drew) (World.grownBy.trans (grown_setCells g _ _ _) (grown_setCells g _ _ _))
    have hW : Hid (W1 = w.drew.setCells g (0 + i * 2) news) := hW1
    have hic : i ≤ cap := by omega
    have hjc : i + 1 ≤ cap := by omega
    have hin : i + 1 ≤ n := by omega
    have hin2 : (i : Int) + 1 ≤ (n : Int) := by omega
    have hin0 : (0 : Int) ≤ (i : Int) + 1 := by omega
    have hine : ¬ ((i : Int) = ((i + 1 : Nat) : Int)) := by omega
    have hmm : n - (i + 1) = m := hm.symm
    have hcim : ¬ (cap = i + m) := by omega
    obtain ⟨i0, z0, hi0, hz0, hz1, hz2, hz3⟩ := infoPQ
    rw [← hn]
    have hcm' : cap ≤ 9223372036854775807 := by unfold maxLen at hcm; omega
    clear hW1 k1 k2 k3 j1 j2 j3 hlen hcs hisS hfz hn hm hpl htk hh hnews hsz h
    go_enter Try.func121, Try.ntmps121
    go_wp2_with fail
    go_region_law_o (refine step_append_room rfl (.tmp 22) (.tmp 25) 27 rfl PP i0 2 Try.underlying27 hi0 hz1 g 0 i cap (by simp [Act.eval, Act.put]) A m (cap - (i + 1)) news (by simp [Act.eval, Act.put]) s1.out hsrc.out s2.out (by omega) s3.out ?_; rw [← hW.out])
    go_wp2
    go_ret
    exact ⟨_, rfl, HFIN.out.1, HFIN.out.2, rfl⟩
end Go.Proofs.Ytkfiinmoecibcaa
/- Pieces of a function's code. No program. -/
namespace Go.QS.Nk
open Go
def lead : Code → Option Nat
  | .region id _ _ => some id
  | .seq a _ => lead a
  | _ => none
def findS (n : Nat) : Code → Option Code
  | .region id ops d => if id = n then some (.region id ops d) else none
  | .seq a b => if lead a = some n then some (.seq a b) else match findS n a with | some c => some c | none => findS n b
  | .cond _ a b => match findS n a with | some c => some c | none => findS n b
  | .block _ b => findS n b
  | .loop b => findS n b
  | .scope b => findS n b
  | _ => none
def findT (n : Nat) : Code → Option Code
  | .seq a b => match a with
    | .region id _ _ => if id = n then some b else findT n b
    | _ => match findT n a with | some c => some c | none => findT n b
  | .cond _ a b => match findT n a with | some c => some c | none => findT n b
  | .block _ b => findT n b
  | .loop b => findT n b
  | .scope b => findT n b
  | _ => none
def findR (n : Nat) : Code → Option Code
  | .region id ops d => if id = n then some (.region id ops d) else none
  | .seq a b => match findR n a with | some c => some c | none => findR n b
  | .cond _ a b => match findR n a with | some c => some c | none => findR n b
  | .block _ b => findR n b
  | .loop b => findR n b
  | .scope b => findR n b
  | _ => none

end Go.QS.Nk
/- Contract: a chunk of a node of one's own is emptied (its slots' drop). -/
namespace Go.Proofs.Ytkfiinmoecibcaa
open Go.RowKit Go.QS Go.QS.Nk
set_option linter.unusedVariables false

/-- An inner node, its rows its own. -/
def InO (base : Nat) (w : World) (g : Nat) (sl : List (Slot Nat)) (ow : Option Addr) (pv kv : Value) : Prop := sl.length = 32 ∧ NdO ND NP NK base w g (dataOf sl) (nodesOf sl) (prsOf sl) (kdsOf sl) false ow pv kv
theorem only_set2 (w : World) (g a b : Nat) (u v : Value) : Only (fun k => k = g) w ((w.setCell ⟨g, a, none⟩ u).setCell ⟨g, b, none⟩ v) := (Only.setCell (S := fun k => k = g) (Only.setCell (S := fun k => k = g) (Only.refl w) (p := ⟨g, a, none⟩) (.inl rfl) u) (p := ⟨g, b, none⟩) (.inl rfl) v)
theorem clr_eq {f : Slot Nat → Bool} {sl : List (Slot Nat)} {i : Nat} (h : sl.length = 32) (hi : i < 32) {s : Slot Nat} (hs : f s = false) : clr (bitsOf f sl) i = bitsOf f (sl.set i s) := by
  apply Nat.eq_of_testBit_eq
  intro j
  rw [clr_bit _ _ _ (bits32 f h), bits_off f (by omega) hs]

set_option maxRecDepth 100000 in
set_option maxHeartbeats 2000000 in
theorem drop_6 (wr : World) (g i d n : Nat) (pv kv : Value) (bk : Bool) (ow : Option Addr) (h : NdAt ND wr g d n pv kv bk ow) (hd9 : d < 4294967296) (hn9 : n < 4294967296) (hi : i < 32) (c : Code) (Q : Exit → Act → World → Prop) (t2 t3 t4 t5 t6 t7 t8 t9 t10 t11 t12 t13 t14 t15 t16 t17 t18 t19 t20 t21 t22 t23 t24 t25 t26 t27 t28 t29 t30 t31 t32 t33 t34 t35 t36 t37 t38 t39 t40 t41 t42 t43 t44 t45 t46 t47 t48 t49 t50 t51 t52 t53 t54 t55 t56 t57 t58 t59 t60 t61 t62 t63 t64 t65 t66 t67 t68 t69 : Value)
    (hc : (Try.f104.body.bind (findR 6)) = some c)
    (hQ : ∀ (u52 u53 u54 u55 u56 u57 u58 u59 u60 u61 u62 u63 u64 u65 u66 u67 u68 u69 : Value) (wx : World), NdAt ND wx g (clr d i) (clr n i) pv kv bk ow → Only (fun k => k = g) wr wx → Q .normal { tmps := List.toArray ((ptr g) :: (.int .i64 i) :: t2 :: t3 :: t4 :: t5 :: t6 :: t7 :: t8 :: t9 :: t10 :: t11 :: t12 :: t13 :: t14 :: t15 :: t16 :: t17 :: t18 :: t19 :: t20 :: t21 :: t22 :: t23 :: t24 :: t25 :: t26 :: t27 :: t28 :: t29 :: t30 :: t31 :: t32 :: t33 :: t34 :: t35 :: t36 :: t37 :: t38 :: t39 :: t40 :: t41 :: t42 :: t43 :: t44 :: t45 :: t46 :: t47 :: t48 :: t49 :: t50 :: t51 :: u52 :: u53 :: u54 :: u55 :: u56 :: u57 :: u58 :: u59 :: u60 :: u61 :: u62 :: u63 :: u64 :: u65 :: u66 :: u67 :: u68 :: u69 :: []), defers := [] } wx) :
    c.wp Try.prog Q { tmps := List.toArray ((ptr g) :: (.int .i64 i) :: t2 :: t3 :: t4 :: t5 :: t6 :: t7 :: t8 :: t9 :: t10 :: t11 :: t12 :: t13 :: t14 :: t15 :: t16 :: t17 :: t18 :: t19 :: t20 :: t21 :: t22 :: t23 :: t24 :: t25 :: t26 :: t27 :: t28 :: t29 :: t30 :: t31 :: t32 :: t33 :: t34 :: t35 :: t36 :: t37 :: t38 :: t39 :: t40 :: t41 :: t42 :: t43 :: t44 :: t45 :: t46 :: t47 :: t48 :: t49 :: t50 :: t51 :: t52 :: t53 :: t54 :: t55 :: t56 :: t57 :: t58 :: t59 :: t60 :: t61 :: t62 :: t63 :: t64 :: t65 :: t66 :: t67 :: t68 :: t69 :: []), defers := [] } wr := by
  change some _ = some c at hc
  cases hc
  have HQF := Lib.hid hQ
  clear hQ
  have hf := h.free
  obtain ⟨c0, c1, c2, c3, c4, c5⟩ := h.cells
  have HN := Lib.hid h
  clear h c2 c3 c4 c5
  refine wp_region_noPanic ?_
  go_region_with (first
    | (go_at_call 123; ((with_reducible refine (without_c _ d i hd9 hi).mono ?_); rintro e x1 ⟨rfl, rfl⟩))
    | (go_at_call 123; ((with_reducible refine (without_c _ n i hn9 hi).mono ?_); rintro e x1 ⟨rfl, rfl⟩)))
  all_goals
    refine NoPanic.normal ?_
    refine HQF.out _ _ _ _ _ _ _ _ _ _ _ _ _ _ _ _ _ _ _ ?_ ?_
    · first | exact (HN.out.set0 _).set1 _ | exact (HN.out.set1 _).set0 _
    · first | exact Only.drew (only_set2 wr g _ _ _ _) | exact only_set2 wr g _ _ _ _


end Go.Proofs.Ytkfiinmoecibcaa
