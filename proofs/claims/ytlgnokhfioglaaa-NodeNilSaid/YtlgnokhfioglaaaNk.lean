/- Contract: slices.Delete of one pair. -/
import Derived.Test.YtlgnokhfioglaaaNg
import Derived.Shelf.SlicesE.Delete
namespace Go.Proofs.Ytlgnokhfioglaaa
open Go.RowKit Go.QS Go.QS.Nk Go.Shelf
set_option linter.unusedVariables false

theorem run_clear_pair {P : Program} (w : World) (t e ty : TypeId) (z : Value) (ht : P.underlying t = some (.slice e)) (hv : ∀ w, (zeroValue e).run P w = .ok z w) (hz : z.cells = #[str [], str []]) (b o c : Nat)
    (hc : ∀ j, j < 2 → (w.cell? ⟨b, o + j, none⟩).isSome = true) (hf : ∀ j, j < 2 → w.frozen? ⟨b, o + j, none⟩ = false) :
    (Builtin.clear_ #[t] ty #[.slice (some ⟨b, o, none⟩) 1 c]).run P w = .ok (.tuple #[]) (w.setCells b o [str [], str []]) := by
  have hzc : (Builtin.zeroCells z.cells 1).toList = [str [], str []] := by
    rw [hz]
    simp only [Builtin.zeroCells]
    apply List.ext_getElem
    · simp
    · intro i h1 h2
      have h2' : i < 2 := h2
      match i, h2' with
      | 0, _ => simp
      | 1, _ => simp
  have hst := run_storeCells_cells (P := P) b o [str [], str []] 0 w (by simpa using hc) (by simpa using hf) (by intro v hv'; simp at hv'; subst hv'; rfl)
  simp only [Nat.add_zero] at hst
  simp [Builtin.clear_, run_underlying ht, hv, hzc, hst]

set_option maxRecDepth 100000 in
set_option maxHeartbeats 1000000 in
theorem pdelete_c (base : Nat) (w : World) (v : Value) (l : List Pr) (i : Nat) (h : w.ownsRow base PP 2 v l.length (flat l)) (hi : i < l.length) (h9 : l.length ≤ 1000000000) :
    Calls Try.prog 86 #[v, .int .i64 i, .int .i64 ((i + 1 : Nat) : Int)] w fun e w' => ∃ v', e = .returned v' ∧ w'.ownsRow base PP 2 v' (l.take i ++ l.drop (i + 1)).length (flat (l.take i ++ l.drop (i + 1))) ∧ w.grownBy w' v.ownBlock ∧ v'.ownBlock = v.ownBlock := by
  rcases h.2 with ⟨rfl, h0⟩ | ⟨g, cap, cur, rfl, hg, hh, hnc, hcm, hsz, htk⟩
  · omega
  · have mixed : Try.prog.follows .mixedOrders = true := by kernel_rfl
    obtain ⟨n, hn⟩ : ∃ n, n = l.length := ⟨_, rfl⟩
    obtain ⟨m, hm⟩ : ∃ m, m = n - (i + 1) := ⟨_, rfl⟩
    have hpl := flat_length l
    rw [← hn] at hpl hnc htk hi h9
    obtain ⟨news, hnews⟩ : ∃ news, news = (flat l).drop ((i + 1) * 2) := ⟨_, rfl⟩
    have hlen : news.length = m * 2 := by rw [hnews, List.length_drop, hpl]; omega
    have hcs : ∀ j u, (flat l)[j]? = some u → w.cell? ⟨g, j, none⟩ = some u := by
      intro j u hj
      rw [seg_of_heap hh, ← Array.getElem?_toList]
      rw [← htk, List.getElem?_take] at hj
      split at hj
      · exact hj
      · cases hj
    obtain ⟨A, hA, hsrc⟩ : ∃ A : Addr, (if cap = i + 1 then (some ⟨g, 0, none⟩ : Option Addr) else some ⟨g, (i + 1) * 2, none⟩) = some A ∧ Hid (∀ t u, news[t]? = some u → w.drew.cell? (A.add t) = some u) := by
      by_cases hc : cap = i + 1
      · refine ⟨⟨g, 0, none⟩, by simp [hc], fun t u hu => ?_⟩
        have h0 : news.length = 0 := by rw [hlen]; omega
        rw [List.length_eq_zero_iff.1 h0] at hu
        simp at hu
      · refine ⟨⟨g, (i + 1) * 2, none⟩, by simp [hc], fun t u hu => ?_⟩
        rw [Addr.add_lit]
        refine hcs _ u ?_
        rw [hnews, List.getElem?_drop] at hu
        exact hu
    have s1 : Hid (news.length = m * 2) := hlen
    have s2 : Hid (∀ u ∈ news, u.oneCell' = true) := by
      intro u hu
      rw [hnews] at hu
      exact flat_one l u (List.mem_of_mem_drop hu)
    have hisS : ∀ t, t < cap * 2 → (w.cell? ⟨g, t, none⟩).isSome = true := fun t ht => by rw [seg_of_heap hh, Array.getElem?_eq_getElem (by omega)]; rfl
    have hfz : ∀ t, w.frozen? ⟨g, t, none⟩ = false := fun t => by simp [World.frozen?, hh]
    have s3 : Hid (∀ t, t < news.length → (w.drew.cell? ⟨g, 0 + i * 2 + t, none⟩).isSome = true ∧ w.drew.frozen? ⟨g, 0 + i * 2 + t, none⟩ = false) := by
      intro t ht
      rw [hlen] at ht
      exact ⟨hisS _ (by omega), hfz _⟩
    obtain ⟨W1, hW1⟩ : ∃ W1, W1 = w.drew.setCells g (0 + i * 2) news := ⟨_, rfl⟩
    obtain ⟨c1, k1, k2, k3⟩ := heap_setCells g PP (0, 0) news (0 + i * 2) w.drew cur hh (by rw [hlen]; omega)
    rw [← hW1] at k1
    have hcl : ∀ ty, (Builtin.clear_ #[22] ty #[.slice (some ⟨g, (i + m) * 2, none⟩) (n - (i + m)) (cap - (i + m))]).run Try.prog W1 = .ok (.tuple #[]) (W1.setCells g ((i + m) * 2) [str [], str []]) := fun ty => by
      rw [show n - (i + m) = 1 by omega]
      exact run_clear_pair W1 _ _ ty zP Try.underlying22 Try.zeroValue36 rfl g ((i + m) * 2) _ (fun t ht => by rw [seg_of_heap k1, Array.getElem?_eq_getElem (by omega)]; rfl) (fun t ht => by simp [World.frozen?, k1])
    obtain ⟨c2, j1, j2, j3⟩ := heap_setCells g PP (0, 0) [str [], str []] ((i + m) * 2) W1 c1 k1 (by simp; omega)
    have HFIN : Hid ((W1.setCells g ((i + m) * 2) [str [], str []]).ownsRow base PP 2 (.slice (some ⟨g, 0, none⟩) (i + m) cap) (l.take i ++ l.drop (i + 1)).length (flat (l.take i ++ l.drop (i + 1))) ∧ w.grownBy (W1.setCells g ((i + m) * 2) [str [], str []]) (some g)) := by
      have hl1 : cur.toList.length = cap * 2 := by simpa using hsz
      have hll : (l.take i ++ l.drop (i + 1)).length = i + m := by simp; omega
      have hfl : flat (l.take i ++ l.drop (i + 1)) = (flat l).take (i * 2) ++ news := by rw [flat_append, flat_take, flat_drop, hnews]
      have e1 : c1.toList.take ((i + m) * 2) = (flat l).take (i * 2) ++ news := by
        rw [k3, Nat.zero_add]
        have e2 : cur.toList.take (i * 2) = (flat l).take (i * 2) := by rw [← htk, List.take_take, Nat.min_eq_left (by omega)]
        rw [e2, List.take_append_of_le_length (by simp [hlen, hpl]; omega), List.take_of_length_le (by simp [hlen, hpl]; omega)]
      refine Lib.hid ⟨⟨by rw [flat_length], .inr ⟨g, cap, c2, by rw [hll], hg, j1, by omega, hcm, by omega, ?_⟩⟩, ?_⟩
      · rw [hll, hfl, j3, e1, List.append_assoc, List.take_append_of_le_length (by simp [hlen, hpl]; omega), List.take_of_length_le (by simp [hlen, hpl]; omega)]
      · rw [hW1]
        exact World.grownBy.trans (grown_ext' (Ext.refl w).drew) (World.grownBy.trans (grown_setCells g _ _ _) (grown_setCells g _ _ _))
    have hW : Hid (W1 = w.drew.setCells g (0 + i * 2) news) := hW1
    have hic : i ≤ cap := by omega
    have hjc : i + 1 ≤ cap := by omega
    have hin : i + 1 ≤ n := by omega
    have hin2 : (i : Int) + 1 ≤ (n : Int) := by omega
    have hin0 : (0 : Int) ≤ (i : Int) + 1 := by omega
    have hine : ¬ ((i : Int) = ((i + 1 : Nat) : Int)) := by omega
    have hmm : n - (i + 1) = m := hm.symm
    have hcim : ¬ (cap = i + m) := by omega
    obtain ⟨i0, z0, hi0, hz0, hz1, hz2, hz3⟩ := infoPQ
    rw [← hn]
    have hcm' : cap ≤ 9223372036854775807 := by unfold maxLen at hcm; omega
    clear hW1 k1 k2 k3 j1 j2 j3 hlen hcs hisS hfz hn hm hpl htk hh hnews hsz h
    go_enter Try.func86, Try.ntmps86
    go_wp2_with fail
    go_region_law_o (refine step_append_room rfl (.tmp 22) (.tmp 25) 22 rfl PP i0 2 Try.underlying22 hi0 hz1 g 0 i cap (by simp [Act.eval, Act.put]) A m (cap - (i + 1)) news (by simp [Act.eval, Act.put]) s1.out hsrc.out s2.out (by omega) s3.out ?_; rw [← hW.out])
    go_wp2
    go_ret
    exact ⟨_, rfl, HFIN.out.1, HFIN.out.2, rfl⟩
end Go.Proofs.Ytlgnokhfioglaaa
