/- Contract: slices.Insert at the slices of nodes, of a row of one's own. -/
import Derived.Test.YtbplddiopajocaaRc
set_option linter.unusedVariables false
set_option linter.unusedSimpArgs false
namespace Go.Proofs.Ytbplddiopajocaa
open Go.RowKit Go.QS Go.Lib
set_option linter.unusedVariables false

theorem heap_setCells (b : Nat) (e : TypeId) (f : Nat × Nat) : ∀ (vs : List Value) (o : Nat) (w : World) (cur : Array Value), w.heap[b]? = some (.cells cur e f) → o + vs.length ≤ cur.size →
    ∃ cur', (w.setCells b o vs).heap[b]? = some (.cells cur' e f) ∧ cur'.size = cur.size ∧ cur'.toList = cur.toList.take o ++ vs ++ cur.toList.drop (o + vs.length)
  | [], o, w, cur, h, hl => ⟨cur, h, rfl, by simp⟩
  | v :: r, o, w, cur, h, hl => by
    simp only [List.length_cons] at hl
    obtain ⟨cur', h1, h2, h3⟩ := heap_setCells b e f r (o + 1) (w.setCell ⟨b, o, none⟩ v) _ (heap_set h o v) (by simp; omega)
    refine ⟨cur', h1, by simpa using h2, ?_⟩
    rw [h3]
    have ho : o < cur.toList.length := by simp; omega
    rw [Array.toList_setIfInBounds, List.take_set, List.drop_set_of_lt (by omega), List.length_cons, List.take_succ_eq_append_getElem ho, show o + 1 + r.length = o + (r.length + 1) by omega]
    have : ((cur.toList.take o) ++ [cur.toList[o]]).set o v = cur.toList.take o ++ [v] := by
      rw [List.set_append_right _ _ (by simp; omega)]
      have : o - (cur.toList.take o).length = 0 := by simp; omega
      rw [this]; rfl
    rw [this]
    simp

theorem grown_setCell' (w : World) (g j : Nat) (u : Value) : w.grownBy (w.setCell ⟨g, j, none⟩ u) (some g) :=
  ⟨rfl, rfl, rfl, by simp, fun k _ hne => Below.heap_setCell w ⟨g, j, none⟩ u k (fun h => hne (by rw [h]))⟩
theorem grown_setCells (b : Nat) : ∀ (vs : List Value) (o : Nat) (w : World), w.grownBy (w.setCells b o vs) (some b)
  | [], o, w => World.grownBy.refl w _
  | v :: r, o, w => World.grownBy.trans (grown_setCell' w b o v) (grown_setCells b r (o + 1) _)
theorem grown_ext' {w w' : World} {row : Option Nat} (hb : Ext w w') : w.grownBy w' row := ⟨hb.os, hb.tape, hb.output, hb.size, fun k hk _ => hb.block k hk⟩
theorem ext_grown {w w' : World} (hb : w.grownBy w' none) : Ext w w' := ⟨hb.os, hb.tape, hb.output, hb.size, fun k hk => hb.block k hk (by simp)⟩
theorem below_setCells {B : Nat} {a : World} (b : Nat) (hb : B ≤ b) : ∀ (vs : List Value) (o : Nat) (w : World), Below B a w → Below B a (w.setCells b o vs)
  | [], o, w, h => h
  | v :: r, o, w, h => below_setCells b hb r (o + 1) _ (h.setCell hb v)

theorem heap_new (w : World) (o : Obj) : (w.alloc o).heap[w.heap.size]? = some o := by
  simp only [World.alloc]; simp
theorem seg_of_heap {w : World} {b : Nat} {e : TypeId} {f : Nat × Nat} {cur : Array Value} (h : w.heap[b]? = some (.cells cur e f)) (j : Nat) : w.cell? ⟨b, j, none⟩ = cur[j]? := by
  simp [World.cell?, h]

set_option maxRecDepth 100000 in
theorem insert_c (base : Nat) (w : World) (v : Value) (ps : List Nat) (i vb p : Nat) (h : w.ownsRow base PT 1 v ps.length (ptrs ps)) (hi : i ≤ ps.length) (hv : w.heap[vb]? = some (.cells #[ptr p] PT (0, 0))) (hne : v.ownBlock ≠ some vb) (h9 : ps.length ≤ 1000000000) (hbase : base ≤ w.heap.size) :
    Calls Try.prog 67 #[v, .int .i64 i, .slice (some ⟨vb, 0, none⟩) 1 1] w fun e w' => ∃ v', e = .returned v' ∧ w'.ownsRow base PT 1 v' (ps.take i ++ p :: ps.drop i).length (ptrs (ps.take i ++ p :: ps.drop i)) ∧ w.grownBy w' v.ownBlock := by
  have hlen : (ps.take i ++ p :: ps.drop i).length = ps.length + 1 := by simp; omega
  have hps : ptrs (ps.take i ++ p :: ps.drop i) = (ptrs ps).take i ++ [ptr p] ++ (ptrs ps).drop i := by simp [ptrs, List.map_take, List.map_drop]
  rw [hlen, hps]
  have hvs : ∀ j u, [ptr p][j]? = some u → w.cell? ⟨vb, 0 + j, none⟩ = some u := by
    intro j u hj
    rw [seg_of_heap hv, Nat.zero_add]
    simpa using hj
  have h1v : ∀ u ∈ [ptr p], u.oneCell' = true := by intro u hu; simp at hu; subst hu; rfl
  have hpl := ptrs_length ps
  rcases h.2 with ⟨rfl, h0⟩ | ⟨g, cap, cur, rfl, hg, hh, hnc, hcm, hsz, htk⟩
  · have hps0 : ps = [] := List.eq_nil_of_length_eq_zero h0
    subst hps0
    have hi0 : i = 0 := by simpa using hi
    subst hi0
    refine (insert_end_grow none 0 0 vb 0 1 1 [] [ptr p] w (by decide) (by decide) (by decide) (by decide) rfl rfl (fun _ => rfl) (fun a h => by cases h) hvs h1v).mono ?_
    rintro e w' ⟨rfl, rfl⟩
    refine ⟨_, rfl, ⟨by simp, .inr ⟨w.heap.size, _, _, rfl, hbase, heap_new w.drew _, ?_, ?_, ?_, ?_⟩⟩, ?_⟩
    · exact grownCap_ge w 1 0 PT
    · exact grownCap_le_maxLen w 1 0 PT (by simp [maxLen])
    · have := grownCap_ge w 1 0 26
      simp [Builtin.zeroCells, Value.cells]; omega
    · simp
    · exact grown_ext' ((Ext.refl w).drew.alloc (Nat.le_refl _) _)
  · rw [Nat.mul_one] at hsz htk
    have hcs : ∀ j u, (ptrs ps)[j]? = some u → w.cell? ⟨g, 0 + j, none⟩ = some u := by
      intro j u hj
      rw [seg_of_heap hh, Nat.zero_add, ← Array.getElem?_toList]
      rw [← htk, List.getElem?_take] at hj
      split at hj
      · exact hj
      · cases hj
    have hfz : ∀ j, w.frozen? ⟨g, j, none⟩ = false := fun j => by simp [World.frozen?, hh]
    have hsp : ∀ j, j < cap → (w.cell? ⟨g, 0 + j, none⟩).isSome = true := by
      intro j hj
      rw [seg_of_heap hh, Nat.zero_add, Array.getElem?_eq_getElem (by omega)]; rfl
    have hgw := heap_lt hh
    have hgb : vb ≠ g := fun e => hne (by rw [e]; rfl)
    have hcm' : cap ≤ 9223372036854775807 := by unfold maxLen at hcm; omega
    rcases Nat.lt_or_ge i ps.length with hin | hin
    · rcases Nat.lt_or_ge cap (ps.length + 1) with hroom | hroom
      · refine (insert_grow g 0 ps.length cap i vb 0 1 1 (ptrs ps) [ptr p] w hin (by decide) hnc hroom (by omega) hpl rfl hcs hvs (ptrs_one _) h1v).mono ?_
        rintro e w' ⟨rfl, rfl⟩
        obtain ⟨G, hG⟩ : ∃ G, G = grownCap w (ps.length + 1) cap PT := ⟨_, rfl⟩
        have hG1 : ps.length + 1 ≤ G := by rw [hG]; exact grownCap_ge w _ _ _
        have hG2 : G ≤ maxLen := by rw [hG]; exact grownCap_le_maxLen w _ _ _ (by unfold maxLen; omega)
        rw [← hG]
        obtain ⟨R, hR⟩ : ∃ R : Array Value, R = ((ptrs ps).take i).toArray ++ Builtin.zeroCells (Value.pointer none).cells (ps.length + 1 - i) ++ Builtin.zeroCells (Value.pointer none).cells (G - (ps.length + 1)) := ⟨_, rfl⟩
        rw [← hR]
        have hRs : R.size = G := by rw [hR]; simp [Builtin.zeroCells, Value.cells]; omega
        have hRt : R.toList.take i = (ptrs ps).take i := by
          rw [hR]
          simp only [Array.toList_append, List.append_assoc]
          rw [List.take_append_of_le_length (by simp only [List.length_take, hpl]; omega), List.take_take, Nat.min_self]
        have hR0 : ((w.alloc (.cells R PT)).drew).heap[w.heap.size]? = some (.cells R PT (0, 0)) := heap_new w _
        obtain ⟨c1, k1, k2, k3⟩ := heap_setCells w.heap.size PT (0, 0) [ptr p] i _ _ hR0 (by simp; omega)
        obtain ⟨c2, k4, k5, k6⟩ := heap_setCells w.heap.size PT (0, 0) ((ptrs ps).drop i) (i + 1) ((((w.alloc (.cells R PT)).drew).setCells w.heap.size i [ptr p]).drew) _ k1 (by have := List.length_drop (i := i) (l := ptrs ps); have : [ptr p].length = 1 := rfl; omega)
        refine ⟨_, rfl, ⟨by simp; omega, .inr ⟨w.heap.size, G, c2, rfl, hbase, k4, hG1, hG2, by omega, ?_⟩⟩, ?_⟩
        · have e1 : c1.toList.take (i + 1) = (ptrs ps).take i ++ [ptr p] := by
            rw [k3, hRt]
            rw [List.take_append_of_le_length (by simp; omega)]
            rw [List.take_of_length_le (by simp; omega)]
          rw [Nat.mul_one, k6, e1]
          rw [List.take_append_of_le_length (by simp; omega), List.take_of_length_le (by simp; omega)]
        · refine (grown_ext' ?_ : w.grownBy _ _)
          exact below_setCells _ (Nat.le_refl _) _ _ _ (Below.drew (below_setCells _ (Nat.le_refl _) _ _ _ ((Ext.refl w).alloc (Nat.le_refl _) _).drew))
      · refine (insert_shift g 0 ps.length cap i vb 0 1 1 (ptrs ps) [ptr p] w hin (by decide) hroom hcm' hgb hpl rfl hcs (fun j hj => hsp j (by omega)) (fun j hj => hfz _) hvs (ptrs_one _) h1v PT PT 1 cap (by simp [World.shape?, hv]) (by simp [World.shape?, hh, hsz]) (by omega) (by simp [World.frozen?, hv]) (by simp [World.frozen?, hv])).mono ?_
        rintro e w' ⟨rfl, rfl⟩
        rw [Nat.zero_add, Nat.zero_add]
        obtain ⟨c1, k1, k2, k3⟩ := heap_setCells g PT (0, 0) ((ptrs ps).drop i) (i + 1) w.drew _ hh (by simp; omega)
        obtain ⟨c2, k4, k5, k6⟩ := heap_setCells g PT (0, 0) [ptr p] i (w.drew.setCells g (i + 1) ((ptrs ps).drop i)) _ k1 (by have := List.length_drop (i := i) (l := ptrs ps); have : [ptr p].length = 1 := rfl; omega)
        refine ⟨_, rfl, ⟨by simp; omega, .inr ⟨g, cap, c2, rfl, hg, k4, hroom, hcm, by omega, ?_⟩⟩, ?_⟩
        · have hl1 : cur.toList.length = cap := by simpa using hsz
          have e1 : c1.toList.take i = (ptrs ps).take i := by
            rw [k3, List.append_assoc, List.take_append_of_le_length (by simp; omega), List.take_take, Nat.min_eq_left (by omega), ← htk, List.take_take, Nat.min_eq_left (by omega)]
          have e2 : c1.toList.drop (i + 1) = (ptrs ps).drop i ++ cur.toList.drop (i + 1 + ((ptrs ps).drop i).length) := by
            rw [k3, List.append_assoc]
            exact List.drop_left' (by simp; omega)
          rw [Nat.mul_one, k6, e1]
          simp only [List.length_singleton]
          rw [e2, ← List.append_assoc, List.take_append_of_le_length (by simp; omega), List.take_of_length_le (by simp; omega)]
        · exact World.grownBy.trans (grown_ext' (Ext.refl w).drew) (World.grownBy.trans (grown_setCells g _ _ _) (grown_setCells g _ _ _))
    · have hie : i = ps.length := by omega
      subst hie
      have ht : (ptrs ps).take ps.length = ptrs ps := List.take_of_length_le (by simp)
      have hd : (ptrs ps).drop ps.length = [] := List.drop_eq_nil_of_le (by simp)
      rw [ht, hd, List.append_nil]
      rcases Nat.lt_or_ge cap (ps.length + 1) with hroom | hroom
      · refine (insert_end_grow (some ⟨g, 0, none⟩) ps.length cap vb 0 1 1 (ptrs ps) [ptr p] w (by decide) hnc hroom (by omega) hpl rfl (fun h => by cases h) (fun a ha j u hj => by cases ha; rw [Addr.add_lit]; exact hcs j u hj) hvs h1v).mono ?_
        rintro e w' ⟨rfl, rfl⟩
        have hG1 := grownCap_ge w (ps.length + 1) cap 26
        refine ⟨_, rfl, ⟨by simp, .inr ⟨w.heap.size, _, _, rfl, hbase, heap_new w.drew _, hG1, ?_, ?_, ?_⟩⟩, ?_⟩
        · exact grownCap_le_maxLen w _ _ PT (by unfold maxLen; omega)
        · simp [Builtin.zeroCells, Value.cells]; omega
        · simp only [Array.toList_append, Nat.mul_one]
          rw [List.take_append_of_le_length (by simp), List.take_of_length_le (by simp)]
        · exact grown_ext' ((Ext.refl w).drew.alloc (Nat.le_refl _) _)
      · refine (insert_end_room g 0 ps.length cap vb 0 1 1 [ptr p] w (by decide) hroom hcm' rfl (fun j hj => by rw [Nat.add_assoc]; exact hsp _ (by omega)) (fun j hj => hfz _) hvs h1v).mono ?_
        rintro e w' ⟨rfl, rfl⟩
        rw [Nat.zero_add]
        obtain ⟨c1, k1, k2, k3⟩ := heap_setCells g PT (0, 0) [ptr p] ps.length w _ hh (by simp; omega)
        refine ⟨_, rfl, ⟨by simp, .inr ⟨g, cap, c1, rfl, hg, k1, hroom, hcm, by omega, ?_⟩⟩, grown_setCells g _ _ _⟩
        rw [Nat.mul_one, k3, htk, List.take_append_of_le_length (by simp), List.take_of_length_le (by simp)]
end Go.Proofs.Ytbplddiopajocaa
