/- Texts joined. -/
import Derived.Test.YtkfiinmoecibcaaNh
import Derived.Shelf.SlicesQ.Reverse
import Derived.Lib.RowBridge
import Derived.Shelf.SlicesE.Delete
set_option linter.unusedVariables false
set_option linter.unusedSimpArgs false
/- Contract: slices.Insert at the slices of nodes, of a row of one's own. -/
namespace Go.Proofs.Ytkfiinmoecibcaa
open Go.RowKit Go.QS Go.QS.Nk Go.Lib
set_option linter.unusedVariables false

set_option maxRecDepth 100000 in
theorem kinsert_c (base : Nat) (w : World) (v : Value) (ps : List Nat) (i vb p : Nat) (h : w.ownsRow base KP 1 v ps.length (ptrs ps)) (hi : i ≤ ps.length) (hv : w.heap[vb]? = some (.cells #[ptr p] KP (0, 0))) (hne : v.ownBlock ≠ some vb) (h9 : ps.length ≤ 1000000000) (hbase : base ≤ w.heap.size) :
    Calls Try.prog 107 #[v, .int .i64 i, .slice (some ⟨vb, 0, none⟩) 1 1] w fun e w' => ∃ v', e = .returned v' ∧ w'.ownsRow base KP 1 v' (ps.take i ++ p :: ps.drop i).length (ptrs (ps.take i ++ p :: ps.drop i)) ∧ w.grownBy w' v.ownBlock ∧ (v'.ownBlock = v.ownBlock ∨ v'.ownBlock = some w.heap.size) := by
  have hlen : (ps.take i ++ p :: ps.drop i).length = ps.length + 1 := by simp; omega
  have hps : ptrs (ps.take i ++ p :: ps.drop i) = (ptrs ps).take i ++ [ptr p] ++ (ptrs ps).drop i := by simp [ptrs, List.map_take, List.map_drop]
  rw [hlen, hps]
  have hvs : ∀ j u, [ptr p][j]? = some u → w.cell? ⟨vb, 0 + j, none⟩ = some u := by
    intro j u hj
    rw [seg_of_heap hv, Nat.zero_add]
    simpa using hj
  have h1v : ∀ u ∈ [ptr p], u.oneCell' = true := by intro u hu; simp at hu; subst hu; rfl
  have hpl := ptrs_length ps
  rcases h.2 with ⟨rfl, h0⟩ | ⟨g, cap, cur, rfl, hg, hh, hnc, hcm, hsz, htk⟩
  · have hps0 : ps = [] := List.eq_nil_of_length_eq_zero h0
    subst hps0
    have hi0 : i = 0 := by simpa using hi
    subst hi0
    refine (kinsert_end_grow none 0 0 vb 0 1 1 [] [ptr p] w (by decide) (by decide) (by decide) (by decide) rfl rfl (fun _ => rfl) (fun a h => by cases h) hvs h1v).mono ?_
    rintro e w' ⟨rfl, rfl⟩
    refine ⟨_, rfl, ⟨by simp, .inr ⟨w.heap.size, _, _, rfl, hbase, heap_new w.drew _, ?_, ?_, ?_, ?_⟩⟩, ?_⟩
    · exact grownCap_ge w 1 0 KP
    · exact grownCap_le_maxLen w 1 0 KP (by simp [maxLen])
    · have := grownCap_ge w 1 0 30
      simp [Builtin.zeroCells, Value.cells]; omega
    · simp
    · exact ⟨grown_ext' ((Ext.refl w).drew.alloc (Nat.le_refl _) _), .inr rfl⟩
  · rw [Nat.mul_one] at hsz htk
    have hcs : ∀ j u, (ptrs ps)[j]? = some u → w.cell? ⟨g, 0 + j, none⟩ = some u := by
      intro j u hj
      rw [seg_of_heap hh, Nat.zero_add, ← Array.getElem?_toList]
      rw [← htk, List.getElem?_take] at hj
      split at hj
      · exact hj
      · cases hj
    have hfz : ∀ j, w.frozen? ⟨g, j, none⟩ = false := fun j => by simp [World.frozen?, hh]
    have hsp : ∀ j, j < cap → (w.cell? ⟨g, 0 + j, none⟩).isSome = true := by
      intro j hj
      rw [seg_of_heap hh, Nat.zero_add, Array.getElem?_eq_getElem (by omega)]; rfl
    have hgw := heap_lt hh
    have hgb : vb ≠ g := fun e => hne (by rw [e]; rfl)
    have hcm' : cap ≤ 9223372036854775807 := by unfold maxLen at hcm; omega
    rcases Nat.lt_or_ge i ps.length with hin | hin
    · rcases Nat.lt_or_ge cap (ps.length + 1) with hroom | hroom
      · refine (kinsert_grow g 0 ps.length cap i vb 0 1 1 (ptrs ps) [ptr p] w hin (by decide) hnc hroom (by omega) hpl rfl hcs hvs (ptrs_one _) h1v).mono ?_
        rintro e w' ⟨rfl, rfl⟩
        obtain ⟨G, hG⟩ : ∃ G, G = grownCap w (ps.length + 1) cap KP := ⟨_, rfl⟩
        have hG1 : ps.length + 1 ≤ G := by rw [hG]; exact grownCap_ge w _ _ _
        have hG2 : G ≤ maxLen := by rw [hG]; exact grownCap_le_maxLen w _ _ _ (by unfold maxLen; omega)
        rw [← hG]
        obtain ⟨R, hR⟩ : ∃ R : Array Value, R = ((ptrs ps).take i).toArray ++ Builtin.zeroCells (Value.pointer none).cells (ps.length + 1 - i) ++ Builtin.zeroCells (Value.pointer none).cells (G - (ps.length + 1)) := ⟨_, rfl⟩
        rw [← hR]
        have hRs : R.size = G := by rw [hR]; simp [Builtin.zeroCells, Value.cells]; omega
        have hRt : R.toList.take i = (ptrs ps).take i := by
          rw [hR]
          simp only [Array.toList_append, List.append_assoc]
          rw [List.take_append_of_le_length (by simp only [List.length_take, hpl]; omega), List.take_take, Nat.min_self]
        have hR0 : ((w.alloc (.cells R KP)).drew).heap[w.heap.size]? = some (.cells R KP (0, 0)) := heap_new w _
        obtain ⟨c1, k1, k2, k3⟩ := heap_setCells w.heap.size KP (0, 0) [ptr p] i _ _ hR0 (by simp; omega)
        obtain ⟨c2, k4, k5, k6⟩ := heap_setCells w.heap.size KP (0, 0) ((ptrs ps).drop i) (i + 1) ((((w.alloc (.cells R KP)).drew).setCells w.heap.size i [ptr p]).drew) _ k1 (by have := List.length_drop (i := i) (l := ptrs ps); have : [ptr p].length = 1 := rfl; omega)
        refine ⟨_, rfl, ⟨by simp; omega, .inr ⟨w.heap.size, G, c2, rfl, hbase, k4, hG1, hG2, by omega, ?_⟩⟩, ?_⟩
        · have e1 : c1.toList.take (i + 1) = (ptrs ps).take i ++ [ptr p] := by
            rw [k3, hRt]
            rw [List.take_append_of_le_length (by simp; omega)]
            rw [List.take_of_length_le (by simp; omega)]
          rw [Nat.mul_one, k6, e1]
          rw [List.take_append_of_le_length (by simp; omega), List.take_of_length_le (by simp; omega)]
        · exact ⟨grown_ext' (Go.QS.Nk.below_setCells _ (Nat.le_refl _) _ _ _ (Below.drew (Go.QS.Nk.below_setCells _ (Nat.le_refl _) _ _ _ ((Ext.refl w).alloc (Nat.le_refl _) _).drew))), .inr rfl⟩
      · refine (kinsert_shift g 0 ps.length cap i vb 0 1 1 (ptrs ps) [ptr p] w hin (by decide) hroom hcm' hgb hpl rfl hcs (fun j hj => hsp j (by omega)) (fun j hj => hfz _) hvs (ptrs_one _) h1v KP KP 1 cap (by simp [World.shape?, hv]) (by simp [World.shape?, hh, hsz]) (by omega) (by simp [World.frozen?, hv]) (by simp [World.frozen?, hv])).mono ?_
        rintro e w' ⟨rfl, rfl⟩
        rw [Nat.zero_add, Nat.zero_add]
        obtain ⟨c1, k1, k2, k3⟩ := heap_setCells g KP (0, 0) ((ptrs ps).drop i) (i + 1) w.drew _ hh (by simp; omega)
        obtain ⟨c2, k4, k5, k6⟩ := heap_setCells g KP (0, 0) [ptr p] i (w.drew.setCells g (i + 1) ((ptrs ps).drop i)) _ k1 (by have := List.length_drop (i := i) (l := ptrs ps); have : [ptr p].length = 1 := rfl; omega)
        refine ⟨_, rfl, ⟨by simp; omega, .inr ⟨g, cap, c2, rfl, hg, k4, hroom, hcm, by omega, ?_⟩⟩, ?_⟩
        · have hl1 : cur.toList.length = cap := by simpa using hsz
          have e1 : c1.toList.take i = (ptrs ps).take i := by
            rw [k3, List.append_assoc, List.take_append_of_le_length (by simp; omega), List.take_take, Nat.min_eq_left (by omega), ← htk, List.take_take, Nat.min_eq_left (by omega)]
          have e2 : c1.toList.drop (i + 1) = (ptrs ps).drop i ++ cur.toList.drop (i + 1 + ((ptrs ps).drop i).length) := by
            rw [k3, List.append_assoc]
            exact List.drop_left' (by simp; omega)
          rw [Nat.mul_one, k6, e1]
          simp only [List.length_singleton]
          rw [e2, ← List.append_assoc, List.take_append_of_le_length (by simp; omega), List.take_of_length_le (by simp; omega)]
        · exact ⟨World.grownBy.trans (grown_ext' (Ext.refl w).drew) (World.grownBy.trans (grown_setCells g _ _ _) (grown_setCells g _ _ _)), .inl rfl⟩
    · have hie : i = ps.length := by omega
      subst hie
      have ht : (ptrs ps).take ps.length = ptrs ps := List.take_of_length_le (by simp)
      have hd : (ptrs ps).drop ps.length = [] := List.drop_eq_nil_of_le (by simp)
      rw [ht, hd, List.append_nil]
      rcases Nat.lt_or_ge cap (ps.length + 1) with hroom | hroom
      · refine (kinsert_end_grow (some ⟨g, 0, none⟩) ps.length cap vb 0 1 1 (ptrs ps) [ptr p] w (by decide) hnc hroom (by omega) hpl rfl (fun h => by cases h) (fun a ha j u hj => by cases ha; rw [Addr.add_lit]; exact hcs j u hj) hvs h1v).mono ?_
        rintro e w' ⟨rfl, rfl⟩
        have hG1 := grownCap_ge w (ps.length + 1) cap 30
        refine ⟨_, rfl, ⟨by simp, .inr ⟨w.heap.size, _, _, rfl, hbase, heap_new w.drew _, hG1, ?_, ?_, ?_⟩⟩, ?_⟩
        · exact grownCap_le_maxLen w _ _ KP (by unfold maxLen; omega)
        · simp [Builtin.zeroCells, Value.cells]; omega
        · simp only [Array.toList_append, Nat.mul_one]
          rw [List.take_append_of_le_length (by simp), List.take_of_length_le (by simp)]
        · exact ⟨grown_ext' ((Ext.refl w).drew.alloc (Nat.le_refl _) _), .inr rfl⟩
      · refine (kinsert_end_room g 0 ps.length cap vb 0 1 1 [ptr p] w (by decide) hroom hcm' rfl (fun j hj => by rw [Nat.add_assoc]; exact hsp _ (by omega)) (fun j hj => hfz _) hvs h1v).mono ?_
        rintro e w' ⟨rfl, rfl⟩
        rw [Nat.zero_add]
        obtain ⟨c1, k1, k2, k3⟩ := heap_setCells g KP (0, 0) [ptr p] ps.length w _ hh (by simp; omega)
        refine ⟨_, rfl, ⟨by simp, .inr ⟨g, cap, c1, rfl, hg, k1, hroom, hcm, by omega, ?_⟩⟩, grown_setCells g _ _ _, .inl rfl⟩
        rw [Nat.mul_one, k3, htk, List.take_append_of_le_length (by simp), List.take_of_length_le (by simp)]
end Go.Proofs.Ytkfiinmoecibcaa
/- Contract: slices.Delete of one kid. -/
namespace Go.Proofs.Ytkfiinmoecibcaa
open Go.RowKit Go.QS Go.QS.Nk Go.Shelf Go.Sort
set_option linter.unusedVariables false

def kdelRen : Go.Shelf.Ren := ⟨fun | 45 => 122 | x => x, fun | 0 => 0 | 3 => 3 | 4 => 4 | 22 => 99 | 23 => 30 | x => x, fun x => x⟩

theorem kdelLay : SlLaysE.n45 Try.prog kdelRen := {
  mixed := by kernel_rfl
  f45 := ⟨Try.f122.name, by decide, by kernel_rfl⟩
  t0 := Try.underlying0
  a0 := Try.isAgg0
  z0 := Try.sizeOf0
  v0 := Try.zeroValue0
  t3 := Try.underlying3
  a3 := Try.isAgg3
  z3 := Try.sizeOf3
  v3 := Try.zeroValue3
  t4 := Try.underlying4
  a4 := Try.isAgg4
  z4 := Try.sizeOf4
  v4 := Try.zeroValue4
  t22 := Try.underlying99
  a22 := Try.isAgg99
  z22 := Try.sizeOf99
  v22 := Try.zeroValue99
  a23 := Try.isAgg30
  z23 := Try.sizeOf30 }

def encN (o : Option Nat) : Value := .pointer (o.map fun g => ⟨g, 0, none⟩)
theorem encN_some (l : List Nat) : (l.map some).map encN = ptrs l := by
  simp only [List.map_map, ptrs]
  exact List.map_congr_left fun g _ => rfl

theorem infoK1 : ∃ i z, Try.prog.info? 30 = some i ∧ i.zero = some z ∧ i.size = 1 ∧ i.bytes = 8 ∧ z.cells.size = 1 := info_of (z := .pointer none) (by kernel_rfl) rfl

theorem kdelete_c (base : Nat) (w : World) (v : Value) (ps : List Nat) (i : Nat) (h : w.ownsRow base KP 1 v ps.length (ptrs ps)) (hi : i < ps.length) (h9 : ps.length ≤ 1000000000) :
    Calls Try.prog 122 #[v, .int .i64 i, .int .i64 ((i + 1 : Nat) : Int)] w fun e w' => ∃ v', e = .returned v' ∧ w'.ownsRow base KP 1 v' (ps.take i ++ ps.drop (i + 1)).length (ptrs (ps.take i ++ ps.drop (i + 1))) ∧ w.grownBy w' v.ownBlock ∧ v'.ownBlock = v.ownBlock := by
  rcases h.2 with ⟨rfl, h0⟩ | ⟨g, cap, cur, rfl, hg, hh, hnc, hcm, hsz, htk⟩
  · omega
  · obtain ⟨d, hd⟩ : ∃ d : Array (Option Nat), d = (ps.map some).toArray := ⟨_, rfl⟩
    have hdl : d.size = ps.length := by rw [hd]; simp
    have hdt : d.toList = ps.map some := by rw [hd]
    have hH : Holds encN w g 0 d := by
      intro j hj
      refine ⟨?_, by simp [World.frozen?, hh]⟩
      rw [Nat.zero_add, seg_of_heap hh, ← Array.getElem?_toList]
      have hj' : j < ps.length := by omega
      have e1 : (ptrs ps)[j]? = cur.toList[j]? := by rw [← htk, List.getElem?_take_of_lt (by omega)]
      rw [← e1, getElem!_pos d j hj]
      simp [ptrs, hd, encN, List.getElem?_eq_getElem hj']
    obtain ⟨i0, z0, hi0, hz0, hz1, hz2, hz3⟩ := infoK1
    have hc := AnyE.slices_Delete kdelLay encN (fun _ => rfl) none Try.zeroValue30 i0 hi0 hz1 g 0 cap i (i + 1) d w hH (by omega) (by unfold maxLen at hcm; omega) (by omega) (by omega)
    change Calls Try.prog 122 #[.slice (some ⟨g, 0, none⟩) d.size cap, .int .i64 i, .int .i64 ((i + 1 : Nat) : Int)] w _ at hc
    rw [hdl] at hc
    refine hc.mono ?_
    rintro e w' ⟨rfl, n, rfl⟩
    obtain ⟨nl, hnl⟩ : ∃ nl, nl = d.toList.take i ++ d.toList.drop (i + 1) ++ List.replicate (i + 1 - i) (none : Option Nat) := ⟨_, rfl⟩
    have hnlen : nl.length = ps.length := by rw [hnl, hdt]; simp; omega
    have hw : putRow encN (Sort.ahead w n) g 0 nl.toArray = (w.drewN n).setCells g 0 (nl.map encN) := Lib.putRow_eq_setCells encN w g 0 d nl n hH (by rw [hnlen, hdl])
    rw [← hnl, hw]
    have hcl : nl.map encN = ptrs (ps.take i ++ ps.drop (i + 1)) ++ [encN none] := by
      rw [hnl, hdt, show i + 1 - i = 1 by omega, List.map_append, List.map_append, ← List.map_take, ← List.map_drop, encN_some, encN_some, ptrs_append]
      rfl
    have hkl : (ps.take i ++ ps.drop (i + 1)).length = ps.length - 1 := by simp; omega
    obtain ⟨c1, k1, k2, k3⟩ := heap_setCells g KP (0, 0) (nl.map encN) 0 (w.drewN n) cur hh (by simp [hnlen]; omega)
    refine ⟨.slice (some ⟨g, 0, none⟩) (ps.length - 1) cap, by rw [show ps.length - (i + 1 - i) = ps.length - 1 by omega], ?_, World.grownBy.trans (grown_ext' (below_drewN (Ext.refl w) n)) (grown_setCells g _ _ _), rfl⟩
    rw [hkl]
    refine ⟨by rw [ptrs_length, hkl]; simp, .inr ⟨g, cap, c1, rfl, hg, k1, by omega, hcm, by omega, ?_⟩⟩
    rw [k3, List.take_zero, List.nil_append, hcl]
    rw [List.append_assoc, List.take_left' (by rw [ptrs_length, hkl]; simp)]
end Go.Proofs.Ytkfiinmoecibcaa
