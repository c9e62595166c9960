/- Texts joined. -/
import Derived.Test.YtbmakajadelckaaM11
import Derived.Shelf.SlicesQ.Reverse
import Derived.Lib.RowBridge
import Derived.Shelf.SlicesE.Delete
import Derived.Test.YtbmakajadelckaaM03
import Derived.Test.YtbmakajadelckaaRows
import Derived.Shelf.Spec.SlicesInsertGrow
set_option linter.unusedVariables false
set_option linter.unusedSimpArgs false
/- Contract: slices.Delete of one kid. -/
namespace Go.Proofs.Ytbmakajadelckaa
open Go.RowKit Go.QS Go.QS.Nk Go.Shelf Go.Sort
set_option linter.unusedVariables false

def kdelRen : Go.Shelf.Ren := ⟨fun | 45 => 130 | x => x, fun | 0 => 0 | 3 => 3 | 4 => 4 | 22 => 102 | 23 => 30 | x => x, fun x => x⟩

theorem kdelLay : SlLaysE.n45 Try.prog kdelRen := {
  mixed := by kernel_rfl
  f45 := ⟨Try.f130.name, by decide, by kernel_rfl⟩
  t0 := Try.underlying0
  a0 := Try.isAgg0
  z0 := Try.sizeOf0
  v0 := Try.zeroValue0
  t3 := Try.underlying3
  a3 := Try.isAgg3
  z3 := Try.sizeOf3
  v3 := Try.zeroValue3
  t4 := Try.underlying4
  a4 := Try.isAgg4
  z4 := Try.sizeOf4
  v4 := Try.zeroValue4
  t22 := Try.underlying102
  a22 := Try.isAgg102
  z22 := Try.sizeOf102
  v22 := Try.zeroValue102
  a23 := Try.isAgg30
  z23 := Try.sizeOf30 }

def encN (o : Option Nat) : Value := .pointer (o.map fun g => ⟨g, 0, none⟩)
theorem encN_some (l : List Nat) : (l.map some).map encN = ptrs l := by
  simp only [List.map_map, ptrs]
  exact List.map_congr_left fun g _ => rfl

theorem infoK1 : ∃ i z, Try.prog.info? 30 = some i ∧ i.zero = some z ∧ i.size = 1 ∧ i.bytes = 8 ∧ z.cells.size = 1 := info_of (z := .pointer none) (by kernel_rfl) rfl

theorem kdelete_c (base : Nat) (w : World) (v : Value) (ps : List Nat) (i : Nat) (h : w.ownsRow base KP 1 v ps.length (ptrs ps)) (hi : i < ps.length) (h9 : ps.length ≤ 1000000000) :
    Calls Try.prog 130 #[v, .int .i64 i, .int .i64 ((i + 1 : Nat) : Int)] w fun e w' => ∃ v', e = .returned v' ∧ w'.ownsRow base KP 1 v' (ps.take i ++ ps.drop (i + 1)).length (ptrs (ps.take i ++ ps.drop (i + 1))) ∧ w.grownBy w' v.ownBlock ∧ v'.ownBlock = v.ownBlock := by
  rcases h.2 with ⟨rfl, h0⟩ | ⟨g, cap, cur, rfl, hg, hh, hnc, hcm, hsz, htk⟩
  · omega
  · obtain ⟨d, hd⟩ : ∃ d : Array (Option Nat), d = (ps.map some).toArray := ⟨_, rfl⟩
    have hdl : d.size = ps.length := by rw [hd]; simp
    have hdt : d.toList = ps.map some := by rw [hd]
    have hH : Holds encN w g 0 d := by
      intro j hj
      refine ⟨?_, by simp [World.frozen?, hh]⟩
      rw [Nat.zero_add, seg_of_heap hh, ← Array.getElem?_toList]
      have hj' : j < ps.length := by omega
      have e1 : (ptrs ps)[j]? = cur.toList[j]? := by rw [← htk, List.getElem?_take_of_lt (by omega)]
      rw [← e1, getElem!_pos d j hj]
      simp [ptrs, hd, encN, List.getElem?_eq_getElem hj']
    obtain ⟨i0, z0, hi0, hz0, hz1, hz2, hz3⟩ := infoK1
    have hc := AnyE.slices_Delete kdelLay encN (fun _ => rfl) none Try.zeroValue30 i0 hi0 hz1 g 0 cap i (i + 1) d w hH (by omega) (by unfold maxLen at hcm; omega) (by omega) (by omega)
    change Calls Try.prog 130 #[.slice (some ⟨g, 0, none⟩) d.size cap, .int .i64 i, .int .i64 ((i + 1 : Nat) : Int)] w _ at hc
    rw [hdl] at hc
    refine hc.mono ?_
    rintro e w' ⟨rfl, n, rfl⟩
    obtain ⟨nl, hnl⟩ : ∃ nl, nl = d.toList.take i ++ d.toList.drop (i + 1) ++ List.replicate (i + 1 - i) (none : Option Nat) := ⟨_, rfl⟩
    have hnlen : nl.length = ps.length := by rw [hnl, hdt]; simp; omega
    have hw : putRow encN (Sort.ahead w n) g 0 nl.toArray = (w.drewN n).setCells g 0 (nl.map encN) := Lib.putRow_eq_setCells encN w g 0 d nl n hH (by rw [hnlen, hdl])
    rw [← hnl, hw]
    have hcl : nl.map encN = ptrs (ps.take i ++ ps.drop (i + 1)) ++ [encN none] := by
      rw [hnl, hdt, show i + 1 - i = 1 by omega, List.map_append, List.map_append, ← List.map_take, ← List.map_drop, encN_some, encN_some, ptrs_append]
      rfl
    have hkl : (ps.take i ++ ps.drop (i + 1)).length = ps.length - 1 := by simp; omega
    obtain ⟨c1, k1, k2, k3⟩ := heap_setCells g KP (0, 0) (nl.map encN) 0 (w.drewN n) cur hh (by simp [hnlen]; omega)
    refine ⟨.slice (some ⟨g, 0, none⟩) (ps.length - 1) cap, by rw [show ps.length - (i + 1 - i) = ps.length - 1 by omega], ?_, World.grownBy.trans (grown_ext' (below_drewN (Ext.refl w) n)) (grown_setCells g _ _ _), rfl⟩
    rw [hkl]
    refine ⟨by rw [ptrs_length, hkl]; simp, .inr ⟨g, cap, c1, rfl, hg, k1, by omega, hcm, by omega, ?_⟩⟩
    rw [k3, List.take_zero, List.nil_append, hcl]
    rw [List.append_assoc, List.take_left' (by rw [ptrs_length, hkl]; simp)]
end Go.Proofs.Ytbmakajadelckaa
/- Contracts: slices.Insert at the slices of pairs: its four roads. -/
namespace Go.Proofs.Ytbmakajadelckaa
open Go.RowKit Go.QS Go.Lib Go.Shelf
set_option linter.unusedVariables false

abbrev zP : Value := .agg #[str [], str []]
theorem infoPm : (Try.prog.info? 40).map (fun i => (i.zero, i.size, i.bytes)) = some (some zP, 2, 32) := by kernel_rfl

set_option maxHeartbeats 4000000 in
set_option maxRecDepth 100000 in
theorem pinsert_shift (b off n c i vb voff m vc : Nat) (cs vs : List Value) (w : World) (hi : i < n) (hm : 0 < m) (hroom : n + m ≤ c) (hc63 : c ≤ 9223372036854775807) (hvb : vb ≠ b)
    (hcl : cs.length = n * 2) (hvl : vs.length = m * 2)
    (hcs : ∀ j v, cs[j]? = some v → w.cell? ⟨b, off + j, none⟩ = some v) (hsp : ∀ j, j < (n + m) * 2 → (w.cell? ⟨b, off + j, none⟩).isSome = true) (hfz : ∀ j, j < (n + m) * 2 → w.frozen? ⟨b, off + j, none⟩ = false)
    (hvs : ∀ j v, vs[j]? = some v → w.cell? ⟨vb, voff + j, none⟩ = some v) (h1c : ∀ v ∈ cs, v.oneCell' = true) (h1v : ∀ v ∈ vs, v.oneCell' = true)
    (tA tB : TypeId) (kA kB : Nat) (hsa : w.shape? vb = some (tA, kA)) (hsb : w.shape? b = some (tB, kB)) (hkB : kB ≠ 0) (hfa : w.frozen? ⟨vb, voff, none⟩ = false) (hfe : w.frozen? ⟨vb, kA, none⟩ = false) :
    Calls Try.prog 114 #[.slice (some ⟨b, off, none⟩) n c, .int .i64 i, .slice (some ⟨vb, voff, none⟩) m vc] w fun e w' =>
      e = .returned (.slice (some ⟨b, off, none⟩) (n + m) c) ∧ w' = (w.drew.setCells b (off + (i + m) * 2) (cs.drop (i * 2))).setCells b (off + i * 2) vs := by
  have hz1 : ¬ ((m : Int) = 0) := by omega
  have hz2 : ¬ ((i : Int) = (n : Int)) := by omega
  have hsz : (Try.prog.info? 40).map (·.size) = some 2 := by
    obtain ⟨i0, hi0, h0, h1, h2⟩ := info_parts infoPm
    rw [hi0]; simp [h1]
  have hov : ∀ lb cb, (callFunc 132 #[.slice (some ⟨vb, voff, none⟩) m vc, .slice (some ⟨b, off + (i + m) * 2, none⟩) lb cb]).run Try.prog w = .ok (.value (.bool false)) w := fun lb cb => by
    rw [run_callFunc_extern Try.func132 (by kernel_rfl) (by kernel_rfl) (by kernel_rfl) (e := Extern.SlicesOverlaps.overlaps #[27, 27] #[4]) (by kernel_rfl),
      Lib.run_overlaps_apart w 27 4 40 Try.underlying27 2 Try.sizeOf40 ⟨vb, voff, none⟩ ⟨b, off + (i + m) * 2, none⟩ m vc lb cb hvb tA tB kA kB hsa hsb hkB hfa hfe]
    rfl
  have hdl : (cs.drop (i * 2)).length = (n - i) * 2 := by rw [List.length_drop, hcl]; omega
  have mixed : Try.prog.follows .mixedOrders = true := by kernel_rfl
  have hw1 : IntKind.i64.wrap ((i : Int) + (m : Int)) = (i : Int) + (m : Int) := by rw [IntKind.wrap_i64]; omega
  have hb1 : (0 : Int) ≤ (i : Int) + (m : Int) := by omega
  have hin : i ≤ n := by omega
  have htn : ((i : Int) + (m : Int)).toNat = i + m := by omega
  have hb2 : ¬ (c = i + m) := by omega
  have hb3 : (i : Int) ≤ (n : Int) + (m : Int) := by omega
  have hb4 : ¬ (c = i) := by omega
  have hcp1 : ∀ ty dc sc, (Builtin.copy_ #[27, 27] ty #[.slice (some ⟨b, off + (i + m) * 2, none⟩) (n + m - (i + m)) dc, .slice (some ⟨b, off + i * 2, none⟩) (n + m - i) sc]).run Try.prog w.drew = .ok (goInt ((n - i : Nat) : Int)) (w.drew.setCells b (off + (i + m) * 2) (cs.drop (i * 2))) := fun ty dc sc =>
    run_copy_cellsK 2 (q := n - i) w.drew _ _ ty 40 b (off + (i + m) * 2) (n + m - (i + m)) dc ⟨b, off + i * 2, none⟩ (n + m - i) sc (cs.drop (i * 2)) Try.underlying27 hsz (by simp only [Nat.min_def]; split <;> omega) (by rw [hdl])
      (fun j v hj => by rw [Addr.add_lit, Nat.add_assoc]; exact hcs (i * 2 + j) v (by rwa [List.getElem?_drop] at hj))
      (fun j hj => by rw [Nat.add_assoc]; exact hsp _ (by omega)) (fun j hj => by rw [Nat.add_assoc]; exact hfz _ (by omega)) (fun v hv => h1c v (List.mem_of_mem_drop hv))
  obtain ⟨W1, hW1⟩ : ∃ W1, W1 = w.drew.setCells b (off + (i + m) * 2) (cs.drop (i * 2)) := ⟨_, rfl⟩
  have hsp1 : ∀ k, k < (n + m) * 2 → (W1.cell? ⟨b, off + k, none⟩).isSome = true := fun k hk => by
    rw [hW1]
    exact isSome_setCells b _ _ _ (fun j hj => by rw [Nat.add_assoc]; exact hsp _ (by omega)) _ (hsp k hk)
  have hcp2 : ∀ (W : World), (∀ x, W.cell? x = W1.cell? x) → (∀ x, W.frozen? x = W1.frozen? x) → ∀ ty dc, (Builtin.copy_ #[27, 27] ty #[.slice (some ⟨b, off + i * 2, none⟩) (n + m - i) dc, .slice (some ⟨vb, voff, none⟩) m vc]).run Try.prog W = .ok (goInt m) (W.setCells b (off + i * 2) vs) := fun W hWc hWf ty dc =>
    run_copy_cellsK 2 (q := m) W _ _ ty 40 b (off + i * 2) (n + m - i) dc ⟨vb, voff, none⟩ m vc vs Try.underlying27 hsz (by simp only [Nat.min_def]; split <;> omega) hvl
      (fun j v hj => by
        rw [Addr.add_lit, hWc, hW1, World.cell?_setCells_out b _ _ _ _ (fun h _ => absurd h hvb)]
        exact hvs j v hj)
      (fun j hj => by rw [hWc, Nat.add_assoc]; exact hsp1 _ (by omega)) (fun j hj => by rw [hWf, hW1, World.frozen?_setCells, Nat.add_assoc]; exact hfz _ (by omega)) h1v
  rw [← hW1] at hcp1
  go_enter Try.func114, Try.ntmps114
  go_wp2_with (simp only [hov])
  go_region_law_o (refine step_copy_runI rfl _ _ 27 27 rfl _ _ (by simp [Act.eval, Act.put]) (by simp [Act.eval, Act.put]) (hcp1 _ _ _) ?_)
  go_wp2_with (at_builtin; refine wpList_copy_runI _ rfl _ _ 27 27 rfl _ _ rfl rfl (hcp2 _ (fun _ => rfl) (fun _ => rfl) _ _) ?_)
  go_ret
  first | exact ⟨rfl, rfl⟩ | exact ⟨rfl, by rw [hW1]⟩

theorem infoPQ : ∃ i z, Try.prog.info? 40 = some i ∧ i.zero = some z ∧ i.size = 2 ∧ i.bytes = 32 ∧ z.cells.size = 2 := info_of (z := zP) (by kernel_rfl) rfl

set_option maxHeartbeats 4000000 in
set_option maxRecDepth 100000 in
theorem pinsert_end (base n : Nat) (w : World) (v : Value) (xs vs : List Value) (vb : Nat) (h : w.ownsRow base 40 2 v n xs) (hvl : vs.length = 2) (hvs : ∀ j v, vs[j]? = some v → w.cell? ⟨vb, 0 + j, none⟩ = some v) (h1v : ∀ v ∈ vs, v.oneCell' = true) (h9 : n ≤ 1000000000) (hbase : base ≤ w.heap.size) :
    Calls Try.prog 114 #[v, .int .i64 n, .slice (some ⟨vb, 0, none⟩) 1 1] w fun e w' =>
      ∃ v', e = .returned v' ∧ w'.ownsRow base 40 2 v' (n + 1) (xs ++ vs) ∧ w.grownBy w' v.ownBlock ∧ (v'.ownBlock = v.ownBlock ∨ v'.ownBlock = some w.heap.size) := by
  have mixed : Try.prog.follows .mixedOrders = true := by kernel_rfl
  have HS : Hid (Seg w (some ⟨vb, 0, none⟩) vs) := Lib.hid (fun _ => ⟨vb, 0, rfl, hvs⟩)
  have HO := Lib.hid h
  have H1 := Lib.hid (And.intro hvl h1v)
  have hsl : ∃ A c, v = .slice A n c ∧ n ≤ c ∧ c ≤ maxLen := by obtain ⟨A, c, e, _, h1, h2, _⟩ := Sl.of_own h; exact ⟨A, c, e, h1, h2⟩
  obtain ⟨A, c, rfl, hnc, hcm⟩ := hsl
  unfold maxLen at hcm
  obtain ⟨A2, hrun, _⟩ := run_fromP Try.underlying27 infoPQ A (Nat.le_refl n) hnc
  rw [Nat.sub_self] at hrun
  have hr2 : ∀ W, (Instr.slice 27 (.slice A n c) (some (.int .i64 (n : Int))) none none).run Try.prog W = _ := hrun
  clear h hvl h1v hvs hrun
  go_enter Try.func114, Try.ntmps114
  repeat' (first | (at_builtin; refine wpList_app rfl _ _ 27 rfl base 40 2 32 Try.underlying27 infoPQ (by decide) _ n xs rfl HO.out _ 1 1 vs rfl H1.out.1 HS.out H1.out.2 (by unfold maxLen; omega) (by omega) hbase ?_; intro v5 w5 hown5 hg5 hor5) | go_skip | go_guarded | go_step)
  go_ret
  exact ⟨_, rfl, hown5, hg5, hor5⟩

set_option maxHeartbeats 4000000 in
set_option maxRecDepth 100000 in
theorem pinsert_grow (b off n c i vb voff m vc : Nat) (cs vs : List Value) (w : World) (hi : i < n) (hm : 0 < m) (hnc : n ≤ c) (hroom : c < n + m) (hbig : (n + m) * 32 ≤ 140737488355328)
    (hcl : cs.length = n * 2) (hvl : vs.length = m * 2)
    (hcs : ∀ j v, cs[j]? = some v → w.cell? ⟨b, off + j, none⟩ = some v)
    (hvs : ∀ j v, vs[j]? = some v → w.cell? ⟨vb, voff + j, none⟩ = some v) (h1c : ∀ v ∈ cs, v.oneCell' = true) (h1v : ∀ v ∈ vs, v.oneCell' = true) :
    Calls Try.prog 114 #[.slice (some ⟨b, off, none⟩) n c, .int .i64 i, .slice (some ⟨vb, voff, none⟩) m vc] w fun e w' =>
      e = .returned (.slice (some ⟨w.heap.size, 0, none⟩) (n + m) (grownCap w (n + m) c 40)) ∧
      w' = (((w.alloc (.cells ((cs.take (i * 2)).toArray ++ Builtin.zeroCells zP.cells (n + m - i) ++ Builtin.zeroCells zP.cells (grownCap w (n + m) c 40 - (n + m))) 40)).drew.setCells w.heap.size (i * 2) vs).drew).setCells w.heap.size ((i + m) * 2) (cs.drop (i * 2)) := by
  have mixed : Try.prog.follows .mixedOrders = true := by kernel_rfl
  obtain ⟨i0, hi0, hz0, hzs, hzb⟩ := info_parts infoPm
  have hz1 : ¬ ((m : Int) = 0) := by omega
  have hz2 : ¬ ((i : Int) = (n : Int)) := by omega
  have hz3 : (c : Int) < (n : Int) + (m : Int) := by omega
  have hsz : (Try.prog.info? 40).map (·.size) = some 2 := by rw [hi0]; simp [hzs]
  have hbw : b < w.heap.size := block_lt_of_cell (hcs 0 _ (List.getElem?_eq_getElem (by omega)))
  have hvw : vb < w.heap.size := block_lt_of_cell (hvs 0 _ (List.getElem?_eq_getElem (by omega)))
  have hkk : (n : Int) + (m : Int) - (i : Int) = ((n + m - i : Nat) : Int) := by omega
  have hik : i + (n + m - i) = n + m := by omega
  have hold : (Builtin.firstCells i0.size i (.slice (some ⟨b, off, none⟩) i c)).run Try.prog w.drew = .ok (cs.take (i * 2)).toArray w.drew := by
    rw [hzs]
    exact run_firstCells_some w.drew 2 i ⟨b, off, none⟩ i c (cs.take (i * 2)) (by rw [List.length_take]; omega) (fun j v hj => by
      rw [Addr.add_lit]
      rw [List.getElem?_take] at hj
      split at hj
      · exact hcs j v hj
      · cases hj)
  have hrz : ∀ ty, (Builtin.append_ #[27, 3] ty #[.slice (some ⟨b, off, none⟩) i c, .int .i64 ((n : Int) + (m : Int) - (i : Int))]).run Try.prog w =
      .ok (.slice (some ⟨w.heap.size, 0, none⟩) (n + m) (grownCap w (n + m) c 40)) (w.drew.alloc (.cells ((cs.take (i * 2)).toArray ++ Builtin.zeroCells zP.cells (n + m - i) ++ Builtin.zeroCells zP.cells (grownCap w (n + m) c 40 - (n + m))) 40)) := fun ty => by
    have h := Lib.run_append_grow_zeros w 27 3 ty 40 i0 _ .i64 .i64 Try.underlying27 Try.underlying3 hi0 hz0 (some ⟨b, off, none⟩) i c (cs.take (i * 2)) hold (n + m - i) (by omega) (by omega) (by omega) (by omega) (by rw [hzb]; omega) (by rw [hzb, hik]; exact growslice_fits hroom hbig)
    rw [hik] at h
    rw [hkk]
    exact h
  obtain ⟨G, hG⟩ : ∃ G, G = grownCap w (n + m) c 40 := ⟨_, rfl⟩
  obtain ⟨ROW, hROW⟩ : ∃ ROW : Array Value, ROW = (cs.take (i * 2)).toArray ++ Builtin.zeroCells zP.cells (n + m - i) ++ Builtin.zeroCells zP.cells (G - (n + m)) := ⟨_, rfl⟩
  rw [← hG] at hrz ⊢
  rw [← hROW] at hrz ⊢
  have hRl : (n + m) * 2 ≤ ROW.size := by
    rw [hROW]
    simp only [Array.size_append, size_zeroCells, show zP.cells.size = 2 from rfl, List.size_toArray, List.length_take, hcl]
    omega
  obtain ⟨W1, hW1⟩ : ∃ W1, W1 = w.drew.alloc (.cells ROW 40) := ⟨_, rfl⟩
  rw [← hW1] at hrz
  have hN : ∀ j, j < (n + m) * 2 → (W1.cell? ⟨w.heap.size, j, none⟩).isSome = true := fun j hj => by
    rw [hW1, World.cell?_alloc_at (w := w.drew) ROW _ w.heap.size j rfl, Array.getElem?_eq_getElem (by omega)]; rfl
  have hNf : ∀ j, W1.frozen? ⟨w.heap.size, j, none⟩ = false := fun j => by rw [hW1]; exact World.frozen?_alloc_at (w := w.drew) ROW _ w.heap.size j rfl
  have hOb : ∀ j v, w.cell? ⟨b, j, none⟩ = some v → W1.cell? ⟨b, j, none⟩ = some v := fun j v h => by rw [hW1, World.cell?_alloc_past (w := w.drew) _ b j hbw]; exact h
  have hOv : ∀ j v, w.cell? ⟨vb, j, none⟩ = some v → W1.cell? ⟨vb, j, none⟩ = some v := fun j v h => by rw [hW1, World.cell?_alloc_past (w := w.drew) _ vb j hvw]; exact h
  have hcpA : ∀ (W : World), (∀ x, W.cell? x = W1.cell? x) → (∀ x, W.frozen? x = W1.frozen? x) → ∀ ty dc, (Builtin.copy_ #[27, 27] ty #[.slice (some ⟨w.heap.size, i * 2, none⟩) (n + m - i) dc, .slice (some ⟨vb, voff, none⟩) m vc]).run Try.prog W = .ok (goInt m) (W.setCells w.heap.size (i * 2) vs) := fun W hWc hWf ty dc =>
    run_copy_cellsK 2 (q := m) W _ _ ty 40 w.heap.size (i * 2) (n + m - i) dc ⟨vb, voff, none⟩ m vc vs Try.underlying27 hsz (by simp only [Nat.min_def]; split <;> omega) hvl
      (fun j v hj => by rw [Addr.add_lit, hWc]; exact hOv _ v (hvs j v hj))
      (fun j hj => by rw [hWc]; exact hN _ (by omega)) (fun j hj => by rw [hWf]; exact hNf _) h1v
  have hGn : n + m ≤ G := by rw [hG]; exact grownCap_ge w _ _ _
  have hG63 : G ≤ 9223372036854775807 := by
    have := grownCap_le_maxLen w (n + m) c 40 (by unfold maxLen; omega)
    rw [← hG] at this
    unfold maxLen at this
    omega
  have hGi : ¬ (G = i) := by omega
  have hGim : ¬ (G = i + m) := by omega
  have hci : ¬ (c = i) := by omega
  have hbN : b ≠ w.heap.size := by omega
  have hdl : (cs.drop (i * 2)).length = (n - i) * 2 := by rw [List.length_drop, hcl]; omega
  have hcpB : ∀ (W : World), (∀ x, W.cell? x = (W1.setCells w.heap.size (i * 2) vs).cell? x) → (∀ x, W.frozen? x = (W1.setCells w.heap.size (i * 2) vs).frozen? x) → ∀ ty dc sc, (Builtin.copy_ #[27, 27] ty #[.slice (some ⟨w.heap.size, (i + m) * 2, none⟩) (n + m - (i + m)) dc, .slice (some ⟨b, off + i * 2, none⟩) (n - i) sc]).run Try.prog W = .ok (goInt ((n - i : Nat) : Int)) (W.setCells w.heap.size ((i + m) * 2) (cs.drop (i * 2))) := fun W hWc hWf ty dc sc =>
    run_copy_cellsK 2 (q := n - i) W _ _ ty 40 w.heap.size ((i + m) * 2) (n + m - (i + m)) dc ⟨b, off + i * 2, none⟩ (n - i) sc (cs.drop (i * 2)) Try.underlying27 hsz (by simp only [Nat.min_def]; split <;> omega) (by rw [hdl])
      (fun j v hj => by
        rw [Addr.add_lit, hWc, World.cell?_setCells_out _ _ _ _ _ (fun h _ => absurd h hbN), Nat.add_assoc]
        exact hOb _ v (hcs (i * 2 + j) v (by rwa [List.getElem?_drop] at hj)))
      (fun j hj => by rw [hWc]; exact isSome_setCells _ _ _ _ (fun t ht => hN _ (by omega)) _ (hN _ (by omega)))
      (fun j hj => by rw [hWf, World.frozen?_setCells]; exact hNf _) (fun v hv => h1c v (List.mem_of_mem_drop hv))
  subst hW1
  have hE1 : ∀ x, ((w.alloc (.cells ROW 40)).drew).cell? x = (w.drew.alloc (.cells ROW 40)).cell? x := fun x => rfl
  have hE2 : ∀ x, ((w.alloc (.cells ROW 40)).drew).frozen? x = (w.drew.alloc (.cells ROW 40)).frozen? x := fun x => rfl
  have hF1 : ∀ x, (((w.alloc (.cells ROW 40)).drew.setCells w.heap.size (i * 2) vs).drew).cell? x = ((w.drew.alloc (.cells ROW 40)).setCells w.heap.size (i * 2) vs).cell? x := fun x => rfl
  have hF2 : ∀ x, (((w.alloc (.cells ROW 40)).drew.setCells w.heap.size (i * 2) vs).drew).frozen? x = ((w.drew.alloc (.cells ROW 40)).setCells w.heap.size (i * 2) vs).frozen? x := fun x => rfl
  have hw1 : IntKind.i64.wrap ((i : Int) + (m : Int)) = (i : Int) + (m : Int) := by rw [IntKind.wrap_i64]; omega
  have hb1 : (0 : Int) ≤ (i : Int) + (m : Int) := by omega
  have hin : i ≤ n := by omega
  have htn : ((i : Int) + (m : Int)).toNat = i + m := by omega
  have hb3 : (i : Int) ≤ (n : Int) := by omega
  clear hkk hik hold hROW hG hRl
  go_enter Try.func114, Try.ntmps114
  go_wp2_with (first
    | (at_builtin; refine Lib.wpList_append_run _ rfl _ _ _ _ rfl _ _ rfl rfl _ _ (hrz _) ?_)
    | (at_builtin; refine wpList_copy_runI _ rfl _ _ 27 27 rfl _ _ rfl rfl (hcpA _ hE1 hE2 _ _) ?_)
    | (at_builtin; refine wpList_copy_runI _ rfl _ _ 27 27 rfl _ _ rfl rfl (hcpB _ (fun _ => rfl) (fun _ => rfl) _ _ _) ?_))
  go_region_law_o (refine step_copy_runI rfl _ _ 27 27 rfl (.slice (some ⟨w.heap.size, (i + m) * 2, none⟩) (n + m - (i + m)) (G - (i + m))) (.slice (some ⟨b, off + i * 2, none⟩) (n - i) (c - i)) (by simp [Act.eval, Act.put]) (by simp [Act.eval, Act.put]) (hcpB _ hF1 hF2 3 (G - (i + m)) (c - i)) ?_)
  go_wp2
  go_ret
  exact ⟨rfl, rfl⟩

end Go.Proofs.Ytbmakajadelckaa
/- Contract: slices.Insert of one pair into a row of one's own. -/
namespace Go.Proofs.Ytbmakajadelckaa
open Go.RowKit Go.QS Go.QS.Nk Go.Lib
set_option linter.unusedVariables false

abbrev PP : TypeId := 40
theorem flat_in (l : List Pr) (i : Nat) (p : Pr) : flat (l.take i ++ p :: l.drop i) = (flat l).take (i * 2) ++ encP p ++ (flat l).drop (i * 2) := by
  rw [flat_append, ← flat_take, ← flat_drop]
  simp [flat]

set_option maxRecDepth 100000 in
theorem pinsert_c (base : Nat) (w : World) (v : Value) (l : List Pr) (i vb : Nat) (p : Pr) (h : w.ownsRow base PP 2 v l.length (flat l)) (hi : i ≤ l.length) (hv : w.heap[vb]? = some (.cells #[str p.1, str p.2] PP (0, 0))) (hne : v.ownBlock ≠ some vb) (h9 : l.length ≤ 1000000000) (hbase : base ≤ w.heap.size) :
    Calls Try.prog 114 #[v, .int .i64 i, .slice (some ⟨vb, 0, none⟩) 1 1] w fun e w' => ∃ v', e = .returned v' ∧ w'.ownsRow base PP 2 v' (l.take i ++ p :: l.drop i).length (flat (l.take i ++ p :: l.drop i)) ∧ w.grownBy w' v.ownBlock ∧ (v'.ownBlock = v.ownBlock ∨ v'.ownBlock = some w.heap.size) := by
  have hlen : (l.take i ++ p :: l.drop i).length = l.length + 1 := by simp; omega
  rw [hlen, flat_in]
  have hvs : ∀ j u, (encP p)[j]? = some u → w.cell? ⟨vb, 0 + j, none⟩ = some u := by
    intro j u hj
    rw [seg_of_heap hv, Nat.zero_add]
    simpa [encP] using hj
  have h1v : ∀ u ∈ encP p, u.oneCell' = true := by intro u hu; simp [encP] at hu; rcases hu with rfl | rfl <;> rfl
  have hpl := flat_length l
  have hel : (encP p).length = 2 := rfl
  rcases Nat.lt_or_ge i l.length with hin | hin
  · rcases h.2 with ⟨rfl, h0⟩ | ⟨g, cap, cur, rfl, hg, hh, hnc, hcm, hsz, htk⟩
    · omega
    · have hcs : ∀ j u, (flat l)[j]? = some u → w.cell? ⟨g, 0 + j, none⟩ = some u := by
        intro j u hj
        rw [seg_of_heap hh, Nat.zero_add, ← Array.getElem?_toList]
        rw [← htk, List.getElem?_take] at hj
        split at hj
        · exact hj
        · cases hj
      have hfz : ∀ j, w.frozen? ⟨g, j, none⟩ = false := fun j => by simp [World.frozen?, hh]
      have hsp : ∀ j, j < cap * 2 → (w.cell? ⟨g, 0 + j, none⟩).isSome = true := by
        intro j hj
        rw [seg_of_heap hh, Nat.zero_add, Array.getElem?_eq_getElem (by omega)]; rfl
      have hgw := heap_lt hh
      have hgb : vb ≠ g := fun e => hne (by rw [e]; rfl)
      have hcm' : cap ≤ 9223372036854775807 := by unfold maxLen at hcm; omega
      have hl1 : cur.toList.length = cap * 2 := by simpa using hsz
      rcases Nat.lt_or_ge cap (l.length + 1) with hroom | hroom
      · refine (pinsert_grow g 0 l.length cap i vb 0 1 1 (flat l) (encP p) w hin (by decide) hnc hroom (by omega) hpl rfl hcs hvs (flat_one _) h1v).mono ?_
        rintro e w' ⟨rfl, rfl⟩
        obtain ⟨G, hG⟩ : ∃ G, G = grownCap w (l.length + 1) cap PP := ⟨_, rfl⟩
        have hG1 : l.length + 1 ≤ G := by rw [hG]; exact grownCap_ge w _ _ _
        have hG2 : G ≤ maxLen := by rw [hG]; exact grownCap_le_maxLen w _ _ _ (by unfold maxLen; omega)
        rw [← hG]
        obtain ⟨R, hR⟩ : ∃ R : Array Value, R = ((flat l).take (i * 2)).toArray ++ Builtin.zeroCells zP.cells (l.length + 1 - i) ++ Builtin.zeroCells zP.cells (G - (l.length + 1)) := ⟨_, rfl⟩
        rw [← hR]
        have hz2 : zP.cells.size = 2 := rfl
        have hRs : R.size = G * 2 := by
          rw [hR]
          simp only [Array.size_append, size_zeroCells, hz2, List.size_toArray, List.length_take, hpl]
          omega
        have hRt : R.toList.take (i * 2) = (flat l).take (i * 2) := by
          rw [hR]
          simp only [Array.toList_append, List.append_assoc]
          rw [List.take_append_of_le_length (by simp only [List.length_take, hpl]; omega), List.take_take, Nat.min_self]
        have hR0 : ((w.alloc (.cells R PP)).drew).heap[w.heap.size]? = some (.cells R PP (0, 0)) := heap_new w _
        have hdl : ((flat l).drop (i * 2)).length = (l.length - i) * 2 := by rw [List.length_drop, hpl]; omega
        obtain ⟨c1, k1, k2, k3⟩ := heap_setCells w.heap.size PP (0, 0) (encP p) (i * 2) _ _ hR0 (by rw [hel]; omega)
        obtain ⟨c2, k4, k5, k6⟩ := heap_setCells w.heap.size PP (0, 0) ((flat l).drop (i * 2)) ((i + 1) * 2) ((((w.alloc (.cells R PP)).drew).setCells w.heap.size (i * 2) (encP p)).drew) _ k1 (by omega)
        refine ⟨_, rfl, ⟨by simp [hel]; omega, .inr ⟨w.heap.size, G, c2, rfl, hbase, k4, hG1, hG2, by omega, ?_⟩⟩, ?_, .inr rfl⟩
        · have e1 : c1.toList.take ((i + 1) * 2) = (flat l).take (i * 2) ++ encP p := by
            rw [k3, hRt]
            rw [List.take_append_of_le_length (by simp [hel]; omega)]
            rw [List.take_of_length_le (by simp [hel]; omega)]
          rw [k6, e1]
          rw [List.take_append_of_le_length (by simp [hel]; omega), List.take_of_length_le (by simp [hel]; omega)]
        · refine (grown_ext' ?_ : w.grownBy _ _)
          exact Go.QS.Nk.below_setCells _ (Nat.le_refl _) _ _ _ (Below.drew (Go.QS.Nk.below_setCells _ (Nat.le_refl _) _ _ _ ((Ext.refl w).alloc (Nat.le_refl _) _).drew))
      · refine (pinsert_shift g 0 l.length cap i vb 0 1 1 (flat l) (encP p) w hin (by decide) hroom hcm' hgb hpl rfl hcs (fun j hj => hsp j (by omega)) (fun j hj => hfz _) hvs (flat_one _) h1v PP PP 2 (cap * 2) (by simp [World.shape?, hv]) (by simp [World.shape?, hh, hsz]) (by omega) (by simp [World.frozen?, hv]) (by simp [World.frozen?, hv])).mono ?_
        rintro e w' ⟨rfl, rfl⟩
        rw [Nat.zero_add, Nat.zero_add]
        have hdl : ((flat l).drop (i * 2)).length = (l.length - i) * 2 := by rw [List.length_drop, hpl]; omega
        obtain ⟨c1, k1, k2, k3⟩ := heap_setCells g PP (0, 0) ((flat l).drop (i * 2)) ((i + 1) * 2) w.drew _ hh (by omega)
        obtain ⟨c2, k4, k5, k6⟩ := heap_setCells g PP (0, 0) (encP p) (i * 2) (w.drew.setCells g ((i + 1) * 2) ((flat l).drop (i * 2))) _ k1 (by rw [hel]; omega)
        refine ⟨_, rfl, ⟨by simp [hel]; omega, .inr ⟨g, cap, c2, rfl, hg, k4, hroom, hcm, by omega, ?_⟩⟩, ?_, .inl rfl⟩
        · have e1 : c1.toList.take (i * 2) = (flat l).take (i * 2) := by
            rw [k3, List.append_assoc, List.take_append_of_le_length (by simp; omega), List.take_take, Nat.min_eq_left (by omega), ← htk, List.take_take, Nat.min_eq_left (by omega)]
          have e2 : c1.toList.drop ((i + 1) * 2) = (flat l).drop (i * 2) ++ cur.toList.drop ((i + 1) * 2 + ((flat l).drop (i * 2)).length) := by
            rw [k3, List.append_assoc]
            exact List.drop_left' (by simp; omega)
          rw [k6, e1, hel, show i * 2 + 2 = (i + 1) * 2 by omega, e2, ← List.append_assoc, List.take_append_of_le_length (by simp [hel]; omega), List.take_of_length_le (by simp [hel]; omega)]
        · exact World.grownBy.trans (grown_ext' (Ext.refl w).drew) (World.grownBy.trans (grown_setCells g _ _ _) (grown_setCells g _ _ _))
  · have hie : i = l.length := by omega
    subst hie
    have ht : (flat l).take (l.length * 2) = flat l := List.take_of_length_le (by rw [hpl]; omega)
    have hd : (flat l).drop (l.length * 2) = [] := List.drop_eq_nil_of_le (by rw [hpl]; omega)
    rw [ht, hd, List.append_nil]
    exact pinsert_end base l.length w v (flat l) (encP p) vb h rfl hvs h1v h9 hbase
end Go.Proofs.Ytbmakajadelckaa
