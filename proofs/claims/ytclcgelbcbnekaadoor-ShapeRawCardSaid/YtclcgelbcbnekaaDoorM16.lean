/- Texts joined. -/
import Derived.Test.YtclcgelbcbnekaaDoorM04
import Derived.Test.YtclcgelbcbnekaaDoorRows
import Derived.Shelf.Spec.SlicesInsertGrow
import Derived.Shelf.SlicesE.Delete
import Derived.Test.YtclcgelbcbnekaaDoorM14
import Derived.Test.YtclcgelbcbnekaaDoorM15
import Derived.BigRegion
import Derived.Test.YtclcgelbcbnekaaDoorM05
set_option linter.unusedVariables false
set_option linter.unusedSimpArgs false
/- Contracts: slices.Insert at the slices of pairs: its four roads. -/
namespace Go.Proofs.YtclcgelbcbnekaaDoor
open Go.RowKit Go.QS Go.Lib Go.Shelf
set_option linter.unusedVariables false

abbrev zP : Value := .agg #[str [], str []]
theorem infoPm : (Tryd.prog.info? 45).map (fun i => (i.zero, i.size, i.bytes)) = some (some zP, 2, 32) := by kernel_rfl

set_option maxHeartbeats 4000000 in
set_option maxRecDepth 100000 in
theorem pinsert_shift (b off n c i vb voff m vc : Nat) (cs vs : List Value) (w : World) (hi : i < n) (hm : 0 < m) (hroom : n + m ≤ c) (hc63 : c ≤ 9223372036854775807) (hvb : vb ≠ b)
    (hcl : cs.length = n * 2) (hvl : vs.length = m * 2)
    (hcs : ∀ j v, cs[j]? = some v → w.cell? ⟨b, off + j, none⟩ = some v) (hsp : ∀ j, j < (n + m) * 2 → (w.cell? ⟨b, off + j, none⟩).isSome = true) (hfz : ∀ j, j < (n + m) * 2 → w.frozen? ⟨b, off + j, none⟩ = false)
    (hvs : ∀ j v, vs[j]? = some v → w.cell? ⟨vb, voff + j, none⟩ = some v) (h1c : ∀ v ∈ cs, v.oneCell' = true) (h1v : ∀ v ∈ vs, v.oneCell' = true)
    (tA tB : TypeId) (kA kB : Nat) (hsa : w.shape? vb = some (tA, kA)) (hsb : w.shape? b = some (tB, kB)) (hkB : kB ≠ 0) (hfa : w.frozen? ⟨vb, voff, none⟩ = false) (hfe : w.frozen? ⟨vb, kA, none⟩ = false) :
    Calls Tryd.prog 44 #[.slice (some ⟨b, off, none⟩) n c, .int .i64 i, .slice (some ⟨vb, voff, none⟩) m vc] w fun e w' =>
      e = .returned (.slice (some ⟨b, off, none⟩) (n + m) c) ∧ w' = (w.drew.setCells b (off + (i + m) * 2) (cs.drop (i * 2))).setCells b (off + i * 2) vs := by
  have hz1 : ¬ ((m : Int) = 0) := by omega
  have hz2 : ¬ ((i : Int) = (n : Int)) := by omega
  have hsz : (Tryd.prog.info? 45).map (·.size) = some 2 := by
    obtain ⟨i0, hi0, h0, h1, h2⟩ := info_parts infoPm
    rw [hi0]; simp [h1]
  have hov : ∀ lb cb, (callFunc 79 #[.slice (some ⟨vb, voff, none⟩) m vc, .slice (some ⟨b, off + (i + m) * 2, none⟩) lb cb]).run Tryd.prog w = .ok (.value (.bool false)) w := fun lb cb => by
    rw [run_callFunc_extern Tryd.func79 (by kernel_rfl) (by kernel_rfl) (by kernel_rfl) (e := Extern.SlicesOverlaps.overlaps #[43, 43] #[4]) (by kernel_rfl),
      Lib.run_overlaps_apart w 43 4 45 Tryd.underlying43 2 Tryd.sizeOf45 ⟨vb, voff, none⟩ ⟨b, off + (i + m) * 2, none⟩ m vc lb cb hvb tA tB kA kB hsa hsb hkB hfa hfe]
    rfl
  have hdl : (cs.drop (i * 2)).length = (n - i) * 2 := by rw [List.length_drop, hcl]; omega
  have mixed : Tryd.prog.follows .mixedOrders = true := by kernel_rfl
  have hw1 : IntKind.i64.wrap ((i : Int) + (m : Int)) = (i : Int) + (m : Int) := by rw [IntKind.wrap_i64]; omega
  have hb1 : (0 : Int) ≤ (i : Int) + (m : Int) := by omega
  have hin : i ≤ n := by omega
  have htn : ((i : Int) + (m : Int)).toNat = i + m := by omega
  have hb2 : ¬ (c = i + m) := by omega
  have hb3 : (i : Int) ≤ (n : Int) + (m : Int) := by omega
  have hb4 : ¬ (c = i) := by omega
  have hcp1 : ∀ ty dc sc, (Builtin.copy_ #[43, 43] ty #[.slice (some ⟨b, off + (i + m) * 2, none⟩) (n + m - (i + m)) dc, .slice (some ⟨b, off + i * 2, none⟩) (n + m - i) sc]).run Tryd.prog w.drew = .ok (goInt ((n - i : Nat) : Int)) (w.drew.setCells b (off + (i + m) * 2) (cs.drop (i * 2))) := fun ty dc sc =>
    run_copy_cellsK 2 (q := n - i) w.drew _ _ ty 45 b (off + (i + m) * 2) (n + m - (i + m)) dc ⟨b, off + i * 2, none⟩ (n + m - i) sc (cs.drop (i * 2)) Tryd.underlying43 hsz (by simp only [Nat.min_def]; split <;> omega) (by rw [hdl])
      (fun j v hj => by rw [Addr.add_lit, Nat.add_assoc]; exact hcs (i * 2 + j) v (by rwa [List.getElem?_drop] at hj))
      (fun j hj => by rw [Nat.add_assoc]; exact hsp _ (by omega)) (fun j hj => by rw [Nat.add_assoc]; exact hfz _ (by omega)) (fun v hv => h1c v (List.mem_of_mem_drop hv))
  obtain ⟨W1, hW1⟩ : ∃ W1, W1 = w.drew.setCells b (off + (i + m) * 2) (cs.drop (i * 2)) := ⟨_, rfl⟩
  have hsp1 : ∀ k, k < (n + m) * 2 → (W1.cell? ⟨b, off + k, none⟩).isSome = true := fun k hk => by
    rw [hW1]
    exact isSome_setCells b _ _ _ (fun j hj => by rw [Nat.add_assoc]; exact hsp _ (by omega)) _ (hsp k hk)
  have hcp2 : ∀ (W : World), (∀ x, W.cell? x = W1.cell? x) → (∀ x, W.frozen? x = W1.frozen? x) → ∀ ty dc, (Builtin.copy_ #[43, 43] ty #[.slice (some ⟨b, off + i * 2, none⟩) (n + m - i) dc, .slice (some ⟨vb, voff, none⟩) m vc]).run Tryd.prog W = .ok (goInt m) (W.setCells b (off + i * 2) vs) := fun W hWc hWf ty dc =>
    run_copy_cellsK 2 (q := m) W _ _ ty 45 b (off + i * 2) (n + m - i) dc ⟨vb, voff, none⟩ m vc vs Tryd.underlying43 hsz (by simp only [Nat.min_def]; split <;> omega) hvl
      (fun j v hj => by
        rw [Addr.add_lit, hWc, hW1, World.cell?_setCells_out b _ _ _ _ (fun h _ => absurd h hvb)]
        exact hvs j v hj)
      (fun j hj => by rw [hWc, Nat.add_assoc]; exact hsp1 _ (by omega)) (fun j hj => by rw [hWf, hW1, World.frozen?_setCells, Nat.add_assoc]; exact hfz _ (by omega)) h1v
  rw [← hW1] at hcp1
  go_enter Tryd.func44, Tryd.ntmps44
  go_wp2_with (simp only [hov])
  go_region_law_o (refine step_copy_runI rfl _ _ 43 43 rfl _ _ (by simp [Act.eval, Act.put]) (by simp [Act.eval, Act.put]) (hcp1 _ _ _) ?_)
  go_wp2_with (at_builtin; refine wpList_copy_runI _ rfl _ _ 43 43 rfl _ _ rfl rfl (hcp2 _ (fun _ => rfl) (fun _ => rfl) _ _) ?_)
  go_ret
  first | exact ⟨rfl, rfl⟩ | exact ⟨rfl, by rw [hW1]⟩

theorem infoPQ : ∃ i z, Tryd.prog.info? 45 = some i ∧ i.zero = some z ∧ i.size = 2 ∧ i.bytes = 32 ∧ z.cells.size = 2 := info_of (z := zP) (by kernel_rfl) rfl

set_option maxHeartbeats 4000000 in
set_option maxRecDepth 100000 in
theorem pinsert_end (base n : Nat) (w : World) (v : Value) (xs vs : List Value) (vb : Nat) (h : w.ownsRow base 45 2 v n xs) (hvl : vs.length = 2) (hvs : ∀ j v, vs[j]? = some v → w.cell? ⟨vb, 0 + j, none⟩ = some v) (h1v : ∀ v ∈ vs, v.oneCell' = true) (h9 : n ≤ 1000000000) (hbase : base ≤ w.heap.size) :
    Calls Tryd.prog 44 #[v, .int .i64 n, .slice (some ⟨vb, 0, none⟩) 1 1] w fun e w' =>
      ∃ v', e = .returned v' ∧ w'.ownsRow base 45 2 v' (n + 1) (xs ++ vs) ∧ w.grownBy w' v.ownBlock ∧ (v'.ownBlock = v.ownBlock ∨ v'.ownBlock = some w.heap.size) := by
  have mixed : Tryd.prog.follows .mixedOrders = true := by kernel_rfl
  have HS : Hid (Seg w (some ⟨vb, 0, none⟩) vs) := Lib.hid (fun _ => ⟨vb, 0, rfl, hvs⟩)
  have HO := Lib.hid h
  have H1 := Lib.hid (And.intro hvl h1v)
  have hsl : ∃ A c, v = .slice A n c ∧ n ≤ c ∧ c ≤ maxLen := by obtain ⟨A, c, e, _, h1, h2, _⟩ := Sl.of_own h; exact ⟨A, c, e, h1, h2⟩
  obtain ⟨A, c, rfl, hnc, hcm⟩ := hsl
  unfold maxLen at hcm
  obtain ⟨A2, hrun, _⟩ := run_fromP Tryd.underlying43 infoPQ A (Nat.le_refl n) hnc
  rw [Nat.sub_self] at hrun
  have hr2 : ∀ W, (Instr.slice 43 (.slice A n c) (some (.int .i64 (n : Int))) none none).run Tryd.prog W = _ := hrun
  clear h hvl h1v hvs hrun
  go_enter Tryd.func44, Tryd.ntmps44
  repeat' (first | (at_builtin; refine wpList_app rfl _ _ 43 rfl base 45 2 32 Tryd.underlying43 infoPQ (by decide) _ n xs rfl HO.out _ 1 1 vs rfl H1.out.1 HS.out H1.out.2 (by unfold maxLen; omega) (by omega) hbase ?_; intro v5 w5 hown5 hg5 hor5) | go_skip | go_guarded | go_step)
  go_ret
  exact ⟨_, rfl, hown5, hg5, hor5⟩

set_option maxHeartbeats 4000000 in
set_option maxRecDepth 100000 in
theorem pinsert_grow (b off n c i vb voff m vc : Nat) (cs vs : List Value) (w : World) (hi : i < n) (hm : 0 < m) (hnc : n ≤ c) (hroom : c < n + m) (hbig : (n + m) * 32 ≤ 140737488355328)
    (hcl : cs.length = n * 2) (hvl : vs.length = m * 2)
    (hcs : ∀ j v, cs[j]? = some v → w.cell? ⟨b, off + j, none⟩ = some v)
    (hvs : ∀ j v, vs[j]? = some v → w.cell? ⟨vb, voff + j, none⟩ = some v) (h1c : ∀ v ∈ cs, v.oneCell' = true) (h1v : ∀ v ∈ vs, v.oneCell' = true) :
    Calls Tryd.prog 44 #[.slice (some ⟨b, off, none⟩) n c, .int .i64 i, .slice (some ⟨vb, voff, none⟩) m vc] w fun e w' =>
      e = .returned (.slice (some ⟨w.heap.size, 0, none⟩) (n + m) (grownCap w (n + m) c 45)) ∧
      w' = (((w.alloc (.cells ((cs.take (i * 2)).toArray ++ Builtin.zeroCells zP.cells (n + m - i) ++ Builtin.zeroCells zP.cells (grownCap w (n + m) c 45 - (n + m))) 45)).drew.setCells w.heap.size (i * 2) vs).drew).setCells w.heap.size ((i + m) * 2) (cs.drop (i * 2)) := by
  have mixed : Tryd.prog.follows .mixedOrders = true := by kernel_rfl
  obtain ⟨i0, hi0, hz0, hzs, hzb⟩ := info_parts infoPm
  have hz1 : ¬ ((m : Int) = 0) := by omega
  have hz2 : ¬ ((i : Int) = (n : Int)) := by omega
  have hz3 : (c : Int) < (n : Int) + (m : Int) := by omega
  have hsz : (Tryd.prog.info? 45).map (·.size) = some 2 := by rw [hi0]; simp [hzs]
  have hbw : b < w.heap.size := block_lt_of_cell (hcs 0 _ (List.getElem?_eq_getElem (by omega)))
  have hvw : vb < w.heap.size := block_lt_of_cell (hvs 0 _ (List.getElem?_eq_getElem (by omega)))
  have hkk : (n : Int) + (m : Int) - (i : Int) = ((n + m - i : Nat) : Int) := by omega
  have hik : i + (n + m - i) = n + m := by omega
  have hold : (Builtin.firstCells i0.size i (.slice (some ⟨b, off, none⟩) i c)).run Tryd.prog w.drew = .ok (cs.take (i * 2)).toArray w.drew := by
    rw [hzs]
    exact run_firstCells_some w.drew 2 i ⟨b, off, none⟩ i c (cs.take (i * 2)) (by rw [List.length_take]; omega) (fun j v hj => by
      rw [Addr.add_lit]
      rw [List.getElem?_take] at hj
      split at hj
      · exact hcs j v hj
      · cases hj)
  have hrz : ∀ ty, (Builtin.append_ #[43, 3] ty #[.slice (some ⟨b, off, none⟩) i c, .int .i64 ((n : Int) + (m : Int) - (i : Int))]).run Tryd.prog w =
      .ok (.slice (some ⟨w.heap.size, 0, none⟩) (n + m) (grownCap w (n + m) c 45)) (w.drew.alloc (.cells ((cs.take (i * 2)).toArray ++ Builtin.zeroCells zP.cells (n + m - i) ++ Builtin.zeroCells zP.cells (grownCap w (n + m) c 45 - (n + m))) 45)) := fun ty => by
    have h := Lib.run_append_grow_zeros w 43 3 ty 45 i0 _ .i64 .i64 Tryd.underlying43 Tryd.underlying3 hi0 hz0 (some ⟨b, off, none⟩) i c (cs.take (i * 2)) hold (n + m - i) (by omega) (by omega) (by omega) (by omega) (by rw [hzb]; omega) (by rw [hzb, hik]; exact growslice_fits hroom hbig)
    rw [hik] at h
    rw [hkk]
    exact h
  obtain ⟨G, hG⟩ : ∃ G, G = grownCap w (n + m) c 45 := ⟨_, rfl⟩
  obtain ⟨ROW, hROW⟩ : ∃ ROW : Array Value, ROW = (cs.take (i * 2)).toArray ++ Builtin.zeroCells zP.cells (n + m - i) ++ Builtin.zeroCells zP.cells (G - (n + m)) := ⟨_, rfl⟩
  rw [← hG] at hrz ⊢
  rw [← hROW] at hrz ⊢
  have hRl : (n + m) * 2 ≤ ROW.size := by
    rw [hROW]
    simp only [Array.size_append, size_zeroCells, show zP.cells.size = 2 from rfl, List.size_toArray, List.length_take, hcl]
    omega
  obtain ⟨W1, hW1⟩ : ∃ W1, W1 = w.drew.alloc (.cells ROW 45) := ⟨_, rfl⟩
  rw [← hW1] at hrz
  have hN : ∀ j, j < (n + m) * 2 → (W1.cell? ⟨w.heap.size, j, none⟩).isSome = true := fun j hj => by
    rw [hW1, World.cell?_alloc_at (w := w.drew) ROW _ w.heap.size j rfl, Array.getElem?_eq_getElem (by omega)]; rfl
  have hNf : ∀ j, W1.frozen? ⟨w.heap.size, j, none⟩ = false := fun j => by rw [hW1]; exact World.frozen?_alloc_at (w := w.drew) ROW _ w.heap.size j rfl
  have hOb : ∀ j v, w.cell? ⟨b, j, none⟩ = some v → W1.cell? ⟨b, j, none⟩ = some v := fun j v h => by rw [hW1, World.cell?_alloc_past (w := w.drew) _ b j hbw]; exact h
  have hOv : ∀ j v, w.cell? ⟨vb, j, none⟩ = some v → W1.cell? ⟨vb, j, none⟩ = some v := fun j v h => by rw [hW1, World.cell?_alloc_past (w := w.drew) _ vb j hvw]; exact h
  have hcpA : ∀ (W : World), (∀ x, W.cell? x = W1.cell? x) → (∀ x, W.frozen? x = W1.frozen? x) → ∀ ty dc, (Builtin.copy_ #[43, 43] ty #[.slice (some ⟨w.heap.size, i * 2, none⟩) (n + m - i) dc, .slice (some ⟨vb, voff, none⟩) m vc]).run Tryd.prog W = .ok (goInt m) (W.setCells w.heap.size (i * 2) vs) := fun W hWc hWf ty dc =>
    run_copy_cellsK 2 (q := m) W _ _ ty 45 w.heap.size (i * 2) (n + m - i) dc ⟨vb, voff, none⟩ m vc vs Tryd.underlying43 hsz (by simp only [Nat.min_def]; split <;> omega) hvl
      (fun j v hj => by rw [Addr.add_lit, hWc]; exact hOv _ v (hvs j v hj))
      (fun j hj => by rw [hWc]; exact hN _ (by omega)) (fun j hj => by rw [hWf]; exact hNf _) h1v
  have hGn : n + m ≤ G := by rw [hG]; exact grownCap_ge w _ _ _
  have hG63 : G ≤ 9223372036854775807 := by
    have := grownCap_le_maxLen w (n + m) c 45 (by unfold maxLen; omega)
    rw [← hG] at this
    unfold maxLen at this
    omega
  have hGi : ¬ (G = i) := by omega
  have hGim : ¬ (G = i + m) := by omega
  have hci : ¬ (c = i) := by omega
  have hbN : b ≠ w.heap.size := by omega
  have hdl : (cs.drop (i * 2)).length = (n - i) * 2 := by rw [List.length_drop, hcl]; omega
  have hcpB : ∀ (W : World), (∀ x, W.cell? x = (W1.setCells w.heap.size (i * 2) vs).cell? x) → (∀ x, W.frozen? x = (W1.setCells w.heap.size (i * 2) vs).frozen? x) → ∀ ty dc sc, (Builtin.copy_ #[43, 43] ty #[.slice (some ⟨w.heap.size, (i + m) * 2, none⟩) (n + m - (i + m)) dc, .slice (some ⟨b, off + i * 2, none⟩) (n - i) sc]).run Tryd.prog W = .ok (goInt ((n - i : Nat) : Int)) (W.setCells w.heap.size ((i + m) * 2) (cs.drop (i * 2))) := fun W hWc hWf ty dc sc =>
    run_copy_cellsK 2 (q := n - i) W _ _ ty 45 w.heap.size ((i + m) * 2) (n + m - (i + m)) dc ⟨b, off + i * 2, none⟩ (n - i) sc (cs.drop (i * 2)) Tryd.underlying43 hsz (by simp only [Nat.min_def]; split <;> omega) (by rw [hdl])
      (fun j v hj => by
        rw [Addr.add_lit, hWc, World.cell?_setCells_out _ _ _ _ _ (fun h _ => absurd h hbN), Nat.add_assoc]
        exact hOb _ v (hcs (i * 2 + j) v (by rwa [List.getElem?_drop] at hj)))
      (fun j hj => by rw [hWc]; exact isSome_setCells _ _ _ _ (fun t ht => hN _ (by omega)) _ (hN _ (by omega)))
      (fun j hj => by rw [hWf, World.frozen?_setCells]; exact hNf _) (fun v hv => h1c v (List.mem_of_mem_drop hv))
  subst hW1
  have hE1 : ∀ x, ((w.alloc (.cells ROW 45)).drew).cell? x = (w.drew.alloc (.cells ROW 45)).cell? x := fun x => rfl
  have hE2 : ∀ x, ((w.alloc (.cells ROW 45)).drew).frozen? x = (w.drew.alloc (.cells ROW 45)).frozen? x := fun x => rfl
  have hF1 : ∀ x, (((w.alloc (.cells ROW 45)).drew.setCells w.heap.size (i * 2) vs).drew).cell? x = ((w.drew.alloc (.cells ROW 45)).setCells w.heap.size (i * 2) vs).cell? x := fun x => rfl
  have hF2 : ∀ x, (((w.alloc (.cells ROW 45)).drew.setCells w.heap.size (i * 2) vs).drew).frozen? x = ((w.drew.alloc (.cells ROW 45)).setCells w.heap.size (i * 2) vs).frozen? x := fun x => rfl
  have hw1 : IntKind.i64.wrap ((i : Int) + (m : Int)) = (i : Int) + (m : Int) := by rw [IntKind.wrap_i64]; omega
  have hb1 : (0 : Int) ≤ (i : Int) + (m : Int) := by omega
  have hin : i ≤ n := by omega
  have htn : ((i : Int) + (m : Int)).toNat = i + m := by omega
  have hb3 : (i : Int) ≤ (n : Int) := by omega
  clear hkk hik hold hROW hG hRl
  go_enter Tryd.func44, Tryd.ntmps44
  go_wp2_with (first
    | (at_builtin; refine Lib.wpList_append_run _ rfl _ _ _ _ rfl _ _ rfl rfl _ _ (hrz _) ?_)
    | (at_builtin; refine wpList_copy_runI _ rfl _ _ 43 43 rfl _ _ rfl rfl (hcpA _ hE1 hE2 _ _) ?_)
    | (at_builtin; refine wpList_copy_runI _ rfl _ _ 43 43 rfl _ _ rfl rfl (hcpB _ (fun _ => rfl) (fun _ => rfl) _ _ _) ?_))
  go_region_law_o (refine step_copy_runI rfl _ _ 43 43 rfl (.slice (some ⟨w.heap.size, (i + m) * 2, none⟩) (n + m - (i + m)) (G - (i + m))) (.slice (some ⟨b, off + i * 2, none⟩) (n - i) (c - i)) (by simp [Act.eval, Act.put]) (by simp [Act.eval, Act.put]) (hcpB _ hF1 hF2 3 (G - (i + m)) (c - i)) ?_)
  go_wp2
  go_ret
  exact ⟨rfl, rfl⟩

end Go.Proofs.YtclcgelbcbnekaaDoor
/- Contract: slices.Insert of one pair into a row of one's own. -/
namespace Go.Proofs.YtclcgelbcbnekaaDoor
open Go.RowKit Go.QS Go.QS.Nk Go.Lib
set_option linter.unusedVariables false

abbrev PP : TypeId := 45
theorem flat_in (l : List Pr) (i : Nat) (p : Pr) : flat (l.take i ++ p :: l.drop i) = (flat l).take (i * 2) ++ encP p ++ (flat l).drop (i * 2) := by
  rw [flat_append, ← flat_take, ← flat_drop]
  simp [flat]

set_option maxRecDepth 100000 in
theorem pinsert_c (base : Nat) (w : World) (v : Value) (l : List Pr) (i vb : Nat) (p : Pr) (h : w.ownsRow base PP 2 v l.length (flat l)) (hi : i ≤ l.length) (hv : w.heap[vb]? = some (.cells #[str p.1, str p.2] PP (0, 0))) (hne : v.ownBlock ≠ some vb) (h9 : l.length ≤ 1000000000) (hbase : base ≤ w.heap.size) :
    Calls Tryd.prog 44 #[v, .int .i64 i, .slice (some ⟨vb, 0, none⟩) 1 1] w fun e w' => ∃ v', e = .returned v' ∧ w'.ownsRow base PP 2 v' (l.take i ++ p :: l.drop i).length (flat (l.take i ++ p :: l.drop i)) ∧ w.grownBy w' v.ownBlock ∧ (v'.ownBlock = v.ownBlock ∨ v'.ownBlock = some w.heap.size) := by
  have hlen : (l.take i ++ p :: l.drop i).length = l.length + 1 := by simp; omega
  rw [hlen, flat_in]
  have hvs : ∀ j u, (encP p)[j]? = some u → w.cell? ⟨vb, 0 + j, none⟩ = some u := by
    intro j u hj
    rw [seg_of_heap hv, Nat.zero_add]
    simpa [encP] using hj
  have h1v : ∀ u ∈ encP p, u.oneCell' = true := by intro u hu; simp [encP] at hu; rcases hu with rfl | rfl <;> rfl
  have hpl := flat_length l
  have hel : (encP p).length = 2 := rfl
  rcases Nat.lt_or_ge i l.length with hin | hin
  · rcases h.2 with ⟨rfl, h0⟩ | ⟨g, cap, cur, rfl, hg, hh, hnc, hcm, hsz, htk⟩
    · omega
    · have hcs : ∀ j u, (flat l)[j]? = some u → w.cell? ⟨g, 0 + j, none⟩ = some u := by
        intro j u hj
        rw [seg_of_heap hh, Nat.zero_add, ← Array.getElem?_toList]
        rw [← htk, List.getElem?_take] at hj
        split at hj
        · exact hj
        · cases hj
      have hfz : ∀ j, w.frozen? ⟨g, j, none⟩ = false := fun j => by simp [World.frozen?, hh]
      have hsp : ∀ j, j < cap * 2 → (w.cell? ⟨g, 0 + j, none⟩).isSome = true := by
        intro j hj
        rw [seg_of_heap hh, Nat.zero_add, Array.getElem?_eq_getElem (by omega)]; rfl
      have hgw := heap_lt hh
      have hgb : vb ≠ g := fun e => hne (by rw [e]; rfl)
      have hcm' : cap ≤ 9223372036854775807 := by unfold maxLen at hcm; omega
      have hl1 : cur.toList.length = cap * 2 := by simpa using hsz
      rcases Nat.lt_or_ge cap (l.length + 1) with hroom | hroom
      · refine (pinsert_grow g 0 l.length cap i vb 0 1 1 (flat l) (encP p) w hin (by decide) hnc hroom (by omega) hpl rfl hcs hvs (flat_one _) h1v).mono ?_
        rintro e w' ⟨rfl, rfl⟩
        obtain ⟨G, hG⟩ : ∃ G, G = grownCap w (l.length + 1) cap PP := ⟨_, rfl⟩
        have hG1 : l.length + 1 ≤ G := by rw [hG]; exact grownCap_ge w _ _ _
        have hG2 : G ≤ maxLen := by rw [hG]; exact grownCap_le_maxLen w _ _ _ (by unfold maxLen; omega)
        rw [← hG]
        obtain ⟨R, hR⟩ : ∃ R : Array Value, R = ((flat l).take (i * 2)).toArray ++ Builtin.zeroCells zP.cells (l.length + 1 - i) ++ Builtin.zeroCells zP.cells (G - (l.length + 1)) := ⟨_, rfl⟩
        rw [← hR]
        have hz2 : zP.cells.size = 2 := rfl
        have hRs : R.size = G * 2 := by
          rw [hR]
          simp only [Array.size_append, size_zeroCells, hz2, List.size_toArray, List.length_take, hpl]
          omega
        have hRt : R.toList.take (i * 2) = (flat l).take (i * 2) := by
          rw [hR]
          simp only [Array.toList_append, List.append_assoc]
          rw [List.take_append_of_le_length (by simp only [List.length_take, hpl]; omega), List.take_take, Nat.min_self]
        have hR0 : ((w.alloc (.cells R PP)).drew).heap[w.heap.size]? = some (.cells R PP (0, 0)) := heap_new w _
        have hdl : ((flat l).drop (i * 2)).length = (l.length - i) * 2 := by rw [List.length_drop, hpl]; omega
        obtain ⟨c1, k1, k2, k3⟩ := heap_setCells w.heap.size PP (0, 0) (encP p) (i * 2) _ _ hR0 (by rw [hel]; omega)
        obtain ⟨c2, k4, k5, k6⟩ := heap_setCells w.heap.size PP (0, 0) ((flat l).drop (i * 2)) ((i + 1) * 2) ((((w.alloc (.cells R PP)).drew).setCells w.heap.size (i * 2) (encP p)).drew) _ k1 (by omega)
        refine ⟨_, rfl, ⟨by simp [hel]; omega, .inr ⟨w.heap.size, G, c2, rfl, hbase, k4, hG1, hG2, by omega, ?_⟩⟩, ?_, .inr rfl⟩
        · have e1 : c1.toList.take ((i + 1) * 2) = (flat l).take (i * 2) ++ encP p := by
            rw [k3, hRt]
            rw [List.take_append_of_le_length (by simp [hel]; omega)]
            rw [List.take_of_length_le (by simp [hel]; omega)]
          rw [k6, e1]
          rw [List.take_append_of_le_length (by simp [hel]; omega), List.take_of_length_le (by simp [hel]; omega)]
        · refine (grown_ext' ?_ : w.grownBy _ _)
          exact Go.QS.Nk.below_setCells _ (Nat.le_refl _) _ _ _ (Below.drew (Go.QS.Nk.below_setCells _ (Nat.le_refl _) _ _ _ ((Ext.refl w).alloc (Nat.le_refl _) _).drew))
      · refine (pinsert_shift g 0 l.length cap i vb 0 1 1 (flat l) (encP p) w hin (by decide) hroom hcm' hgb hpl rfl hcs (fun j hj => hsp j (by omega)) (fun j hj => hfz _) hvs (flat_one _) h1v PP PP 2 (cap * 2) (by simp [World.shape?, hv]) (by simp [World.shape?, hh, hsz]) (by omega) (by simp [World.frozen?, hv]) (by simp [World.frozen?, hv])).mono ?_
        rintro e w' ⟨rfl, rfl⟩
        rw [Nat.zero_add, Nat.zero_add]
        have hdl : ((flat l).drop (i * 2)).length = (l.length - i) * 2 := by rw [List.length_drop, hpl]; omega
        obtain ⟨c1, k1, k2, k3⟩ := heap_setCells g PP (0, 0) ((flat l).drop (i * 2)) ((i + 1) * 2) w.drew _ hh (by omega)
        obtain ⟨c2, k4, k5, k6⟩ := heap_setCells g PP (0, 0) (encP p) (i * 2) (w.drew.setCells g ((i + 1) * 2) ((flat l).drop (i * 2))) _ k1 (by rw [hel]; omega)
        refine ⟨_, rfl, ⟨by simp [hel]; omega, .inr ⟨g, cap, c2, rfl, hg, k4, hroom, hcm, by omega, ?_⟩⟩, ?_, .inl rfl⟩
        · have e1 : c1.toList.take (i * 2) = (flat l).take (i * 2) := by
            rw [k3, List.append_assoc, List.take_append_of_le_length (by simp; omega), List.take_take, Nat.min_eq_left (by omega), ← htk, List.take_take, Nat.min_eq_left (by omega)]
          have e2 : c1.toList.drop ((i + 1) * 2) = (flat l).drop (i * 2) ++ cur.toList.drop ((i + 1) * 2 + ((flat l).drop (i * 2)).length) := by
            rw [k3, List.append_assoc]
            exact List.drop_left' (by simp; omega)
          rw [k6, e1, hel, show i * 2 + 2 = (i + 1) * 2 by omega, e2, ← List.append_assoc, List.take_append_of_le_length (by simp [hel]; omega), List.take_of_length_le (by simp [hel]; omega)]
        · exact World.grownBy.trans (grown_ext' (Ext.refl w).drew) (World.grownBy.trans (grown_setCells g _ _ _) (grown_setCells g _ _ _))
  · have hie : i = l.length := by omega
    subst hie
    have ht : (flat l).take (l.length * 2) = flat l := List.take_of_length_le (by rw [hpl]; omega)
    have hd : (flat l).drop (l.length * 2) = [] := List.drop_eq_nil_of_le (by rw [hpl]; omega)
    rw [ht, hd, List.append_nil]
    exact pinsert_end base l.length w v (flat l) (encP p) vb h rfl hvs h1v h9 hbase
end Go.Proofs.YtclcgelbcbnekaaDoor
/- Contract: slices.Delete of one pair. -/
namespace Go.Proofs.YtclcgelbcbnekaaDoor
open Go.RowKit Go.QS Go.QS.Nk Go.Shelf
set_option linter.unusedVariables false

theorem run_clear_pair {P : Program} (w : World) (t e ty : TypeId) (z : Value) (ht : P.underlying t = some (.slice e)) (hv : ∀ w, (zeroValue e).run P w = .ok z w) (hz : z.cells = #[str [], str []]) (b o c : Nat)
    (hc : ∀ j, j < 2 → (w.cell? ⟨b, o + j, none⟩).isSome = true) (hf : ∀ j, j < 2 → w.frozen? ⟨b, o + j, none⟩ = false) :
    (Builtin.clear_ #[t] ty #[.slice (some ⟨b, o, none⟩) 1 c]).run P w = .ok (.tuple #[]) (w.setCells b o [str [], str []]) := by
  have hzc : (Builtin.zeroCells z.cells 1).toList = [str [], str []] := by
    rw [hz]
    simp only [Builtin.zeroCells]
    apply List.ext_getElem
    · simp
    · intro i h1 h2
      have h2' : i < 2 := h2
      match i, h2' with
      | 0, _ => simp
      | 1, _ => simp
  have hst := run_storeCells_cells (P := P) b o [str [], str []] 0 w (by simpa using hc) (by simpa using hf) (by intro v hv'; simp at hv'; subst hv'; rfl)
  simp only [Nat.add_zero] at hst
  simp [Builtin.clear_, run_underlying ht, hv, hzc, hst]

set_option maxRecDepth 100000 in
set_option maxHeartbeats 1000000 in
theorem pdelete_c (base : Nat) (w : World) (v : Value) (l : List Pr) (i : Nat) (h : w.ownsRow base PP 2 v l.length (flat l)) (hi : i < l.length) (h9 : l.length ≤ 1000000000) :
    Calls Tryd.prog 76 #[v, .int .i64 i, .int .i64 ((i + 1 : Nat) : Int)] w fun e w' => ∃ v', e = .returned v' ∧ w'.ownsRow base PP 2 v' (l.take i ++ l.drop (i + 1)).length (flat (l.take i ++ l.drop (i + 1))) ∧ w.grownBy w' v.ownBlock ∧ v'.ownBlock = v.ownBlock := by
  rcases h.2 with ⟨rfl, h0⟩ | ⟨g, cap, cur, rfl, hg, hh, hnc, hcm, hsz, htk⟩
  · omega
  · have mixed : Tryd.prog.follows .mixedOrders = true := by kernel_rfl
    obtain ⟨n, hn⟩ : ∃ n, n = l.length := ⟨_, rfl⟩
    obtain ⟨m, hm⟩ : ∃ m, m = n - (i + 1) := ⟨_, rfl⟩
    have hpl := flat_length l
    rw [← hn] at hpl hnc htk hi h9
    obtain ⟨news, hnews⟩ : ∃ news, news = (flat l).drop ((i + 1) * 2) := ⟨_, rfl⟩
    have hlen : news.length = m * 2 := by rw [hnews, List.length_drop, hpl]; omega
    have hcs : ∀ j u, (flat l)[j]? = some u → w.cell? ⟨g, j, none⟩ = some u := by
      intro j u hj
      rw [seg_of_heap hh, ← Array.getElem?_toList]
      rw [← htk, List.getElem?_take] at hj
      split at hj
      · exact hj
      · cases hj
    obtain ⟨A, hA, hsrc⟩ : ∃ A : Addr, (if cap = i + 1 then (some ⟨g, 0, none⟩ : Option Addr) else some ⟨g, (i + 1) * 2, none⟩) = some A ∧ Hid (∀ t u, news[t]? = some u → w.drew.cell? (A.add t) = some u) := by
      by_cases hc : cap = i + 1
      · refine ⟨⟨g, 0, none⟩, by simp [hc], fun t u hu => ?_⟩
        have h0 : news.length = 0 := by rw [hlen]; omega
        rw [List.length_eq_zero_iff.1 h0] at hu
        simp at hu
      · refine ⟨⟨g, (i + 1) * 2, none⟩, by simp [hc], fun t u hu => ?_⟩
        rw [Addr.add_lit]
        refine hcs _ u ?_
        rw [hnews, List.getElem?_drop] at hu
        exact hu
    have s1 : Hid (news.length = m * 2) := hlen
    have s2 : Hid (∀ u ∈ news, u.oneCell' = true) := by
      intro u hu
      rw [hnews] at hu
      exact flat_one l u (List.mem_of_mem_drop hu)
    have hisS : ∀ t, t < cap * 2 → (w.cell? ⟨g, t, none⟩).isSome = true := fun t ht => by rw [seg_of_heap hh, Array.getElem?_eq_getElem (by omega)]; rfl
    have hfz : ∀ t, w.frozen? ⟨g, t, none⟩ = false := fun t => by simp [World.frozen?, hh]
    have s3 : Hid (∀ t, t < news.length → (w.drew.cell? ⟨g, 0 + i * 2 + t, none⟩).isSome = true ∧ w.drew.frozen? ⟨g, 0 + i * 2 + t, none⟩ = false) := by
      intro t ht
      rw [hlen] at ht
      exact ⟨hisS _ (by omega), hfz _⟩
    obtain ⟨W1, hW1⟩ : ∃ W1, W1 = w.drew.setCells g (0 + i * 2) news := ⟨_, rfl⟩
    obtain ⟨c1, k1, k2, k3⟩ := heap_setCells g PP (0, 0) news (0 + i * 2) w.drew cur hh (by rw [hlen]; omega)
    rw [← hW1] at k1
    have hcl : ∀ ty, (Builtin.clear_ #[43] ty #[.slice (some ⟨g, (i + m) * 2, none⟩) (n - (i + m)) (cap - (i + m))]).run Tryd.prog W1 = .ok (.tuple #[]) (W1.setCells g ((i + m) * 2) [str [], str []]) := fun ty => by
      rw [show n - (i + m) = 1 by omega]
      exact run_clear_pair W1 _ _ ty zP Tryd.underlying43 Tryd.zeroValue45 rfl g ((i + m) * 2) _ (fun t ht => by rw [seg_of_heap k1, Array.getElem?_eq_getElem (by omega)]; rfl) (fun t ht => by simp [World.frozen?, k1])
    obtain ⟨c2, j1, j2, j3⟩ := heap_setCells g PP (0, 0) [str [], str []] ((i + m) * 2) W1 c1 k1 (by simp; omega)
    have HFIN : Hid ((W1.setCells g ((i + m) * 2) [str [], str []]).ownsRow base PP 2 (.slice (some ⟨g, 0, none⟩) (i + m) cap) (l.take i ++ l.drop (i + 1)).length (flat (l.take i ++ l.drop (i + 1))) ∧ w.grownBy (W1.setCells g ((i + m) * 2) [str [], str []]) (some g)) := by
      have hl1 : cur.toList.length = cap * 2 := by simpa using hsz
      have hll : (l.take i ++ l.drop (i + 1)).length = i + m := by simp; omega
      have hfl : flat (l.take i ++ l.drop (i + 1)) = (flat l).take (i * 2) ++ news := by rw [flat_append, flat_take, flat_drop, hnews]
      have e1 : c1.toList.take ((i + m) * 2) = (flat l).take (i * 2) ++ news := by
        rw [k3, Nat.zero_add]
        have e2 : cur.toList.take (i * 2) = (flat l).take (i * 2) := by rw [← htk, List.take_take, Nat.min_eq_left (by omega)]
        rw [e2, List.take_append_of_le_length (by simp [hlen, hpl]; omega), List.take_of_length_le (by simp [hlen, hpl]; omega)]
      refine Lib.hid ⟨⟨by rw [flat_length], .inr ⟨g, cap, c2, by rw [hll], hg, j1, by omega, hcm, by omega, ?_⟩⟩, ?_⟩
      · rw [hll, hfl, j3, e1, List.append_assoc, List.take_append_of_le_length (by simp [hlen, hpl]; omega), List.take_of_length_le (by simp [hlen, hpl]; omega)]
      · rw [hW1]
        exact World.grownBy.trans (grown_ext' (Ext.refl w).drew) (World.grownBy.trans (grown_setCells g _ _ _) (grown_setCells g _ _ _))
    have hW : Hid (W1 = w.drew.setCells g (0 + i * 2) news) := hW1
    have hic : i ≤ cap := by omega
    have hjc : i + 1 ≤ cap := by omega
    have hin : i + 1 ≤ n := by omega
    have hin2 : (i : Int) + 1 ≤ (n : Int) := by omega
    have hin0 : (0 : Int) ≤ (i : Int) + 1 := by omega
    have hine : ¬ ((i : Int) = ((i + 1 : Nat) : Int)) := by omega
    have hmm : n - (i + 1) = m := hm.symm
    have hcim : ¬ (cap = i + m) := by omega
    obtain ⟨i0, z0, hi0, hz0, hz1, hz2, hz3⟩ := infoPQ
    rw [← hn]
    have hcm' : cap ≤ 9223372036854775807 := by unfold maxLen at hcm; omega
    clear hW1 k1 k2 k3 j1 j2 j3 hlen hcs hisS hfz hn hm hpl htk hh hnews hsz h
    go_enter Tryd.func76, Tryd.ntmps76
    go_wp2_with fail
    go_region_law_o (refine step_append_room rfl (.tmp 22) (.tmp 25) 43 rfl PP i0 2 Tryd.underlying43 hi0 hz1 g 0 i cap (by simp [Act.eval, Act.put]) A m (cap - (i + 1)) news (by simp [Act.eval, Act.put]) s1.out hsrc.out s2.out (by omega) s3.out ?_; rw [← hW.out])
    go_wp2
    go_ret
    exact ⟨_, rfl, HFIN.out.1, HFIN.out.2, rfl⟩
end Go.Proofs.YtclcgelbcbnekaaDoor
/- Contract: a chunk of a node of one's own is emptied (its slots' drop). -/
namespace Go.Proofs.YtclcgelbcbnekaaDoor
open Go.RowKit Go.QS Go.QS.Nk
set_option linter.unusedVariables false
variable [Zero (Nat → Prop)]
set_option linter.unusedSectionVars false

/-- An inner node, its rows its own. -/
def InO (base : Nat) (w : World) (g : Nat) (sl : List (Slot Nat)) (ow : Option Addr) (pv kv : Value) : Prop := sl.length = 32 ∧ NdO ND NP NK base w g (dataOf sl) (nodesOf sl) (prsOf sl) (kdsOf sl) false ow pv kv
theorem only_set2 (w : World) (g a b : Nat) (u v : Value) : Only (fun k => k = g) w ((w.setCell ⟨g, a, none⟩ u).setCell ⟨g, b, none⟩ v) := (Only.setCell (S := fun k => k = g) (Only.setCell (S := fun k => k = g) (Only.refl w) (p := ⟨g, a, none⟩) (.inl rfl) u) (p := ⟨g, b, none⟩) (.inl rfl) v)
theorem clr_eq {f : Slot Nat → Bool} {sl : List (Slot Nat)} {i : Nat} (h : sl.length = 32) (hi : i < 32) {s : Slot Nat} (hs : f s = false) : clr (bitsOf f sl) i = bitsOf f (sl.set i s) := by
  apply Nat.eq_of_testBit_eq
  intro j
  rw [clr_bit _ _ _ (bits32 f h), bits_off f (by omega) hs]

set_option maxRecDepth 100000 in
set_option maxHeartbeats 2000000 in
theorem drop_6 (wr : World) (g i d n : Nat) (pv kv : Value) (bk : Bool) (ow : Option Addr) (h : NdAt ND wr g d n pv kv bk ow) (hd9 : d < 4294967296) (hn9 : n < 4294967296) (hi : i < 32) (c : Code) (Q : Exit → Act → World → Prop) (t2 t3 t4 t5 t6 t7 t8 t9 t10 t11 t12 t13 t14 t15 t16 t17 t18 t19 t20 t21 t22 t23 t24 t25 t26 t27 t28 t29 t30 t31 t32 t33 t34 t35 t36 t37 t38 t39 t40 t41 t42 t43 t44 t45 t46 t47 t48 t49 t50 t51 t52 t53 t54 t55 t56 t57 t58 t59 t60 t61 t62 t63 t64 t65 t66 t67 t68 t69 : Value)
    (hc : (Tryd.f43.body.bind (findR 6)) = some c)
    (hQ : ∀ (u52 u53 u54 u55 u56 u57 u58 u59 u60 u61 u62 u63 u64 u65 u66 u67 u68 u69 : Value) (wx : World), NdAt ND wx g (clr d i) (clr n i) pv kv bk ow → Only (fun k => k = g) wr wx → Q .normal { tmps := List.toArray ((ptr g) :: (.int .i64 i) :: t2 :: t3 :: t4 :: t5 :: t6 :: t7 :: t8 :: t9 :: t10 :: t11 :: t12 :: t13 :: t14 :: t15 :: t16 :: t17 :: t18 :: t19 :: t20 :: t21 :: t22 :: t23 :: t24 :: t25 :: t26 :: t27 :: t28 :: t29 :: t30 :: t31 :: t32 :: t33 :: t34 :: t35 :: t36 :: t37 :: t38 :: t39 :: t40 :: t41 :: t42 :: t43 :: t44 :: t45 :: t46 :: t47 :: t48 :: t49 :: t50 :: t51 :: u52 :: u53 :: u54 :: u55 :: u56 :: u57 :: u58 :: u59 :: u60 :: u61 :: u62 :: u63 :: u64 :: u65 :: u66 :: u67 :: u68 :: u69 :: []), defers := [] } wx) :
    c.wp Tryd.prog Q { tmps := List.toArray ((ptr g) :: (.int .i64 i) :: t2 :: t3 :: t4 :: t5 :: t6 :: t7 :: t8 :: t9 :: t10 :: t11 :: t12 :: t13 :: t14 :: t15 :: t16 :: t17 :: t18 :: t19 :: t20 :: t21 :: t22 :: t23 :: t24 :: t25 :: t26 :: t27 :: t28 :: t29 :: t30 :: t31 :: t32 :: t33 :: t34 :: t35 :: t36 :: t37 :: t38 :: t39 :: t40 :: t41 :: t42 :: t43 :: t44 :: t45 :: t46 :: t47 :: t48 :: t49 :: t50 :: t51 :: t52 :: t53 :: t54 :: t55 :: t56 :: t57 :: t58 :: t59 :: t60 :: t61 :: t62 :: t63 :: t64 :: t65 :: t66 :: t67 :: t68 :: t69 :: []), defers := [] } wr := by
  change some _ = some c at hc
  cases hc
  have HQF := Lib.hid hQ
  clear hQ
  have hf := h.free
  obtain ⟨c0, c1, c2, c3, c4, c5⟩ := h.cells
  have HN := Lib.hid h
  clear h c2 c3 c4 c5
  refine wp_region_noPanic ?_
  go_region_with (first
    | (go_at_call 78; ((with_reducible refine (without_c _ d i hd9 hi).mono ?_); rintro e x1 ⟨rfl, rfl⟩))
    | (go_at_call 78; ((with_reducible refine (without_c _ n i hn9 hi).mono ?_); rintro e x1 ⟨rfl, rfl⟩)))
  all_goals
    refine NoPanic.normal ?_
    refine HQF.out _ _ _ _ _ _ _ _ _ _ _ _ _ _ _ _ _ _ _ ?_ ?_
    · first | exact (HN.out.set0 _).set1 _ | exact (HN.out.set1 _).set0 _
    · first | exact Only.drew (only_set2 wr g _ _ _ _) | exact only_set2 wr g _ _ _ _


end Go.Proofs.YtclcgelbcbnekaaDoor
