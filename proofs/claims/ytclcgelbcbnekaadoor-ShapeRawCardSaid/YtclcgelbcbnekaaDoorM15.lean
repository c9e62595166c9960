/- Texts joined. -/
import Derived.Test.YtclcgelbcbnekaaDoorM04
import Derived.Test.YtclcgelbcbnekaaDoorRows
import Derived.Shelf.Spec.SlicesInsertGrow
import Derived.Shelf.SlicesQ.Reverse
import Derived.Lib.RowBridge
import Derived.Shelf.SlicesE.Delete
set_option linter.unusedVariables false
set_option linter.unusedSimpArgs false
/- Contracts: slices.Insert at the slices of nodes: its four roads. -/
namespace Go.Proofs.YtclcgelbcbnekaaDoor
open Go.RowKit Go.QS Go.QS.Nk Go.Lib Go.Shelf
set_option linter.unusedVariables false
variable [Zero (Nat → Prop)]
set_option linter.unusedSectionVars false

abbrev KP : TypeId := 29
theorem infoKn : (Tryd.prog.info? 29).map (fun i => (i.zero, i.size, i.bytes)) = some (some (Value.pointer none), 1, 8) := by kernel_rfl

set_option maxHeartbeats 4000000 in
set_option maxRecDepth 100000 in
theorem kinsert_shift (b off n c i vb voff m vc : Nat) (cs vs : List Value) (w : World) (hi : i < n) (hm : 0 < m) (hroom : n + m ≤ c) (hc63 : c ≤ 9223372036854775807) (hvb : vb ≠ b)
    (hcl : cs.length = n) (hvl : vs.length = m)
    (hcs : ∀ j v, cs[j]? = some v → w.cell? ⟨b, off + j, none⟩ = some v) (hsp : ∀ j, j < n + m → (w.cell? ⟨b, off + j, none⟩).isSome = true) (hfz : ∀ j, j < n + m → w.frozen? ⟨b, off + j, none⟩ = false)
    (hvs : ∀ j v, vs[j]? = some v → w.cell? ⟨vb, voff + j, none⟩ = some v) (h1c : ∀ v ∈ cs, v.oneCell' = true) (h1v : ∀ v ∈ vs, v.oneCell' = true)
    (tA tB : TypeId) (kA kB : Nat) (hsa : w.shape? vb = some (tA, kA)) (hsb : w.shape? b = some (tB, kB)) (hkB : kB ≠ 0) (hfa : w.frozen? ⟨vb, voff, none⟩ = false) (hfe : w.frozen? ⟨vb, kA, none⟩ = false) :
    Calls Tryd.prog 46 #[.slice (some ⟨b, off, none⟩) n c, .int .i64 i, .slice (some ⟨vb, voff, none⟩) m vc] w fun e w' =>
      e = .returned (.slice (some ⟨b, off, none⟩) (n + m) c) ∧ w' = (w.drew.setCells b (off + (i + m)) (cs.drop i)).setCells b (off + i) vs := by
  have hz1 : ¬ ((m : Int) = 0) := by omega
  have hz2 : ¬ ((i : Int) = (n : Int)) := by omega
  have hsz : (Tryd.prog.info? 29).map (·.size) = some 1 := by
    obtain ⟨i0, hi0, h0, h1, h2⟩ := info_parts infoKn
    rw [hi0]; simp [h1]
  have hov : ∀ lb cb, (callFunc 81 #[.slice (some ⟨vb, voff, none⟩) m vc, .slice (some ⟨b, off + (i + m), none⟩) lb cb]).run Tryd.prog w = .ok (.value (.bool false)) w := fun lb cb => by
    rw [run_callFunc_extern Tryd.func81 (by kernel_rfl) (by kernel_rfl) (by kernel_rfl) (e := Extern.SlicesOverlaps.overlaps #[93, 93] #[4]) (by kernel_rfl),
      Lib.run_overlaps_apart w 93 4 29 Tryd.underlying93 1 Tryd.sizeOf29 ⟨vb, voff, none⟩ ⟨b, off + (i + m), none⟩ m vc lb cb hvb tA tB kA kB hsa hsb hkB hfa hfe]
    rfl
  have hdl : (cs.drop i).length = n - i := by rw [List.length_drop, hcl]
  have mixed : Tryd.prog.follows .mixedOrders = true := by kernel_rfl
  have hw1 : IntKind.i64.wrap ((i : Int) + (m : Int)) = (i : Int) + (m : Int) := by rw [IntKind.wrap_i64]; omega
  have hb1 : (0 : Int) ≤ (i : Int) + (m : Int) := by omega
  have hin : i ≤ n := by omega
  have htn : ((i : Int) + (m : Int)).toNat = i + m := by omega
  have hb2 : ¬ (c = i + m) := by omega
  have hb3 : (i : Int) ≤ (n : Int) + (m : Int) := by omega
  have hb4 : ¬ (c = i) := by omega
  have hcp1 : ∀ ty dc sc, (Builtin.copy_ #[93, 93] ty #[.slice (some ⟨b, off + (i + m), none⟩) (n + m - (i + m)) dc, .slice (some ⟨b, off + i, none⟩) (n + m - i) sc]).run Tryd.prog w.drew = .ok (goInt (cs.drop i).length) (w.drew.setCells b (off + (i + m)) (cs.drop i)) := fun ty dc sc =>
    run_copy_cells w.drew _ _ ty 29 b (off + (i + m)) (n + m - (i + m)) dc ⟨b, off + i, none⟩ (n + m - i) sc (cs.drop i) Tryd.underlying93 hsz (by rw [hdl]; simp only [Nat.min_def]; split <;> omega)
      (fun j v hj => by rw [Addr.add_lit, Nat.add_assoc]; exact hcs (i + j) v (by rwa [List.getElem?_drop] at hj))
      (fun j hj => by rw [Nat.add_assoc]; exact hsp _ (by omega)) (fun j hj => by rw [Nat.add_assoc]; exact hfz _ (by omega)) (fun v hv => h1c v (List.mem_of_mem_drop hv))
  obtain ⟨W1, hW1⟩ : ∃ W1, W1 = w.drew.setCells b (off + (i + m)) (cs.drop i) := ⟨_, rfl⟩
  have hsp1 : ∀ k, k < n + m → (W1.cell? ⟨b, off + k, none⟩).isSome = true := fun k hk => by
    rw [hW1]
    exact isSome_setCells b _ _ _ (fun j hj => by rw [Nat.add_assoc]; exact hsp _ (by omega)) _ (hsp k hk)
  have hcp2 : ∀ (W : World), (∀ x, W.cell? x = W1.cell? x) → (∀ x, W.frozen? x = W1.frozen? x) → ∀ ty dc, (Builtin.copy_ #[93, 93] ty #[.slice (some ⟨b, off + i, none⟩) (n + m - i) dc, .slice (some ⟨vb, voff, none⟩) m vc]).run Tryd.prog W = .ok (goInt vs.length) (W.setCells b (off + i) vs) := fun W hWc hWf ty dc =>
    run_copy_cells W _ _ ty 29 b (off + i) (n + m - i) dc ⟨vb, voff, none⟩ m vc vs Tryd.underlying93 hsz (by rw [hvl]; simp only [Nat.min_def]; split <;> omega)
      (fun j v hj => by
        rw [Addr.add_lit, hWc, hW1, World.cell?_setCells_out b _ _ _ _ (fun h _ => absurd h hvb)]
        exact hvs j v hj)
      (fun j hj => by rw [hWc, Nat.add_assoc]; exact hsp1 _ (by omega)) (fun j hj => by rw [hWf, hW1, World.frozen?_setCells, Nat.add_assoc]; exact hfz _ (by omega)) h1v
  rw [← hW1] at hcp1
  go_enter Tryd.func46, Tryd.ntmps46
  go_wp2_with (simp only [hov])
  go_region_law_o (refine step_copy_runI rfl _ _ 93 93 rfl _ _ (by simp [Act.eval, Act.put]) (by simp [Act.eval, Act.put]) (hcp1 _ _ _) ?_)
  go_wp2_with (at_builtin; refine wpList_copy_runI _ rfl _ _ 93 93 rfl _ _ rfl rfl (hcp2 _ (fun _ => rfl) (fun _ => rfl) _ _) ?_)
  go_ret
  first | exact ⟨rfl, rfl⟩ | exact ⟨rfl, by rw [hW1]⟩

set_option maxHeartbeats 4000000 in
set_option maxRecDepth 100000 in
theorem kinsert_end_room (b off n c vb voff m vc : Nat) (vs : List Value) (w : World) (hm : 0 < m) (hroom : n + m ≤ c) (hc63 : c ≤ 9223372036854775807)
    (hvl : vs.length = m) (hsp : ∀ j, j < m → (w.cell? ⟨b, off + n + j, none⟩).isSome = true) (hfz : ∀ j, j < m → w.frozen? ⟨b, off + n + j, none⟩ = false)
    (hvs : ∀ j v, vs[j]? = some v → w.cell? ⟨vb, voff + j, none⟩ = some v) (h1v : ∀ v ∈ vs, v.oneCell' = true) :
    Calls Tryd.prog 46 #[.slice (some ⟨b, off, none⟩) n c, .int .i64 n, .slice (some ⟨vb, voff, none⟩) m vc] w fun e w' =>
      e = .returned (.slice (some ⟨b, off, none⟩) (n + m) c) ∧ w' = w.setCells b (off + n) vs := by
  have mixed : Tryd.prog.follows .mixedOrders = true := by kernel_rfl
  have hz1 : ¬ ((m : Int) = 0) := by omega
  have hsrc : Src Tryd.prog 1 93 (.slice (some ⟨vb, voff, none⟩) m vc) m vs w := Src.ofSlice w Tryd.underlying93 ⟨vb, voff, none⟩ m vc vs (by omega) (fun j u hj => by rw [Addr.add_lit]; exact hvs j u hj) h1v
  go_enter Tryd.func46, Tryd.ntmps46
  go_wp2_with (at_builtin; refine wpList_append_room1 _ rfl _ _ 93 93 rfl 29 _ _ Tryd.underlying93 infoKn b off n c rfl _ rfl m vs hsrc hroom (by rw [hvl]; exact hsp) (by rw [hvl]; exact hfz) ?_)
  go_ret
  exact ⟨rfl, rfl⟩

set_option maxHeartbeats 4000000 in
set_option maxRecDepth 100000 in
theorem kinsert_end_grow (base : Option Addr) (n c vb voff m vc : Nat) (cs vs : List Value) (w : World) (hm : 0 < m) (hnc : n ≤ c) (hroom : c < n + m) (hbig : (n + m) * 8 ≤ 140737488355328)
    (hcl : cs.length = n) (hvl : vs.length = m) (hnil : base = none → n = 0)
    (hcs : ∀ a, base = some a → ∀ j v, cs[j]? = some v → w.cell? (a.add j) = some v)
    (hvs : ∀ j v, vs[j]? = some v → w.cell? ⟨vb, voff + j, none⟩ = some v) (h1v : ∀ v ∈ vs, v.oneCell' = true) :
    Calls Tryd.prog 46 #[.slice base n c, .int .i64 n, .slice (some ⟨vb, voff, none⟩) m vc] w fun e w' =>
      e = .returned (.slice (some ⟨w.heap.size, 0, none⟩) (n + m) (grownCap w (n + m) c 29)) ∧
      w' = w.drew.alloc (.cells ((cs ++ vs).toArray ++ Builtin.zeroCells (Value.pointer none).cells (grownCap w (n + m) c 29 - (n + m))) 29) := by
  have mixed : Tryd.prog.follows .mixedOrders = true := by kernel_rfl
  obtain ⟨i0, hi0, hz0, hzs, hzb⟩ := info_parts infoKn
  have hz1 : ¬ ((m : Int) = 0) := by omega
  have hsrc : Src Tryd.prog i0.size 93 (.slice (some ⟨vb, voff, none⟩) m vc) m vs w := by
    rw [hzs]
    exact Src.ofSlice w Tryd.underlying93 ⟨vb, voff, none⟩ m vc vs (by omega) (fun j u hj => by rw [Addr.add_lit]; exact hvs j u hj) h1v
  have hold : (Builtin.firstCells i0.size n (.slice base n c)).run Tryd.prog w.drew = .ok cs.toArray w.drew := by
    rw [hzs]
    cases base with
    | none =>
      have h0 := hnil rfl
      subst h0
      rw [List.length_eq_zero_iff.1 hcl]
      exact run_firstCells_none w.drew 1 0 0 c
    | some a => exact run_firstCells_some w.drew 1 n a n c cs (by omega) (fun j v hj => hcs a rfl j v hj)
  have hrun : ∀ ty, (Builtin.append_ #[93, 93] ty #[.slice base n c, .slice (some ⟨vb, voff, none⟩) m vc]).run Tryd.prog w = _ := fun ty =>
    run_append_grow_src w 93 93 ty 29 i0 _ Tryd.underlying93 hi0 hz0 base n c cs hold _ m vs hsrc hroom (by omega) (by rw [hzb]; exact growslice_fits hroom hbig)
  go_enter Tryd.func46, Tryd.ntmps46
  cases base with
  | none =>
    have h0 := hnil rfl
    subst h0
    go_wp2_with (at_builtin; refine Lib.wpList_append_run _ rfl _ _ _ _ rfl _ _ rfl rfl _ _ (hrun _) ?_)
    go_ret
    exact ⟨rfl, rfl⟩
  | some a =>
    obtain ⟨ab, ao, asp⟩ := a
    go_wp2_with (at_builtin; refine Lib.wpList_append_run _ rfl _ _ _ _ rfl _ _ rfl rfl _ _ (hrun _) ?_)
    all_goals (go_ret; exact ⟨rfl, rfl⟩)

set_option maxHeartbeats 4000000 in
set_option maxRecDepth 100000 in
theorem kinsert_grow (b off n c i vb voff m vc : Nat) (cs vs : List Value) (w : World) (hi : i < n) (hm : 0 < m) (hnc : n ≤ c) (hroom : c < n + m) (hbig : (n + m) * 8 ≤ 140737488355328)
    (hcl : cs.length = n) (hvl : vs.length = m)
    (hcs : ∀ j v, cs[j]? = some v → w.cell? ⟨b, off + j, none⟩ = some v)
    (hvs : ∀ j v, vs[j]? = some v → w.cell? ⟨vb, voff + j, none⟩ = some v) (h1c : ∀ v ∈ cs, v.oneCell' = true) (h1v : ∀ v ∈ vs, v.oneCell' = true) :
    Calls Tryd.prog 46 #[.slice (some ⟨b, off, none⟩) n c, .int .i64 i, .slice (some ⟨vb, voff, none⟩) m vc] w fun e w' =>
      e = .returned (.slice (some ⟨w.heap.size, 0, none⟩) (n + m) (grownCap w (n + m) c 29)) ∧
      w' = (((w.alloc (.cells ((cs.take i).toArray ++ Builtin.zeroCells (Value.pointer none).cells (n + m - i) ++ Builtin.zeroCells (Value.pointer none).cells (grownCap w (n + m) c 29 - (n + m))) 29)).drew.setCells w.heap.size i vs).drew).setCells w.heap.size (i + m) (cs.drop i) := by
  have mixed : Tryd.prog.follows .mixedOrders = true := by kernel_rfl
  obtain ⟨i0, hi0, hz0, hzs, hzb⟩ := info_parts infoKn
  have hz1 : ¬ ((m : Int) = 0) := by omega
  have hz2 : ¬ ((i : Int) = (n : Int)) := by omega
  have hz3 : (c : Int) < (n : Int) + (m : Int) := by omega
  have hsz : (Tryd.prog.info? 29).map (·.size) = some 1 := by rw [hi0]; simp [hzs]
  have hbw : b < w.heap.size := block_lt_of_cell (hcs 0 _ (List.getElem?_eq_getElem (by omega)))
  have hvw : vb < w.heap.size := block_lt_of_cell (hvs 0 _ (List.getElem?_eq_getElem (by omega)))
  have hkk : (n : Int) + (m : Int) - (i : Int) = ((n + m - i : Nat) : Int) := by omega
  have hik : i + (n + m - i) = n + m := by omega
  have hold : (Builtin.firstCells i0.size i (.slice (some ⟨b, off, none⟩) i c)).run Tryd.prog w.drew = .ok (cs.take i).toArray w.drew := by
    rw [hzs]
    exact run_firstCells_some w.drew 1 i ⟨b, off, none⟩ i c (cs.take i) (by rw [List.length_take]; omega) (fun j v hj => by
      rw [Addr.add_lit]
      rw [List.getElem?_take] at hj
      split at hj
      · exact hcs j v hj
      · cases hj)
  have hrz : ∀ ty, (Builtin.append_ #[93, 3] ty #[.slice (some ⟨b, off, none⟩) i c, .int .i64 ((n : Int) + (m : Int) - (i : Int))]).run Tryd.prog w =
      .ok (.slice (some ⟨w.heap.size, 0, none⟩) (n + m) (grownCap w (n + m) c 29)) (w.drew.alloc (.cells ((cs.take i).toArray ++ Builtin.zeroCells (Value.pointer none).cells (n + m - i) ++ Builtin.zeroCells (Value.pointer none).cells (grownCap w (n + m) c 29 - (n + m))) 29)) := fun ty => by
    have h := Lib.run_append_grow_zeros w 93 3 ty 29 i0 _ .i64 .i64 Tryd.underlying93 Tryd.underlying3 hi0 hz0 (some ⟨b, off, none⟩) i c (cs.take i) hold (n + m - i) (by omega) (by omega) (by omega) (by omega) (by rw [hzb]; omega) (by rw [hzb, hik]; exact growslice_fits hroom hbig)
    rw [hik] at h
    rw [hkk]
    exact h
  obtain ⟨G, hG⟩ : ∃ G, G = grownCap w (n + m) c 29 := ⟨_, rfl⟩
  obtain ⟨ROW, hROW⟩ : ∃ ROW : Array Value, ROW = (cs.take i).toArray ++ Builtin.zeroCells (Value.pointer none).cells (n + m - i) ++ Builtin.zeroCells (Value.pointer none).cells (G - (n + m)) := ⟨_, rfl⟩
  rw [← hG] at hrz ⊢
  rw [← hROW] at hrz ⊢
  have hRl : n + m ≤ ROW.size := by
    rw [hROW]
    simp [Builtin.zeroCells, Value.cells]
    omega
  obtain ⟨W1, hW1⟩ : ∃ W1, W1 = w.drew.alloc (.cells ROW 29) := ⟨_, rfl⟩
  rw [← hW1] at hrz
  have hN : ∀ j, j < n + m → (W1.cell? ⟨w.heap.size, j, none⟩).isSome = true := fun j hj => by
    rw [hW1, World.cell?_alloc_at (w := w.drew) ROW _ w.heap.size j rfl, Array.getElem?_eq_getElem (by omega)]; rfl
  have hNf : ∀ j, W1.frozen? ⟨w.heap.size, j, none⟩ = false := fun j => by rw [hW1]; exact World.frozen?_alloc_at (w := w.drew) ROW _ w.heap.size j rfl
  have hOb : ∀ j v, w.cell? ⟨b, j, none⟩ = some v → W1.cell? ⟨b, j, none⟩ = some v := fun j v h => by rw [hW1, World.cell?_alloc_past (w := w.drew) _ b j hbw]; exact h
  have hOv : ∀ j v, w.cell? ⟨vb, j, none⟩ = some v → W1.cell? ⟨vb, j, none⟩ = some v := fun j v h => by rw [hW1, World.cell?_alloc_past (w := w.drew) _ vb j hvw]; exact h
  have hcpA : ∀ (W : World), (∀ x, W.cell? x = W1.cell? x) → (∀ x, W.frozen? x = W1.frozen? x) → ∀ ty dc, (Builtin.copy_ #[93, 93] ty #[.slice (some ⟨w.heap.size, i, none⟩) (n + m - i) dc, .slice (some ⟨vb, voff, none⟩) m vc]).run Tryd.prog W = .ok (goInt vs.length) (W.setCells w.heap.size i vs) := fun W hWc hWf ty dc =>
    run_copy_cells W _ _ ty 29 w.heap.size i (n + m - i) dc ⟨vb, voff, none⟩ m vc vs Tryd.underlying93 hsz (by rw [hvl]; simp only [Nat.min_def]; split <;> omega)
      (fun j v hj => by rw [Addr.add_lit, hWc]; exact hOv _ v (hvs j v hj))
      (fun j hj => by rw [hWc]; exact hN _ (by omega)) (fun j hj => by rw [hWf]; exact hNf _) h1v
  have hGn : n + m ≤ G := by rw [hG]; exact grownCap_ge w _ _ _
  have hG63 : G ≤ 9223372036854775807 := by
    have := grownCap_le_maxLen w (n + m) c 29 (by unfold maxLen; omega)
    rw [← hG] at this
    unfold maxLen at this
    omega
  have hGi : ¬ (G = i) := by omega
  have hGim : ¬ (G = i + m) := by omega
  have hci : ¬ (c = i) := by omega
  have hbN : b ≠ w.heap.size := by omega
  have hdl : (cs.drop i).length = n - i := by rw [List.length_drop, hcl]
  have hcpB : ∀ (W : World), (∀ x, W.cell? x = (W1.setCells w.heap.size i vs).cell? x) → (∀ x, W.frozen? x = (W1.setCells w.heap.size i vs).frozen? x) → ∀ ty dc sc, (Builtin.copy_ #[93, 93] ty #[.slice (some ⟨w.heap.size, i + m, none⟩) (n + m - (i + m)) dc, .slice (some ⟨b, off + i, none⟩) (n - i) sc]).run Tryd.prog W = .ok (goInt (cs.drop i).length) (W.setCells w.heap.size (i + m) (cs.drop i)) := fun W hWc hWf ty dc sc =>
    run_copy_cells W _ _ ty 29 w.heap.size (i + m) (n + m - (i + m)) dc ⟨b, off + i, none⟩ (n - i) sc (cs.drop i) Tryd.underlying93 hsz (by rw [hdl]; simp only [Nat.min_def]; split <;> omega)
      (fun j v hj => by
        rw [Addr.add_lit, hWc, World.cell?_setCells_out _ _ _ _ _ (fun h _ => absurd h hbN), Nat.add_assoc]
        exact hOb _ v (hcs (i + j) v (by rwa [List.getElem?_drop] at hj)))
      (fun j hj => by rw [hWc]; exact isSome_setCells _ _ _ _ (fun t ht => hN _ (by omega)) _ (hN _ (by omega)))
      (fun j hj => by rw [hWf, World.frozen?_setCells]; exact hNf _) (fun v hv => h1c v (List.mem_of_mem_drop hv))
  subst hW1
  have hE1 : ∀ x, ((w.alloc (.cells ROW 29)).drew).cell? x = (w.drew.alloc (.cells ROW 29)).cell? x := fun x => rfl
  have hE2 : ∀ x, ((w.alloc (.cells ROW 29)).drew).frozen? x = (w.drew.alloc (.cells ROW 29)).frozen? x := fun x => rfl
  have hF1 : ∀ x, (((w.alloc (.cells ROW 29)).drew.setCells w.heap.size i vs).drew).cell? x = ((w.drew.alloc (.cells ROW 29)).setCells w.heap.size i vs).cell? x := fun x => rfl
  have hF2 : ∀ x, (((w.alloc (.cells ROW 29)).drew.setCells w.heap.size i vs).drew).frozen? x = ((w.drew.alloc (.cells ROW 29)).setCells w.heap.size i vs).frozen? x := fun x => rfl
  have hw1 : IntKind.i64.wrap ((i : Int) + (m : Int)) = (i : Int) + (m : Int) := by rw [IntKind.wrap_i64]; omega
  have hb1 : (0 : Int) ≤ (i : Int) + (m : Int) := by omega
  have hin : i ≤ n := by omega
  have htn : ((i : Int) + (m : Int)).toNat = i + m := by omega
  have hb3 : (i : Int) ≤ (n : Int) := by omega
  clear hkk hik hold hROW hG hRl
  go_enter Tryd.func46, Tryd.ntmps46
  go_wp2_with (first
    | (at_builtin; refine Lib.wpList_append_run _ rfl _ _ _ _ rfl _ _ rfl rfl _ _ (hrz _) ?_)
    | (at_builtin; refine wpList_copy_runI _ rfl _ _ 93 93 rfl _ _ rfl rfl (hcpA _ hE1 hE2 _ _) ?_)
    | (at_builtin; refine wpList_copy_runI _ rfl _ _ 93 93 rfl _ _ rfl rfl (hcpB _ (fun _ => rfl) (fun _ => rfl) _ _ _) ?_))
  go_region_law_o (refine step_copy_runI rfl _ _ 93 93 rfl (.slice (some ⟨w.heap.size, i + m, none⟩) (n + m - (i + m)) (G - (i + m))) (.slice (some ⟨b, off + i, none⟩) (n - i) (c - i)) (by simp [Act.eval, Act.put]) (by simp [Act.eval, Act.put]) (hcpB _ hF1 hF2 3 (G - (i + m)) (c - i)) ?_)
  go_wp2
  go_ret
  exact ⟨rfl, rfl⟩

end Go.Proofs.YtclcgelbcbnekaaDoor
/- Contract: slices.Insert at the slices of nodes, of a row of one's own. -/
namespace Go.Proofs.YtclcgelbcbnekaaDoor
open Go.RowKit Go.QS Go.QS.Nk Go.Lib
set_option linter.unusedVariables false
variable [Zero (Nat → Prop)]
set_option linter.unusedSectionVars false

set_option maxRecDepth 100000 in
theorem kinsert_c (base : Nat) (w : World) (v : Value) (ps : List Nat) (i vb p : Nat) (h : w.ownsRow base KP 1 v ps.length (ptrs ps)) (hi : i ≤ ps.length) (hv : w.heap[vb]? = some (.cells #[ptr p] KP (0, 0))) (hne : v.ownBlock ≠ some vb) (h9 : ps.length ≤ 1000000000) (hbase : base ≤ w.heap.size) :
    Calls Tryd.prog 46 #[v, .int .i64 i, .slice (some ⟨vb, 0, none⟩) 1 1] w fun e w' => ∃ v', e = .returned v' ∧ w'.ownsRow base KP 1 v' (ps.take i ++ p :: ps.drop i).length (ptrs (ps.take i ++ p :: ps.drop i)) ∧ w.grownBy w' v.ownBlock ∧ (v'.ownBlock = v.ownBlock ∨ v'.ownBlock = some w.heap.size) := by
  have hlen : (ps.take i ++ p :: ps.drop i).length = ps.length + 1 := by simp; omega
  have hps : ptrs (ps.take i ++ p :: ps.drop i) = (ptrs ps).take i ++ [ptr p] ++ (ptrs ps).drop i := by simp [ptrs, List.map_take, List.map_drop]
  rw [hlen, hps]
  have hvs : ∀ j u, [ptr p][j]? = some u → w.cell? ⟨vb, 0 + j, none⟩ = some u := by
    intro j u hj
    rw [seg_of_heap hv, Nat.zero_add]
    simpa using hj
  have h1v : ∀ u ∈ [ptr p], u.oneCell' = true := by intro u hu; simp at hu; subst hu; rfl
  have hpl := ptrs_length ps
  rcases h.2 with ⟨rfl, h0⟩ | ⟨g, cap, cur, rfl, hg, hh, hnc, hcm, hsz, htk⟩
  · have hps0 : ps = [] := List.eq_nil_of_length_eq_zero h0
    subst hps0
    have hi0 : i = 0 := by simpa using hi
    subst hi0
    refine (kinsert_end_grow none 0 0 vb 0 1 1 [] [ptr p] w (by decide) (by decide) (by decide) (by decide) rfl rfl (fun _ => rfl) (fun a h => by cases h) hvs h1v).mono ?_
    rintro e w' ⟨rfl, rfl⟩
    refine ⟨_, rfl, ⟨by simp, .inr ⟨w.heap.size, _, _, rfl, hbase, heap_new w.drew _, ?_, ?_, ?_, ?_⟩⟩, ?_⟩
    · exact grownCap_ge w 1 0 KP
    · exact grownCap_le_maxLen w 1 0 KP (by simp [maxLen])
    · have := grownCap_ge w 1 0 29
      simp [Builtin.zeroCells, Value.cells]; omega
    · simp
    · exact ⟨grown_ext' ((Ext.refl w).drew.alloc (Nat.le_refl _) _), .inr rfl⟩
  · rw [Nat.mul_one] at hsz htk
    have hcs : ∀ j u, (ptrs ps)[j]? = some u → w.cell? ⟨g, 0 + j, none⟩ = some u := by
      intro j u hj
      rw [seg_of_heap hh, Nat.zero_add, ← Array.getElem?_toList]
      rw [← htk, List.getElem?_take] at hj
      split at hj
      · exact hj
      · cases hj
    have hfz : ∀ j, w.frozen? ⟨g, j, none⟩ = false := fun j => by simp [World.frozen?, hh]
    have hsp : ∀ j, j < cap → (w.cell? ⟨g, 0 + j, none⟩).isSome = true := by
      intro j hj
      rw [seg_of_heap hh, Nat.zero_add, Array.getElem?_eq_getElem (by omega)]; rfl
    have hgw := heap_lt hh
    have hgb : vb ≠ g := fun e => hne (by rw [e]; rfl)
    have hcm' : cap ≤ 9223372036854775807 := by unfold maxLen at hcm; omega
    rcases Nat.lt_or_ge i ps.length with hin | hin
    · rcases Nat.lt_or_ge cap (ps.length + 1) with hroom | hroom
      · refine (kinsert_grow g 0 ps.length cap i vb 0 1 1 (ptrs ps) [ptr p] w hin (by decide) hnc hroom (by omega) hpl rfl hcs hvs (ptrs_one _) h1v).mono ?_
        rintro e w' ⟨rfl, rfl⟩
        obtain ⟨G, hG⟩ : ∃ G, G = grownCap w (ps.length + 1) cap KP := ⟨_, rfl⟩
        have hG1 : ps.length + 1 ≤ G := by rw [hG]; exact grownCap_ge w _ _ _
        have hG2 : G ≤ maxLen := by rw [hG]; exact grownCap_le_maxLen w _ _ _ (by unfold maxLen; omega)
        rw [← hG]
        obtain ⟨R, hR⟩ : ∃ R : Array Value, R = ((ptrs ps).take i).toArray ++ Builtin.zeroCells (Value.pointer none).cells (ps.length + 1 - i) ++ Builtin.zeroCells (Value.pointer none).cells (G - (ps.length + 1)) := ⟨_, rfl⟩
        rw [← hR]
        have hRs : R.size = G := by rw [hR]; simp [Builtin.zeroCells, Value.cells]; omega
        have hRt : R.toList.take i = (ptrs ps).take i := by
          rw [hR]
          simp only [Array.toList_append, List.append_assoc]
          rw [List.take_append_of_le_length (by simp only [List.length_take, hpl]; omega), List.take_take, Nat.min_self]
        have hR0 : ((w.alloc (.cells R KP)).drew).heap[w.heap.size]? = some (.cells R KP (0, 0)) := heap_new w _
        obtain ⟨c1, k1, k2, k3⟩ := heap_setCells w.heap.size KP (0, 0) [ptr p] i _ _ hR0 (by simp; omega)
        obtain ⟨c2, k4, k5, k6⟩ := heap_setCells w.heap.size KP (0, 0) ((ptrs ps).drop i) (i + 1) ((((w.alloc (.cells R KP)).drew).setCells w.heap.size i [ptr p]).drew) _ k1 (by have := List.length_drop (i := i) (l := ptrs ps); have : [ptr p].length = 1 := rfl; omega)
        refine ⟨_, rfl, ⟨by simp; omega, .inr ⟨w.heap.size, G, c2, rfl, hbase, k4, hG1, hG2, by omega, ?_⟩⟩, ?_⟩
        · have e1 : c1.toList.take (i + 1) = (ptrs ps).take i ++ [ptr p] := by
            rw [k3, hRt]
            rw [List.take_append_of_le_length (by simp; omega)]
            rw [List.take_of_length_le (by simp; omega)]
          rw [Nat.mul_one, k6, e1]
          rw [List.take_append_of_le_length (by simp; omega), List.take_of_length_le (by simp; omega)]
        · exact ⟨grown_ext' (Go.QS.Nk.below_setCells _ (Nat.le_refl _) _ _ _ (Below.drew (Go.QS.Nk.below_setCells _ (Nat.le_refl _) _ _ _ ((Ext.refl w).alloc (Nat.le_refl _) _).drew))), .inr rfl⟩
      · refine (kinsert_shift g 0 ps.length cap i vb 0 1 1 (ptrs ps) [ptr p] w hin (by decide) hroom hcm' hgb hpl rfl hcs (fun j hj => hsp j (by omega)) (fun j hj => hfz _) hvs (ptrs_one _) h1v KP KP 1 cap (by simp [World.shape?, hv]) (by simp [World.shape?, hh, hsz]) (by omega) (by simp [World.frozen?, hv]) (by simp [World.frozen?, hv])).mono ?_
        rintro e w' ⟨rfl, rfl⟩
        rw [Nat.zero_add, Nat.zero_add]
        obtain ⟨c1, k1, k2, k3⟩ := heap_setCells g KP (0, 0) ((ptrs ps).drop i) (i + 1) w.drew _ hh (by simp; omega)
        obtain ⟨c2, k4, k5, k6⟩ := heap_setCells g KP (0, 0) [ptr p] i (w.drew.setCells g (i + 1) ((ptrs ps).drop i)) _ k1 (by have := List.length_drop (i := i) (l := ptrs ps); have : [ptr p].length = 1 := rfl; omega)
        refine ⟨_, rfl, ⟨by simp; omega, .inr ⟨g, cap, c2, rfl, hg, k4, hroom, hcm, by omega, ?_⟩⟩, ?_⟩
        · have hl1 : cur.toList.length = cap := by simpa using hsz
          have e1 : c1.toList.take i = (ptrs ps).take i := by
            rw [k3, List.append_assoc, List.take_append_of_le_length (by simp; omega), List.take_take, Nat.min_eq_left (by omega), ← htk, List.take_take, Nat.min_eq_left (by omega)]
          have e2 : c1.toList.drop (i + 1) = (ptrs ps).drop i ++ cur.toList.drop (i + 1 + ((ptrs ps).drop i).length) := by
            rw [k3, List.append_assoc]
            exact List.drop_left' (by simp; omega)
          rw [Nat.mul_one, k6, e1]
          simp only [List.length_singleton]
          rw [e2, ← List.append_assoc, List.take_append_of_le_length (by simp; omega), List.take_of_length_le (by simp; omega)]
        · exact ⟨World.grownBy.trans (grown_ext' (Ext.refl w).drew) (World.grownBy.trans (grown_setCells g _ _ _) (grown_setCells g _ _ _)), .inl rfl⟩
    · have hie : i = ps.length := by omega
      subst hie
      have ht : (ptrs ps).take ps.length = ptrs ps := List.take_of_length_le (by simp)
      have hd : (ptrs ps).drop ps.length = [] := List.drop_eq_nil_of_le (by simp)
      rw [ht, hd, List.append_nil]
      rcases Nat.lt_or_ge cap (ps.length + 1) with hroom | hroom
      · refine (kinsert_end_grow (some ⟨g, 0, none⟩) ps.length cap vb 0 1 1 (ptrs ps) [ptr p] w (by decide) hnc hroom (by omega) hpl rfl (fun h => by cases h) (fun a ha j u hj => by cases ha; rw [Addr.add_lit]; exact hcs j u hj) hvs h1v).mono ?_
        rintro e w' ⟨rfl, rfl⟩
        have hG1 := grownCap_ge w (ps.length + 1) cap 29
        refine ⟨_, rfl, ⟨by simp, .inr ⟨w.heap.size, _, _, rfl, hbase, heap_new w.drew _, hG1, ?_, ?_, ?_⟩⟩, ?_⟩
        · exact grownCap_le_maxLen w _ _ KP (by unfold maxLen; omega)
        · simp [Builtin.zeroCells, Value.cells]; omega
        · simp only [Array.toList_append, Nat.mul_one]
          rw [List.take_append_of_le_length (by simp), List.take_of_length_le (by simp)]
        · exact ⟨grown_ext' ((Ext.refl w).drew.alloc (Nat.le_refl _) _), .inr rfl⟩
      · refine (kinsert_end_room g 0 ps.length cap vb 0 1 1 [ptr p] w (by decide) hroom hcm' rfl (fun j hj => by rw [Nat.add_assoc]; exact hsp _ (by omega)) (fun j hj => hfz _) hvs h1v).mono ?_
        rintro e w' ⟨rfl, rfl⟩
        rw [Nat.zero_add]
        obtain ⟨c1, k1, k2, k3⟩ := heap_setCells g KP (0, 0) [ptr p] ps.length w _ hh (by simp; omega)
        refine ⟨_, rfl, ⟨by simp, .inr ⟨g, cap, c1, rfl, hg, k1, hroom, hcm, by omega, ?_⟩⟩, grown_setCells g _ _ _, .inl rfl⟩
        rw [Nat.mul_one, k3, htk, List.take_append_of_le_length (by simp), List.take_of_length_le (by simp)]
end Go.Proofs.YtclcgelbcbnekaaDoor
/- Contract: slices.Delete of one kid. -/
namespace Go.Proofs.YtclcgelbcbnekaaDoor
open Go.RowKit Go.QS Go.QS.Nk Go.Shelf Go.Sort
set_option linter.unusedVariables false
variable [Zero (Nat → Prop)]
set_option linter.unusedSectionVars false

def kdelRen : Go.Shelf.Ren := ⟨fun | 45 => 77 | x => x, fun | 0 => 0 | 3 => 3 | 4 => 4 | 22 => 93 | 23 => 29 | x => x, fun x => x⟩

theorem kdelLay : SlLaysE.n45 Tryd.prog kdelRen := {
  mixed := by kernel_rfl
  f45 := ⟨Tryd.f77.name, by decide, by kernel_rfl⟩
  t0 := Tryd.underlying0
  a0 := Tryd.isAgg0
  z0 := Tryd.sizeOf0
  v0 := Tryd.zeroValue0
  t3 := Tryd.underlying3
  a3 := Tryd.isAgg3
  z3 := Tryd.sizeOf3
  v3 := Tryd.zeroValue3
  t4 := Tryd.underlying4
  a4 := Tryd.isAgg4
  z4 := Tryd.sizeOf4
  v4 := Tryd.zeroValue4
  t22 := Tryd.underlying93
  a22 := Tryd.isAgg93
  z22 := Tryd.sizeOf93
  v22 := Tryd.zeroValue93
  a23 := Tryd.isAgg29
  z23 := Tryd.sizeOf29 }

def encN (o : Option Nat) : Value := .pointer (o.map fun g => ⟨g, 0, none⟩)
theorem encN_some (l : List Nat) : (l.map some).map encN = ptrs l := by
  simp only [List.map_map, ptrs]
  exact List.map_congr_left fun g _ => rfl

theorem infoK1 : ∃ i z, Tryd.prog.info? 29 = some i ∧ i.zero = some z ∧ i.size = 1 ∧ i.bytes = 8 ∧ z.cells.size = 1 := info_of (z := .pointer none) (by kernel_rfl) rfl

theorem kdelete_c (base : Nat) (w : World) (v : Value) (ps : List Nat) (i : Nat) (h : w.ownsRow base KP 1 v ps.length (ptrs ps)) (hi : i < ps.length) (h9 : ps.length ≤ 1000000000) :
    Calls Tryd.prog 77 #[v, .int .i64 i, .int .i64 ((i + 1 : Nat) : Int)] w fun e w' => ∃ v', e = .returned v' ∧ w'.ownsRow base KP 1 v' (ps.take i ++ ps.drop (i + 1)).length (ptrs (ps.take i ++ ps.drop (i + 1))) ∧ w.grownBy w' v.ownBlock ∧ v'.ownBlock = v.ownBlock := by
  rcases h.2 with ⟨rfl, h0⟩ | ⟨g, cap, cur, rfl, hg, hh, hnc, hcm, hsz, htk⟩
  · omega
  · obtain ⟨d, hd⟩ : ∃ d : Array (Option Nat), d = (ps.map some).toArray := ⟨_, rfl⟩
    have hdl : d.size = ps.length := by rw [hd]; simp
    have hdt : d.toList = ps.map some := by rw [hd]
    have hH : Holds encN w g 0 d := by
      intro j hj
      refine ⟨?_, by simp [World.frozen?, hh]⟩
      rw [Nat.zero_add, seg_of_heap hh, ← Array.getElem?_toList]
      have hj' : j < ps.length := by omega
      have e1 : (ptrs ps)[j]? = cur.toList[j]? := by rw [← htk, List.getElem?_take_of_lt (by omega)]
      rw [← e1, getElem!_pos d j hj]
      simp [ptrs, hd, encN, List.getElem?_eq_getElem hj']
    obtain ⟨i0, z0, hi0, hz0, hz1, hz2, hz3⟩ := infoK1
    have hc := AnyE.slices_Delete kdelLay encN (fun _ => rfl) none Tryd.zeroValue29 i0 hi0 hz1 g 0 cap i (i + 1) d w hH (by omega) (by unfold maxLen at hcm; omega) (by omega) (by omega)
    change Calls Tryd.prog 77 #[.slice (some ⟨g, 0, none⟩) d.size cap, .int .i64 i, .int .i64 ((i + 1 : Nat) : Int)] w _ at hc
    rw [hdl] at hc
    refine hc.mono ?_
    rintro e w' ⟨rfl, n, rfl⟩
    obtain ⟨nl, hnl⟩ : ∃ nl, nl = d.toList.take i ++ d.toList.drop (i + 1) ++ List.replicate (i + 1 - i) (none : Option Nat) := ⟨_, rfl⟩
    have hnlen : nl.length = ps.length := by rw [hnl, hdt]; simp; omega
    have hw : putRow encN (Sort.ahead w n) g 0 nl.toArray = (w.drewN n).setCells g 0 (nl.map encN) := Lib.putRow_eq_setCells encN w g 0 d nl n hH (by rw [hnlen, hdl])
    rw [← hnl, hw]
    have hcl : nl.map encN = ptrs (ps.take i ++ ps.drop (i + 1)) ++ [encN none] := by
      rw [hnl, hdt, show i + 1 - i = 1 by omega, List.map_append, List.map_append, ← List.map_take, ← List.map_drop, encN_some, encN_some, ptrs_append]
      rfl
    have hkl : (ps.take i ++ ps.drop (i + 1)).length = ps.length - 1 := by simp; omega
    obtain ⟨c1, k1, k2, k3⟩ := heap_setCells g KP (0, 0) (nl.map encN) 0 (w.drewN n) cur hh (by simp [hnlen]; omega)
    refine ⟨.slice (some ⟨g, 0, none⟩) (ps.length - 1) cap, by rw [show ps.length - (i + 1 - i) = ps.length - 1 by omega], ?_, World.grownBy.trans (grown_ext' (below_drewN (Ext.refl w) n)) (grown_setCells g _ _ _), rfl⟩
    rw [hkl]
    refine ⟨by rw [ptrs_length, hkl]; simp, .inr ⟨g, cap, c1, rfl, hg, k1, by omega, hcm, by omega, ?_⟩⟩
    rw [k3, List.take_zero, List.nil_append, hcl]
    rw [List.append_assoc, List.take_left' (by rw [ptrs_length, hkl]; simp)]
end Go.Proofs.YtclcgelbcbnekaaDoor
