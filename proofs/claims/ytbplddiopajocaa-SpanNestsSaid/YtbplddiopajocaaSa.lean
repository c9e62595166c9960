/- Contracts of the span laws' own small functions: few, tree. -/
import Derived.Test.YtbplddiopajocaaRl
import Derived.Test.YtbplddiopajocaaLs
import Derived.Test.YtbplddiopajocaaMc
import Derived.Laws.Rows
set_option linter.unusedVariables false
set_option linter.unusedSimpArgs false
namespace Go.Proofs.Ytbplddiopajocaa
open Go.RowKit Go.QS
set_option linter.unusedVariables false

set_option maxRecDepth 100000 in
theorem fewp_c (w : World) (p : Pr) :
    Calls Try.prog 29 #[.agg #[str p.1, str p.2]] w fun e w' => e = .returned (.agg #[str (cutP p).1, str (cutP p).2]) ∧ Ext w w' := by
  obtain ⟨k, v⟩ := p
  simp only [cutP]
  by_cases h1 : 40 < k.length
  · have d1 : decide (40 < k.length) = true := by simp [h1]
    have b1 : (40 : Int) ≤ (k.length : Int) := by omega
    by_cases h2 : 40 < v.length
    · have d2 : decide (40 < v.length) = true := by simp [h2]
      have b2 : (40 : Int) ≤ (v.length : Int) := by omega
      go_enter Try.func29, Try.ntmps29
      repeat' (first | go_skip | go_guarded | go_step)
      (try simp only [Exit.inBlock, Exit.then]); refine bodyPost_ret_by (results_cell_row rfl _ _ _ _ _ _ _ rfl (heap_alloc2_new _ _ _) Try.underlying24 rfl (by kernel_rfl)) rfl ?_
      exact ⟨rfl, ((Ext.refl w).alloc (Nat.le_refl _) _).alloc (by simp) _⟩
    · have d2 : decide (40 < v.length) = false := by simp; omega
      have e2 : v.take 40 = v := List.take_of_length_le (by omega)
      rw [e2]
      go_enter Try.func29, Try.ntmps29
      repeat' (first | go_skip | go_guarded | go_step)
      (try simp only [Exit.inBlock, Exit.then]); refine bodyPost_ret_by (results_cell_row rfl _ _ _ _ _ _ _ rfl (heap_alloc2_new _ _ _) Try.underlying24 rfl (by kernel_rfl)) rfl ?_
      exact ⟨rfl, ((Ext.refl w).alloc (Nat.le_refl _) _).alloc (by simp) _⟩
  · have d1 : decide (40 < k.length) = false := by simp; omega
    have e1 : k.take 40 = k := List.take_of_length_le (by omega)
    rw [e1]
    by_cases h2 : 40 < v.length
    · have d2 : decide (40 < v.length) = true := by simp [h2]
      have b2 : (40 : Int) ≤ (v.length : Int) := by omega
      go_enter Try.func29, Try.ntmps29
      repeat' (first | go_skip | go_guarded | go_step)
      (try simp only [Exit.inBlock, Exit.then]); refine bodyPost_ret_by (results_cell_row rfl _ _ _ _ _ _ _ rfl (heap_alloc2_new _ _ _) Try.underlying24 rfl (by kernel_rfl)) rfl ?_
      exact ⟨rfl, ((Ext.refl w).alloc (Nat.le_refl _) _).alloc (by simp) _⟩
    · have d2 : decide (40 < v.length) = false := by simp; omega
      have e2 : v.take 40 = v := List.take_of_length_le (by omega)
      rw [e2]
      go_enter Try.func29, Try.ntmps29
      repeat' (first | go_skip | go_guarded | go_step)
      (try simp only [Exit.inBlock, Exit.then]); refine bodyPost_ret_by (results_cell_row rfl _ _ _ _ _ _ _ rfl (heap_alloc2_new _ _ _) Try.underlying24 rfl (by kernel_rfl)) rfl ?_
      exact ⟨rfl, ((Ext.refl w).alloc (Nat.le_refl _) _).alloc (by simp) _⟩
theorem box_cells {w : World} {g : Nat} {a b : Value} {t : TypeId} {f : Nat × Nat} (h : w.heap[g]? = some (.cells #[a, b] t f)) : w.cell? ⟨g, 0, none⟩ = some a ∧ w.cell? ⟨g, 1, none⟩ = some b := by
  simp [World.cell?, h]
theorem box_free {w : World} {g : Nat} {cs : Array Value} {t : TypeId} (h : w.heap[g]? = some (.cells cs t (0, 0))) (j : Nat) : w.frozen? ⟨g, j, none⟩ = false := by
  simp [World.frozen?, h]
theorem box_ext {w w' : World} {g : Nat} {o : Obj} (h : w.heap[g]? = some o) (f : Ext w w') : w'.heap[g]? = some o := (f.block g (heap_lt h)).trans h

def cutL (l : List Pr) (i : Nat) : List Pr := ((l.take 40).take i).map cutP
theorem cutL_snoc {l : List Pr} {i : Nat} {p : Pr} (h : l[i]? = some p) (hi : i < 40) : cutL l (i + 1) = cutL l i ++ [cutP p] := by
  have : (l.take 40)[i]? = some p := by rw [List.getElem?_take_of_lt hi]; exact h
  rw [cutL, take_snoc this, List.map_append]; rfl
theorem cutL_past {l : List Pr} {i : Nat} (hi : 40 ≤ i) : cutL l i = cutL l 40 := by
  unfold cutL
  rw [List.take_take, List.take_take, Nat.min_eq_right hi, Nat.min_self]
theorem cutL_all {l : List Pr} {i : Nat} (hi : l.length ≤ i) : cutL l i = (l.take 40).map cutP := by
  unfold cutL
  rw [List.take_of_length_le (by rw [List.length_take]; omega)]
theorem cutL_len (l : List Pr) (i : Nat) : (cutL l i).length ≤ 40 := by
  unfold cutL
  simp only [List.length_map, List.length_take]
  omega
theorem cutL_keys (l : List Pr) (i : Nat) : ∀ p ∈ cutL l i, p.1.length ≤ 40 := by
  intro p hp
  obtain ⟨q, _, rfl⟩ := List.mem_map.1 hp
  simp [cutP]; omega

set_option maxRecDepth 100000 in
set_option maxHeartbeats 1000000 in
theorem tree_c (w : World) (v : Value) (l : List Pr) (h : PS w v l) :
    Calls Try.prog 19 #[v] w fun e w' => ∃ g v', e = .returned (.tuple #[ptr g, v']) ∧ Ext w w' ∧ Rep NT w' g (treeOf ((l.take 40).map cutP)) ∧ PS w' v' (rsort ((l.take 40).map cutP)) := by
  obtain ⟨A, c, rfl, hl, hn, hc, hs⟩ := h
  obtain ⟨n, hn2⟩ : ∃ n, n = l.length := ⟨_, rfl⟩
  have hn9 : n ≤ 9223372036854775807 := by unfold maxLen at hc; omega
  rw [← hn2] at hn ⊢
  have Hn := Lib.hid hn2
  clear hn2 hl
  go_enter Try.func19, Try.ntmps19
  repeat' (first | (go_at_call 10; refine (empty_c _).mono ?_; rintro e w0 ⟨rfl, rfl⟩; go_simp) | (go_not_at_region 4; go_step))
  have hE0 : Ext w (w.alloc (.cells #[str [], .bool false, str [], .slice none 0 0, .pointer none] NT)) := (Ext.refl w).alloc (Nat.le_refl _) _
  have hR0 : Rep NT (w.alloc (.cells #[str [], .bool false, str [], .slice none 0 0, .pointer none] NT)) w.heap.size (treeOf []) :=
    Rep.make (t := RT.node [] none []) (ps := []) (NodeAt.new (lab := []) (val := none) (kv := .slice none 0 0) (ow := none) NT w rfl) (Sl.nil _ _) (Reps.nil _ _)
  obtain ⟨wa, hwa⟩ : ∃ wa, wa = (w.alloc (.cells #[str [], .bool false, str [], .slice none 0 0, .pointer none] NT)) := ⟨_, rfl⟩
  rw [← hwa] at hE0 hR0 ⊢
  have H00 : Hid (Ext w wa ∧ Rep NT wa w.heap.size (treeOf [])) := Lib.hid ⟨hE0, hR0⟩
  clear hE0 hR0 hwa
  go_loopg [4, 5, 11] n (fun gk v4 v5 v11 wr => ∃ i g : Nat, v4 = ptr g ∧ v11 = .int .i64 i ∧ i ≤ n ∧ n - i ≤ gk ∧ Hid (Ext w wr ∧ Rep NT wr g (treeOf (cutL l i)) ∧ PS wr v5 (rsort (cutL l i))))
  case atStart => exact ⟨0, w.heap.size, rfl, rfl, Nat.zero_le _, by omega, Lib.hid ⟨H00.out.1, H00.out.2, Sl.nil _ _⟩⟩
  case round =>
    obtain ⟨i, g, rfl, rfl, hin, hgk, HI⟩ := hrel
    rcases Nat.lt_or_ge i n with hlt | hge
    · have d1 : decide (i < n) = true := by simp [hlt]
      obtain ⟨p, hp⟩ := get_of_lt l (show i < l.length by have := Hn.out; omega)
      obtain ⟨b, o, rfl, hq1, hq2⟩ := seg_pair (hs.below HI.out.1) hp
      have hi1 : (i : Int) < (n : Int) := by omega
      have HP := Lib.hid hp
      clear hp
      by_cases h40 : i < 40
      · have d2 : decide (i < 40) = true := by simp [h40]
        repeat' (first | go_at_call 29 | go_skip | go_guarded | go_step)
        refine (fewp_c _ p).mono ?_
        rintro e w1 ⟨rfl, f1⟩
        obtain ⟨q, hq⟩ : ∃ q, q = cutP p := ⟨_, rfl⟩
        rw [← hq]
        have HQ := Lib.hid hq
        obtain ⟨g5, hg5⟩ : ∃ g5, g5 = wr.heap.size := ⟨_, rfl⟩
        have b1 := box_ext (heap_new wr (.cells #[str p.1, str p.2] 24)) f1
        rw [← hg5] at b1 ⊢
        obtain ⟨c1, c2⟩ := box_cells b1
        have cf := box_free b1
        have F1 : Hid (Ext wr w1 ∧ w1.heap[g5]? = some (.cells #[str p.1, str p.2] 24 (0, 0)) ∧ w.heap.size ≤ g5) := Lib.hid ⟨Ext.trans ((Ext.refl wr).alloc (Nat.le_refl _) _) f1, b1, by rw [hg5]; exact HI.out.1.size⟩
        have hgl := heap_lt b1
        have G5 : wr.heap.size ≤ g5 := by omega
        clear f1 b1 hg5 hq
        go_simp
        repeat' (first | go_at_call 11 | go_skip | go_guarded | go_step)
        obtain ⟨x2, hx2⟩ : ∃ x2, x2 = (w1.setCell ⟨g5, 0, none⟩ (str q.1)).setCell ⟨g5, 1, none⟩ (str q.2) := ⟨_, rfl⟩
        have hx2' : (w1.setCell ⟨g5, 0, none⟩ (Value.string (bs q.1))).setCell ⟨g5, 1, none⟩ (Value.string (bs q.2)) = x2 := hx2.symm
        rw [hx2']
        have hX2 : Hid (Ext w x2 ∧ x2.heap[g5]? = some (.cells #[str q.1, str q.2] 24 (0, 0)) ∧ Ext wr x2) := by
          obtain ⟨k1, k2, k3⟩ := F1.out
          refine Lib.hid ⟨?_, ?_, ?_⟩
          · rw [hx2]; exact ((Ext.trans HI.out.1 k1).setCell k3 _).setCell k3 _
          · rw [hx2]; exact heap_set (heap_set k2 0 _) 1 _
          · rw [hx2]; exact (k1.setCell G5 _).setCell G5 _
        clear hx2 hx2' c1 c2 cf hgl F1
        have hok := treeOf_ok (cutL l i) (cutL_keys l i)
        have hql : q.1.length ≤ 40 := by rw [HQ.out]; simp [cutP]; omega
        refine (putR_c x2 40 g _ q (HI.out.2.1.ext hX2.out.2.2) hok.2.1 hql (by decide)).mono ?_
        rintro e x3 ⟨g3, rfl, f3, r3, _, _⟩
        rw [← treeOf_snoc] at r3
        have b3 := box_ext hX2.out.2.1 f3
        obtain ⟨c1, c2⟩ := box_cells b3
        have H3 : Hid (Ext w x3 ∧ Ext wr x3 ∧ Rep NT x3 g3 (treeOf (cutL l i ++ [q]))) := Lib.hid ⟨Ext.trans hX2.out.1 f3, Ext.trans hX2.out.2.2 f3, r3⟩
        clear f3 r3 b3 hok
        go_simp
        repeat' (first | go_at_call 13 | go_skip | go_guarded | go_step)
        have hlen := rsort_length (cutL l i)
        have hlen2 := cutL_len l i
        refine (rput_c x3 _ (rsort (cutL l i)) q (HI.out.2.2.below H3.out.2.1) (by omega) (by omega)).mono ?_
        rintro e x4 ⟨v4, rfl, o4, f4⟩
        have H4 : Hid (Ext w x4 ∧ Rep NT x4 g3 (treeOf (cutL l (i + 1))) ∧ PS x4 v4 (rsort (cutL l (i + 1)))) := by
          rw [cutL_snoc HP.out h40, ← HQ.out, rsort_snoc]
          exact Lib.hid ⟨Ext.trans H3.out.1 f4, H3.out.2.2.ext f4, PS.of_own o4⟩
        clear f4 o4 c1 c2 hql
        go_simp
        repeat' (first | go_skip | go_guarded | go_step)
        go_roundg (n - (i + 1))
        case measure => omega
        case rel => exact ⟨i + 1, g3, rfl, by go_num, by omega, Nat.le_refl _, H4⟩
      · have d2 : decide (i < 40) = false := by simp; omega
        repeat' (first | go_skip | go_guarded | go_step)
        go_roundg (n - (i + 1))
        case measure => omega
        case rel =>
          refine ⟨i + 1, g, rfl, by go_num, by omega, Nat.le_refl _, ?_⟩
          have e1 : cutL l (i + 1) = cutL l i := by rw [cutL_past (show 40 ≤ i + 1 by omega), cutL_past (show 40 ≤ i by omega)]
          rw [e1]
          exact Lib.hid ⟨HI.out.1.alloc HI.out.1.size _, HI.out.2.1.ext ((Ext.refl _).alloc (Nat.le_refl _) _), HI.out.2.2.alloc _⟩
    · obtain rfl : i = n := by omega
      have d1 : decide (i < i) = false := by simp
      repeat' (first | go_skip | go_guarded | go_step)
      go_ret2
      have := HI.out
      rw [cutL_all (by have := Hn.out; omega)] at this
      exact ⟨g, _, rfl, this.1, this.2.1, this.2.2⟩
end Go.Proofs.Ytbplddiopajocaa
