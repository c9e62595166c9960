/- Contract: NearSteps. -/
import Derived.Test.YtaehdkgmkjhmgaaYm
namespace Go.Proofs.Ytaehdkgmkjhmgaa
open Go.RowKit Go.QS
set_option linter.unusedVariables false

set_option maxRecDepth 100000 in
theorem neqN (w : World) (p q : Pr) : (binOp .neq 40 (.agg #[str p.1, str p.2]) (.agg #[str q.1, str q.2])).run Try.prog w = .ok (.bool (decide (p ≠ q))) w := by
  obtain ⟨a, b⟩ := p
  obtain ⟨c, d⟩ := q
  simp only [go_sem]
  by_cases h1 : a = c <;> by_cases h2 : b = d <;> simp [h1, h2, go_sem]

/-- The cells of what was handed back. -/
def BoxO (w : World) (g : Nat) (c : Bool) (o : Option Pr) : Prop :=
  ∃ a b, w.heap[g]? = some (.cells #[str a, str b] 29 (0, 0)) ∧ optR o = .tuple #[.agg #[str a, str b], .bool c]
theorem BoxO.none {w : World} {g : Nat} {c : Bool} (h : BoxO w g c .none) : c = false := by
  obtain ⟨a, b, _, h⟩ := h
  simp [optR] at h
  exact h.2
theorem BoxO.some {w : World} {g : Nat} {c : Bool} {p : Pr} (h : BoxO w g c (.some p)) : c = true ∧ w.heap[g]? = .some (.cells #[str p.1, str p.2] 29 (0, 0)) := by
  obtain ⟨a, b, hb, h⟩ := h
  simp only [optR, Value.tuple.injEq, Array.mk.injEq, List.cons.injEq, Value.agg.injEq, Value.bool.injEq, and_true] at h
  obtain ⟨⟨h1, h2⟩, h3⟩ := h
  exact ⟨h3.symm, by rw [h1, h2]; exact hb⟩

set_option maxRecDepth 100000 in
set_option maxHeartbeats 2000000 in
theorem nearSteps_c (w : World) (v : Value) (l : List Pr) (h : PS w v l) : Calls Try.prog 9 #[v] w fun e w' => e = .returned (.bool true) ∧ Ext w w' := by
  have HP := Lib.hid h
  obtain ⟨L, hL⟩ : ∃ L, L = (l.take 40).map cutP := ⟨_, rfl⟩
  have hLk : ∀ p ∈ L, p.1.length ≤ 40 := by
    intro p hp
    rw [hL] at hp
    obtain ⟨q, _, rfl⟩ := List.mem_map.1 hp
    simp [cutP]; omega
  have hLl : L.length ≤ 40 := by rw [hL]; simp; omega
  obtain ⟨hlab, hkd, hprs⟩ := treeOf_ok L hLk
  obtain ⟨X, hX⟩ : ∃ X, X = rsort L := ⟨_, rfl⟩
  have hXl : X.length ≤ 40 := by rw [hX]; have := rsort_length L; omega
  have hXr : Rise X := by rw [hX]; exact rsort_rise L
  have hXk : ∀ p ∈ X, p.1.length ≤ 40 := by
    intro p hp
    rw [hX] at hp
    exact hLk p (lastK_mem ((mem_rsort L p).1 hp)).1
  rw [← hX] at hprs
  have HT : Hid (Rise X ∧ (∀ p ∈ X, p.1.length ≤ 40) ∧ (treeOf L).prs = X ∧ Kd 40 (treeOf L).kids ∧ (treeOf L).lab = []) := Lib.hid ⟨hXr, hXk, hprs, hkd, hlab⟩
  have HL := Lib.hid hL
  have HX := Lib.hid hX
  clear h hL hLk hlab hkd hprs hX hXr hXk
  go_enter Try.func9, Try.ntmps9
  repeat' (first | go_at_call 34 | go_skip | go_guarded | go_step)
  refine (awakeN_c w).mono ?_
  rintro e w0 ⟨rfl, f0⟩
  have H0 := Lib.hid f0
  clear f0
  go_simp
  repeat' (first | go_at_call 35 | go_skip | go_guarded | go_step)
  refine (tree_c w0 v l (HP.out.below H0.out)).mono ?_
  rintro e w1 ⟨g, v2, rfl, f1, r1, p1⟩
  rw [← HL.out, ← HX.out] at p1
  rw [← HL.out] at r1
  obtain ⟨A, C, rfl, hXlen, hn, hc, hs⟩ := p1
  have H1 : Hid (Ext w w1 ∧ Rep NT w1 g (treeOf L) ∧ Seg w1 A (flat X)) := Lib.hid ⟨Ext.trans H0.out f1, r1, hs⟩
  obtain ⟨n, hn2⟩ : ∃ n, n = X.length := ⟨_, rfl⟩
  rw [← hn2] at hn hXl ⊢
  have Hn := Lib.hid hn2
  clear f1 r1 hs hXlen hn2
  go_simp
  repeat' (first | go_at_call 36 | go_skip | go_guarded | go_step)
  refine (min_c w1 (ptr g) (treeOf L) 40 (.of H1.out.2.1) HT.out.2.2.2.1 HT.out.2.2.2.2 (by decide)).mono ?_
  rintro e w2 ⟨rfl, f2⟩
  rw [HT.out.2.2.1, pick_first]
  obtain ⟨ra, rv, rc, hlit⟩ := optR_lit (X[0]?)
  rw [hlit]
  have H2 : Hid (Ext w1 w2 ∧ optR (X[0]?) = .tuple #[.agg #[str ra, str rv], .bool rc]) := Lib.hid ⟨f2, hlit⟩
  clear f2 hlit
  go_simp
  repeat' (go_not_at_region 5; (first | go_skip | go_guarded | go_step))
  obtain ⟨w3, hw3⟩ : ∃ w3, w3 = w2.alloc (.cells #[str ra, str rv] 29) := ⟨_, rfl⟩
  obtain ⟨pb, hpb⟩ : ∃ pb, pb = w2.heap.size := ⟨_, rfl⟩
  have hb3 := heap_new w2 (.cells #[str ra, str rv] 29)
  have hE3 : Ext w2 w3 := by rw [hw3]; exact (Ext.refl _).alloc (Nat.le_refl _) _
  rw [← hw3, ← hpb] at hb3
  have hw3' := hw3.symm
  rw [hw3', ← hpb]
  have hpl : w1.heap.size ≤ pb := by have := H2.out.1.size; omega
  have H3 : Hid (Ext w1 w3 ∧ BoxO w3 pb rc X[0]?) := Lib.hid ⟨Ext.trans H2.out.1 hE3, ra, rv, hb3, H2.out.2⟩
  clear hw3 hpb hb3 hE3 hw3' H2
  repeat' (go_not_at_region 6; (first | go_skip | go_guarded | go_step))
  go_loopg [6, 26] n (fun gk v6 v26 wr => ∃ (i : Nat) (c : Bool), v6 = .bool c ∧ v26 = .int .i64 i ∧ i ≤ n ∧ n - i ≤ gk ∧ Hid (Ext w1 wr ∧ BoxO wr pb c X[i]?))
  case atStart => exact ⟨0, rc, rfl, rfl, Nat.zero_le _, by omega, H3⟩
  case round =>
    obtain ⟨i, c, rfl, rfl, hin, hgk, HI⟩ := hrel
    rcases Nat.lt_or_ge i n with hlt | hge
    · have d1 : decide (i < n) = true := by simp [hlt]
      obtain ⟨p, hp⟩ := get_of_lt X (show i < X.length by have := Hn.out; omega)
      obtain ⟨b, o, rfl, hq1, hq2⟩ := seg_pair (H1.out.2.2.below HI.out.1) hp
      have hi1 : (i : Int) < (n : Int) := by omega
      have hbx := HI.out.2
      rw [hp] at hbx
      obtain ⟨rfl, hbb⟩ := hbx.some
      obtain ⟨c0, c1⟩ := bx_cells hbb
      have cf := bx_free hbb
      have hpbl := heap_lt hbb
      have hbl : b < wr.heap.size := World.block_lt_of_cell? wr _ hq1
      have HPP : Hid (X[i]? = some p ∧ wr.heap[pb]? = some (.cells #[str p.1, str p.2] 29 (0, 0))) := Lib.hid ⟨hp, hbb⟩
      have hne : ∀ w, (binOp .neq 40 (.agg #[str p.1, str p.2]) (.agg #[str p.1, str p.2])).run Try.prog w = .ok (.bool false) w := fun w => by rw [neqN]; simp
      clear hp hbx hbb
      repeat' (first | go_at_call 37 | go_skip | go_guarded | go_step)
      obtain ⟨wy, hwy⟩ : ∃ wy, wy = wr.alloc (.cells #[str p.1, str p.2] 40) := ⟨_, rfl⟩
      have hEy : Ext wr wy := by rw [hwy]; exact (Ext.refl _).alloc (Nat.le_refl _) _
      have hwy' := hwy.symm
      rw [hwy']
      have hby := bx_ext HPP.out.2 hEy
      have HY : Hid (Ext w1 wy ∧ wy.heap[pb]? = some (.cells #[str p.1, str p.2] 29 (0, 0))) := Lib.hid ⟨Ext.trans HI.out.1 hEy, hby⟩
      clear hwy hwy' hEy hby c0 c1 cf hq1 hq2 hbl hpbl
      refine (above_c wy (ptr g) (treeOf L) 40 (.of (H1.out.2.1.ext HY.out.1)) HT.out.2.2.2.1 HT.out.2.2.2.2 (by decide) p.1 (by have := HT.out.2.1 p (List.mem_of_getElem? HPP.out.1); omega)).mono ?_
      rintro e w4 ⟨rfl, f4⟩
      rw [HT.out.2.2.1, near_next HT.out.1 HPP.out.1]
      obtain ⟨ra, rv, rc, hlit⟩ := optR_lit (X[i + 1]?)
      rw [hlit]
      have hb4 := bx_ext HY.out.2 f4
      obtain ⟨c0, c1⟩ := bx_cells hb4
      have cf := bx_free hb4
      have H4 : Hid (Ext w1 w4 ∧ w4.heap[pb]? = some (.cells #[str p.1, str p.2] 29 (0, 0)) ∧ optR (X[i + 1]?) = .tuple #[.agg #[str ra, str rv], .bool rc]) := Lib.hid ⟨Ext.trans HY.out.1 f4, hb4, hlit⟩
      have hpl4 := heap_lt hb4
      clear f4 hb4 hlit
      go_simp
      repeat' (first | go_skip | go_guarded | go_step)
      go_roundg (n - (i + 1))
      case measure => omega
      case rel => exact ⟨i + 1, rc, rfl, by go_num, by omega, Nat.le_refl _, Lib.hid ⟨(H4.out.1.setCell hpl _).setCell hpl _, ra, rv, heap_set (heap_set H4.out.2.1 0 _) 1 _, H4.out.2.2⟩⟩
    · obtain rfl : i = n := by omega
      have d1 : decide (i < i) = false := by simp
      have hbx := HI.out.2
      rw [List.getElem?_eq_none_iff.2 (by have := Hn.out; omega)] at hbx
      obtain rfl := hbx.none
      have HW := Lib.hid HI.out.1
      clear hbx hgk HI hpl H3
      repeat' (first | go_at_call 38 | go_skip | go_guarded | go_step)
      refine (max_c wr (ptr g) (treeOf L) 40 (.of (H1.out.2.1.ext HW.out)) HT.out.2.2.2.1 HT.out.2.2.2.2 (by decide)).mono ?_
      rintro e w2 ⟨rfl, f2⟩
      rw [HT.out.2.2.1, pick_last, ← Hn.out]
      obtain ⟨ra, rv, rc, hlit⟩ := optR_lit (atI X ((i : Int) - 1))
      rw [hlit]
      have H2 : Hid (Ext w1 w2 ∧ optR (atI X ((i : Int) - 1)) = .tuple #[.agg #[str ra, str rv], .bool rc]) := Lib.hid ⟨Ext.trans HW.out f2, hlit⟩
      clear f2 hlit
      go_simp
      repeat' (go_not_at_region 15; (first | go_skip | go_guarded | go_step))
      obtain ⟨w3, hw3⟩ : ∃ w3, w3 = w2.alloc (.cells #[str ra, str rv] 29) := ⟨_, rfl⟩
      obtain ⟨qb, hqb⟩ : ∃ qb, qb = w2.heap.size := ⟨_, rfl⟩
      have hb3 := heap_new w2 (.cells #[str ra, str rv] 29)
      have hE3 : Ext w2 w3 := by rw [hw3]; exact (Ext.refl _).alloc (Nat.le_refl _) _
      rw [← hw3, ← hqb] at hb3
      have hw3' := hw3.symm
      rw [hw3', ← hqb]
      have hpl : w1.heap.size ≤ qb := by have := H2.out.1.size; omega
      have H3 : Hid (Ext w1 w3 ∧ BoxO w3 qb rc (atI X ((i : Int) - 1))) := Lib.hid ⟨Ext.trans H2.out.1 hE3, ra, rv, hb3, H2.out.2⟩
      clear hw3 hqb hb3 hE3 hw3' H2 HW
      repeat' (go_not_at_region 16; (first | go_skip | go_guarded | go_step))
      go_loopg [10, 11] i (fun gk v10 v11 wr => ∃ (j : Nat) (z : Int) (c : Bool), v10 = .bool c ∧ v11 = .int .i64 z ∧ z = (j : Int) - 1 ∧ j ≤ i ∧ j ≤ gk ∧ Hid (Ext w1 wr ∧ BoxO wr qb c (atI X ((j : Int) - 1))))
      case atStart => exact ⟨i, _, rc, rfl, rfl, by go_num, Nat.le_refl _, Nat.le_refl _, H3⟩
      case round =>
        obtain ⟨j, z, c, rfl, rfl, hz, hji, hgk, HI⟩ := hrel
        cases j with
        | zero =>
          obtain rfl : z = -1 := by omega
          clear hz
          have hbx := HI.out.2
          rw [atI_neg X (by simp)] at hbx
          obtain rfl := hbx.none
          have HW := Lib.hid HI.out.1
          clear hbx HI
          repeat' (first | go_skip | go_guarded | go_step)
          go_ret
          exact ⟨rfl, Ext.trans H1.out.1 HW.out⟩
        | succ j =>
          obtain rfl : z = (j : Int) := by omega
          obtain ⟨p, hp⟩ := get_of_lt X (show j < X.length by have := Hn.out; omega)
          obtain ⟨b, o, rfl, hq1, hq2⟩ := seg_pair (H1.out.2.2.below HI.out.1) hp
          have hi1 : (j : Int) < (i : Int) := by omega
          have hi0 : (0 : Int) ≤ (j : Int) := by omega
          have d1 : decide ((0 : Int) ≤ (j : Int)) = true := decide_eq_true hi0
          clear hz
          have hbx := HI.out.2
          rw [show (((j + 1 : Nat) : Int) - 1) = (j : Int) by omega, atI_nat, hp] at hbx
          obtain ⟨rfl, hbb⟩ := hbx.some
          obtain ⟨c0, c1⟩ := bx_cells hbb
          have cf := bx_free hbb
          have hpbl := heap_lt hbb
          have hbl : b < wr.heap.size := World.block_lt_of_cell? wr _ hq1
          have HPP : Hid (X[j]? = some p ∧ wr.heap[qb]? = some (.cells #[str p.1, str p.2] 29 (0, 0))) := Lib.hid ⟨hp, hbb⟩
          have hne : ∀ w, (binOp .neq 40 (.agg #[str p.1, str p.2]) (.agg #[str p.1, str p.2])).run Try.prog w = .ok (.bool false) w := fun w => by rw [neqN]; simp
          clear hp hbx hbb
          repeat' (go_not_at_region 18; (first | go_skip | go_guarded | go_step))
          first | (go_quiet (fail)) | skip
          repeat' (first | go_at_call 39 | go_skip | go_guarded | go_step)
          have hEy : Ext wr wr := Ext.refl wr
          have HY : Hid (∀ x, Ext wr x → Ext w1 x ∧ x.heap[qb]? = some (.cells #[str p.1, str p.2] 29 (0, 0))) := Lib.hid fun x hx => ⟨Ext.trans HI.out.1 hx, bx_ext HPP.out.2 hx⟩
          refine (below_c _ (ptr g) (treeOf L) 40 (.of (H1.out.2.1.ext (Ext.trans HI.out.1 (by first | exact hEy | exact below_drewN hEy _)))) HT.out.2.2.2.1 HT.out.2.2.2.2 (by decide) p.1 (by have := HT.out.2.1 p (List.mem_of_getElem? HPP.out.1); omega)).mono ?_
          rintro e w4 ⟨rfl, f4⟩
          rw [HT.out.2.2.1, near_prev HT.out.1 HPP.out.1]
          obtain ⟨ra, rv, rc, hlit⟩ := optR_lit (atI X ((j : Int) - 1))
          rw [hlit]
          have f5 : Ext wr w4 := Ext.trans (by first | exact hEy | exact below_drewN hEy _) f4
          obtain ⟨k1, hb4⟩ := HY.out w4 f5
          clear c0 c1 cf
          obtain ⟨c0, c1⟩ := bx_cells hb4
          have cf := bx_free hb4
          have H4 : Hid (Ext w1 w4 ∧ w4.heap[qb]? = some (.cells #[str p.1, str p.2] 29 (0, 0)) ∧ optR (atI X ((j : Int) - 1)) = .tuple #[.agg #[str ra, str rv], .bool rc]) := Lib.hid ⟨k1, hb4, hlit⟩
          have hpl4 := heap_lt hb4
          clear f4 f5 hb4 hlit k1
          go_simp
          repeat' (first | go_skip | go_guarded | go_step)
          go_roundg j
          case measure => omega
          case rel => exact ⟨j, _, rc, rfl, rfl, by go_num, by omega, Nat.le_refl _, Lib.hid ⟨(H4.out.1.setCell hpl _).setCell hpl _, ra, rv, heap_set (heap_set H4.out.2.1 0 _) 1 _, H4.out.2.2⟩⟩
end Go.Proofs.Ytaehdkgmkjhmgaa
