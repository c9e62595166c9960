/- Texts joined. -/
import Derived.Test.YtigoffdehdobiaaGreatBm
set_option linter.unusedVariables false
set_option linter.unusedSimpArgs false
/- Contracts: build.Radix of one pair, tree.New, tree.OfRadix, build.Tree of one pair. -/
namespace Go.Proofs.YtigoffdehdobiaaGreat
open Go.RowKit Go.QS
set_option linter.unusedVariables false

theorem sortedP_one (p : Pr) : sortedP [p] = [p] := by simp [sortedP, ssort, lastOf]

set_option maxRecDepth 100000 in
set_option maxHeartbeats 1000000 in
theorem radix1_c (w : World) (v : Value) (p : Pr) (h : PS w v [p]) (hp : p.1 ≠ []) (h9 : p.1.length ≤ 1000000) :
    Calls Tryz.prog 48 #[v] w fun e w' => ∃ g, e = .returned (ptr g) ∧ Rep NT w' g (RT.node [] none [RT.node p.1 (some p.2) []]) ∧ Ext w w' := by
  have HS := Lib.hid (sorted_c w v [p] h (by simp))
  rw [sortedP_one] at HS
  obtain ⟨s1, s2⟩ := p
  simp only at hp h9
  have HN := Lib.hid hp
  have hpos : 0 < s1.length := List.length_pos_iff.2 hp
  clear h
  go_enter Tryz.func48, Tryz.ntmps48
  repeat' (go_not_at_region 2; (first
    | (go_at_call 59) | go_skip | go_guarded | go_step))
  refine HS.out.mono ?_
  rintro e w1 ⟨v1, rfl, r1, f1⟩
  have hP := PS.of_own r1
  obtain ⟨A, C, rfl, _, hn, hC, hs⟩ := hP
  obtain ⟨b, o, rfl, q1, q2⟩ := seg_pair hs (i := 0) (p := (s1, s2)) rfl
  have HP : Hid (PS w1 (.slice (some ⟨b, o, none⟩) 1 C) [(s1, s2)] ∧ Ext w w1) := Lib.hid ⟨⟨_, _, rfl, rfl, hn, hC, hs⟩, f1⟩
  simp only [List.length_cons, List.length_nil, Nat.zero_mul, Nat.add_zero, Nat.zero_add] at *
  have hw0 : IntKind.i64.wrap 0 = 0 := by decide
  clear r1 f1 hs
  go_simp
  repeat' (go_not_at_region 2; (first | go_skip | go_guarded | go_step))
  have hd0 : (s1 == []) = false := by simp [HN.out]
  have hd1 : ([] == s1) = false := by cases s1 <;> simp at *
  have hd2 : ¬ s1 = [] := HN.out
  go_quiet (fail)
  repeat' (first | (go_at_call 61) | go_skip | go_guarded | go_step)
  refine (kids1_c _ _ (s1, s2) 0 (HP.out.1.below (below_drewN (Ext.refl w1) _)) hpos h9).mono ?_
  rintro e w3 ⟨v3, g3, rfl, sl3, rp3, f3⟩
  have HF := Lib.hid (HP.out.2.trans ((below_drewN (Ext.refl w1) _).trans f3))
  clear f3
  go_simp
  repeat' (first | (go_at_call 60) | go_skip | go_guarded | go_step)
  refine (make2_c w3 [] [] false v3 [g3] [RT.node s1 (some s2) []] sl3 ⟨rfl, fun j q k hj hk => by
    cases j with
    | zero => simp at hj hk; subst hj hk; exact rp3
    | succ j => simp at hj⟩ (by simp)).mono ?_
  rintro e w4 ⟨g4, rfl, rp4, f4⟩
  have HG := Lib.hid (And.intro rp4 (HF.out.trans f4))
  clear rp4 f4 rp3 sl3
  go_simp
  repeat' (first | go_skip | go_guarded | go_step)
  go_ret
  exact ⟨g4, rfl, HG.out.1, HG.out.2⟩

/-- A radix tree's value. -/
abbrev trV (g : Nat) : Value := .agg #[.int .i64 1, .int .u64 0, .int .u64 0, .int .u64 0, .pointer none, ptr g]

end Go.Proofs.YtigoffdehdobiaaGreat
/- Contracts: tree.OfRadix, tree.New, build.Tree of one pair. -/
namespace Go.Proofs.YtigoffdehdobiaaGreat
open Go.RowKit Go.QS
set_option linter.unusedVariables false

theorem results_ctB {P : Program} {fn : Func} {p u : Tmp} {ty : TypeId} (h : fn.results = #[.cell p ty, .tmp u]) (tmps : Array Value) (w : World) (g : Nat) (t : TypeId) (cs : Array Value) (fr : Nat × Nat) (d : TypeDesc)
    (hp : tmps.getD p undef = .pointer (some ⟨g, 0, none⟩)) (hg : w.heap[g]? = some (.cells cs t fr)) (hu : P.underlying ty = some d) (hd : (match d with | .struct _ | .array _ _ => true | _ => false) = true) (hi : (P.info? ty).map (·.size) = some cs.size) :
    (results fn tmps).run P w = .ok (.tuple #[.agg cs, tmps.getD u undef]) w := by
  rw [results_cell_tmp h, hp]
  simp [asAddr, run_loadVar_row w g t ty cs fr d hg hu hd hi, Result.andThen]

set_option maxRecDepth 100000 in
theorem ofr_c (w : World) (g : Nat) : Calls Tryz.prog 47 #[ptr g] w fun e w' => e = .returned (trV g) ∧ Ext w w' := by
  go_enter Tryz.func47, Tryz.ntmps47
  repeat' (first | go_skip | go_guarded | go_step)
  (try simp only [Exit.inBlock, Exit.then]); refine bodyPost_ret_by (results_cell_row rfl _ _ _ _ _ _ _ rfl (heap_newG _ _) Tryz.underlying57 rfl (by kernel_rfl)) rfl ?_
  exact ⟨rfl, (Ext.refl w).alloc (Nat.le_refl _) _⟩

abbrev tr0 : Array Value := #[.int .i64 0, .int .u64 0, .int .u64 0, .int .u64 0, .pointer none, .pointer none]
abbrev TrT : TypeId := 57

set_option linter.unusedSectionVars false
theorem ext6 {w w2 : World} {q : Nat} (h : Ext w w2) (hq : w.heap.size ≤ q) (u0 u1 u2 u3 u4 u5 : Value) :
    Ext w ((((((w2.setCell ⟨q, 0, none⟩ u0).setCell ⟨q, 1, none⟩ u1).setCell ⟨q, 2, none⟩ u2).setCell ⟨q, 3, none⟩ u3).setCell ⟨q, 4, none⟩ u4).setCell ⟨q, 5, none⟩ u5) :=
  ((((((h.setCell (p := ⟨q, 0, none⟩) hq _).setCell (p := ⟨q, 1, none⟩) hq _).setCell (p := ⟨q, 2, none⟩) hq _).setCell (p := ⟨q, 3, none⟩) hq _).setCell (p := ⟨q, 4, none⟩) hq _).setCell (p := ⟨q, 5, none⟩) hq _)
theorem heap6 {w2 : World} {q : Nat} {x0 x1 x2 x3 x4 x5 : Value} (h : w2.heap[q]? = some (.cells #[x0, x1, x2, x3, x4, x5] TrT (0, 0))) (u0 u1 u2 u3 u4 u5 : Value) :
    ((((((w2.setCell ⟨q, 0, none⟩ u0).setCell ⟨q, 1, none⟩ u1).setCell ⟨q, 2, none⟩ u2).setCell ⟨q, 3, none⟩ u3).setCell ⟨q, 4, none⟩ u4).setCell ⟨q, 5, none⟩ u5).heap[q]? = some (.cells #[u0, u1, u2, u3, u4, u5] TrT (0, 0)) :=
  heap_set (heap_set (heap_set (heap_set (heap_set (heap_set h 0 u0) 1 u1) 2 u2) 3 u3) 4 u4) 5 u5

theorem tr6 {w2 : World} {q : Nat} {x0 x1 x2 x3 x4 x5 : Value} (h : w2.heap[q]? = some (.cells #[x0, x1, x2, x3, x4, x5] TrT (0, 0))) :
    w2.cell? ⟨q, 0, none⟩ = some x0 ∧ w2.cell? ⟨q, 1, none⟩ = some x1 ∧ w2.cell? ⟨q, 2, none⟩ = some x2 ∧ w2.cell? ⟨q, 3, none⟩ = some x3 ∧ w2.cell? ⟨q, 4, none⟩ = some x4 ∧ w2.cell? ⟨q, 5, none⟩ = some x5 ∧
    w2.frozen? ⟨q, 0, none⟩ = false ∧ w2.frozen? ⟨q, 1, none⟩ = false ∧ w2.frozen? ⟨q, 2, none⟩ = false ∧ w2.frozen? ⟨q, 3, none⟩ = false ∧ w2.frozen? ⟨q, 4, none⟩ = false ∧ w2.frozen? ⟨q, 5, none⟩ = false :=
  ⟨by rw [cellG h]; rfl, by rw [cellG h]; rfl, by rw [cellG h]; rfl, by rw [cellG h]; rfl, by rw [cellG h]; rfl, by rw [cellG h]; rfl, freeG h 0, freeG h 1, freeG h 2, freeG h 3, freeG h 4, freeG h 5⟩

set_option maxRecDepth 100000 in
theorem ofr0_c (w : World) : Calls Tryz.prog 47 #[.pointer none] w fun e w' => ∃ g, e = .returned (trV g) ∧ Ext w w' := by
  go_enter Tryz.func47, Tryz.ntmps47
  repeat' (first | (go_at_call 58) | go_skip | go_guarded | go_step)
  obtain ⟨wa, hwa⟩ : ∃ x, x = w.alloc (.cells tr0 TrT) := ⟨_, rfl⟩
  have hb := heap_newG w (.cells tr0 TrT)
  have hE : Ext w wa := by rw [hwa]; exact (Ext.refl _).alloc (Nat.le_refl _) _
  rw [← hwa] at hb ⊢
  obtain ⟨q, hq⟩ : ∃ q, q = w.heap.size := ⟨_, rfl⟩
  rw [← hq] at hb ⊢
  refine (empty_c wa).mono ?_
  rintro e w2 ⟨rfl, hw2⟩
  have hE2 : Ext wa w2 := by rw [hw2]; exact (Ext.refl _).alloc (Nat.le_refl _) _
  obtain ⟨g, hg⟩ : ∃ g, g = wa.heap.size := ⟨_, rfl⟩
  rw [← hg]
  have hb2 := box_extG hb hE2
  have f0 := freeG hb2 0
  have f1 := freeG hb2 1
  have f2 := freeG hb2 2
  have f3 := freeG hb2 3
  have f4 := freeG hb2 4
  have f5 := freeG hb2 5
  have c0 : w2.cell? ⟨q, 0, none⟩ = some (.int .i64 0) := by rw [cellG hb2]; rfl
  have c1 : w2.cell? ⟨q, 1, none⟩ = some (.int .u64 0) := by rw [cellG hb2]; rfl
  have c2 : w2.cell? ⟨q, 2, none⟩ = some (.int .u64 0) := by rw [cellG hb2]; rfl
  have c3 : w2.cell? ⟨q, 3, none⟩ = some (.int .u64 0) := by rw [cellG hb2]; rfl
  have c4 : w2.cell? ⟨q, 4, none⟩ = some (.pointer none) := by rw [cellG hb2]; rfl
  have c5 : w2.cell? ⟨q, 5, none⟩ = some (.pointer none) := by rw [cellG hb2]; rfl
  have hlt := heap_lt hb2
  have H2 := Lib.hid (And.intro (hE.trans hE2) (And.intro hb2 hq))
  clear hb hE hwa hE2 hw2 hb2 hq hg
  go_simp
  repeat' (first | go_skip | go_guarded | go_step)
  (try simp only [Exit.inBlock, Exit.then]); refine bodyPost_ret_by (results_cell_row rfl _ _ _ _ _ _ _ rfl (heap6 H2.out.2.1 _ _ _ _ _ _) Tryz.underlying57 rfl (by kernel_rfl)) rfl ?_
  exact ⟨g, rfl, ext6 H2.out.1 (by rw [H2.out.2.2]; exact Nat.le_refl _) _ _ _ _ _ _⟩

set_option maxRecDepth 100000 in
theorem new1_c (w : World) (a b c : Int) : Calls Tryz.prog 45 #[.int .i64 1, .agg #[.int .u64 a, .int .u64 b, .int .u64 c]] w fun e w' => ∃ g, e = .returned (.tuple #[trV g, .int .i64 0]) ∧ Ext w w' := by
  go_enter Tryz.func45, Tryz.ntmps45
  repeat' (first | (go_at_call 47) | go_skip | go_guarded | go_step)
  obtain ⟨wa, hwa⟩ : ∃ x, x = (w.alloc (.cells #[.int .u64 a, .int .u64 b, .int .u64 c] 53)).alloc (.cells tr0 TrT) := ⟨_, rfl⟩
  have hb := heap_newG (w.alloc (.cells #[.int .u64 a, .int .u64 b, .int .u64 c] 53)) (.cells tr0 TrT)
  have hE : Ext w wa := by rw [hwa]; exact ((Ext.refl _).alloc (Nat.le_refl _) _).alloc ((Ext.refl _).alloc (Nat.le_refl _) _).size _
  have hsz : (w.alloc (.cells #[.int .u64 a, .int .u64 b, .int .u64 c] 53)).heap.size = w.heap.size + 1 := by simp
  rw [hsz] at hb
  rw [← hwa] at hb ⊢
  obtain ⟨q, hq⟩ : ∃ q, q = w.heap.size + 1 := ⟨_, rfl⟩
  rw [← hq] at hb ⊢
  refine (ofr0_c wa).mono ?_
  rintro e w2 ⟨g, rfl, hE2⟩
  have hb2 := box_extG hb hE2
  obtain ⟨c0, c1, c2, c3, c4, c5, f0, f1, f2, f3, f4, f5⟩ := tr6 hb2
  have hlt := heap_lt hb2
  have H2 := Lib.hid (And.intro (hE.trans hE2) (And.intro hb2 hq))
  clear hb hE hwa hE2 hb2 hq hsz
  go_simp
  repeat' (first | go_skip | go_guarded | go_step)
  (try simp only [Exit.inBlock, Exit.then]); refine bodyPost_ret_by (results_ctB rfl _ _ _ _ _ _ _ rfl (heap6 H2.out.2.1 _ _ _ _ _ _) Tryz.underlying57 rfl (by kernel_rfl)) rfl ?_
  exact ⟨g, rfl, ext6 H2.out.1 (by have := H2.out.2.2; omega) _ _ _ _ _ _⟩

end Go.Proofs.YtigoffdehdobiaaGreat
/- Contracts: pair.Right of a small pair, build.Tree of one pair. -/
namespace Go.Proofs.YtigoffdehdobiaaGreat
open Go.RowKit Go.QS
set_option linter.unusedVariables false

set_option maxRecDepth 100000 in
theorem right0_c (w : World) (a b : List UInt8) (ha : a.length ≤ 256) (hb : b.length ≤ 4096) :
    Calls Tryz.prog 46 #[str a, str b] w fun e w' => e = .returned (.int .i64 0) ∧ w = w' := by
  have d1 : decide ((256 : Int) < (a.length : Int)) = false := decide_eq_false (by omega)
  have d2 : decide ((4096 : Int) < (b.length : Int)) = false := decide_eq_false (by omega)
  have d3 : ¬ ((256 : Int) < (a.length : Int)) := by omega
  have d4 : ¬ ((4096 : Int) < (b.length : Int)) := by omega
  have d5 : ¬ (256 < a.length) := by omega
  have d6 : ¬ (4096 < b.length) := by omega
  go_enter Tryz.func46, Tryz.ntmps46
  repeat' (first | go_skip | go_guarded | go_step)
  go_ret
  exact ⟨rfl, rfl⟩

theorem other6 {w2 : World} {q : Nat} (u0 u1 u2 u3 u4 u5 : Value) : ∀ k, k ≠ q →
    ((((((w2.setCell ⟨q, 0, none⟩ u0).setCell ⟨q, 1, none⟩ u1).setCell ⟨q, 2, none⟩ u2).setCell ⟨q, 3, none⟩ u3).setCell ⟨q, 4, none⟩ u4).setCell ⟨q, 5, none⟩ u5).heap[k]? = w2.heap[k]? := fun k hk =>
  (Below.heap_setCell _ ⟨q, 5, none⟩ u5 k hk).trans <| (Below.heap_setCell _ ⟨q, 4, none⟩ u4 k hk).trans <| (Below.heap_setCell _ ⟨q, 3, none⟩ u3 k hk).trans <| (Below.heap_setCell _ ⟨q, 2, none⟩ u2 k hk).trans <| (Below.heap_setCell _ ⟨q, 1, none⟩ u1 k hk).trans (Below.heap_setCell _ ⟨q, 0, none⟩ u0 k hk)
/-- A block that holds no pointer but nil and is no node may turn: the tree stays. -/
theorem Rep.away6 {T Tg : TypeId} {w w' : World} {gb : Nat} {a b c d : Int} {f : Nat × Nat} (hb : w.heap[gb]? = some (.cells #[.int .i64 a, .int .u64 b, .int .u64 c, .int .u64 d, .pointer none, .pointer none] Tg f)) (hw : ∀ k, k ≠ gb → w'.heap[k]? = w.heap[k]?) {g : Nat} {t : RT} (h : Rep T w g t) : Rep T w' g t := by
  induction h with
  | @mk g t kv ow ps h hs hl _ ih =>
    have hg : g ≠ gb := by
      intro e
      subst e
      unfold NodeAt at h
      rw [hb] at h
      simp at h
    refine .mk ((hw g hg).trans h) ?_ hl ih
    obtain ⟨A, C, rfl, h1, h2, h3, h4⟩ := hs
    refine ⟨A, C, rfl, h1, h2, h3, fun hne => ?_⟩
    obtain ⟨b', o', rfl, hc⟩ := h4 hne
    refine ⟨b', o', rfl, fun j u hu => ?_⟩
    have hcj := hc j u hu
    have hbb : b' ≠ gb := by
      intro e
      subst e
      obtain ⟨q, _, rfl⟩ := List.mem_map.1 (List.mem_of_getElem? hu)
      simp only [World.cell?, hb] at hcj
      match hj : o' + j with
      | 0 => simp [hj] at hcj
      | 1 => simp [hj] at hcj
      | 2 => simp [hj] at hcj
      | 3 => simp [hj] at hcj
      | 4 => simp [hj] at hcj
      | 5 => simp [hj] at hcj
      | n + 6 => simp [hj] at hcj
    exact (World.cell?_of_block (hw b' hbb)).trans hcj

set_option maxRecDepth 100000 in
set_option maxHeartbeats 1000000 in
theorem tree1_c (w : World) (v : Value) (p : Pr) (a b c : Int) (h : PS w v [p]) (hp : p.1 ≠ []) (h9 : p.1.length ≤ 256) (h8 : p.2.length ≤ 4096) :
    Calls Tryz.prog 31 #[.int .i64 1, .agg #[.int .u64 a, .int .u64 b, .int .u64 c], v] w fun e w' => ∃ g, e = .returned (.tuple #[trV g, .int .i64 0]) ∧ Rep NT w' g (RT.node [] none [RT.node p.1 (some p.2) []]) ∧ Ext w w' := by
  obtain ⟨A, C, rfl, _, hn, hC, hs⟩ := h
  obtain ⟨bb, o, rfl, q1, q2⟩ := seg_pair hs (i := 0) (p := p) rfl
  obtain ⟨s1, s2⟩ := p
  have hlb := World.block_lt_of_cell? w _ q1
  have HP : Hid (PS w (.slice (some ⟨bb, o, none⟩) 1 C) [(s1, s2)] ∧ w.cell? ⟨bb, o, none⟩ = some (str s1) ∧ w.cell? ⟨bb, o + 1, none⟩ = some (str s2) ∧ s1 ≠ []) := Lib.hid ⟨⟨_, _, rfl, rfl, hn, hC, hs⟩, by simpa using q1, by simpa using q2, hp⟩
  simp only [List.length_cons, List.length_nil, Nat.zero_mul, Nat.add_zero, Nat.zero_add] at *
  have hw0 : IntKind.i64.wrap 0 = 0 := by decide
  clear hs hp q1 q2
  go_enter Tryz.func31, Tryz.ntmps31
  repeat' (first | (go_at_call 45) | go_skip | go_guarded | go_step)
  obtain ⟨wa, hwa⟩ : ∃ x, x = (w.alloc (.cells #[.int .u64 a, .int .u64 b, .int .u64 c] 53)).alloc (.cells tr0 TrT) := ⟨_, rfl⟩
  have hb := heap_newG (w.alloc (.cells #[.int .u64 a, .int .u64 b, .int .u64 c] 53)) (.cells tr0 TrT)
  have hE : Ext w wa := by rw [hwa]; exact ((Ext.refl _).alloc (Nat.le_refl _) _).alloc ((Ext.refl _).alloc (Nat.le_refl _) _).size _
  have hsz : (w.alloc (.cells #[.int .u64 a, .int .u64 b, .int .u64 c] 53)).heap.size = w.heap.size + 1 := by simp
  rw [hsz] at hb
  rw [← hwa] at hb ⊢
  obtain ⟨q, hq⟩ : ∃ q, q = w.heap.size + 1 := ⟨_, rfl⟩
  rw [← hq] at hb ⊢
  refine (new1_c wa a b c).mono ?_
  rintro e w2 ⟨g0, rfl, hE2⟩
  have hb2 := box_extG hb hE2
  have hlt := heap_lt hb2
  have v1 : w2.cell? ⟨bb, o, none⟩ = some (str s1) := (World.cell?_of_block ((hE.trans hE2).block bb hlb)).trans HP.out.2.1
  have v2 : w2.cell? ⟨bb, o + 1, none⟩ = some (str s2) := (World.cell?_of_block ((hE.trans hE2).block bb hlb)).trans HP.out.2.2.1
  have hlb2 : bb < w2.heap.size := Nat.lt_of_lt_of_le hlb (hE.trans hE2).size
  have H2 := Lib.hid (And.intro (hE.trans hE2) (And.intro hb2 hq))
  clear hb hE hwa hE2 hb2 hq hsz
  go_simp
  repeat' (go_not_at_region 5; (first | go_skip | go_guarded | go_step))
  refine wp_loop_two (fun KR hKR => ?_)
  repeat' (first | (go_at_call 46) | go_skip | go_guarded | go_step)
  obtain ⟨w3, hw3⟩ : ∃ x, x = (w2.alloc (.cells #[.int .i64 1, .int .u64 0, .int .u64 0, .int .u64 0, .pointer none, .pointer (some ⟨g0, 0, none⟩)] TrT)).alloc (.cells #[Value.string (bs s1), Value.string (bs s2)] 70) := ⟨_, rfl⟩
  rw [← hw3]
  have hE3 : Ext w2 w3 := by rw [hw3]; exact ((Ext.refl _).alloc (Nat.le_refl _) _).alloc ((Ext.refl _).alloc (Nat.le_refl _) _).size _
  have H3 := Lib.hid (And.intro (H2.out.1.trans hE3) (And.intro (box_extG H2.out.2.1 hE3) H2.out.2.2))
  clear hw3 hE3 v1 v2 hlt hlb2
  refine (right0_c w3 s1 s2 h9 h8).mono ?_
  rintro e w4 ⟨rfl, rfl⟩
  go_simp
  repeat' (first | go_skip | go_guarded | go_step)
  refine hKR.out _ _ ?_
  repeat' (first | (go_at_call 48) | go_skip | go_guarded | go_step)
  refine (radix1_c _ _ (s1, s2) (HP.out.1.below H3.out.1) HP.out.2.2.2 (by show s1.length ≤ 1000000; omega)).mono ?_
  rintro e w5 ⟨g, rfl, rp5, f5⟩
  have H5 := Lib.hid (And.intro rp5 (And.intro (H3.out.1.trans f5) (box_extG H3.out.2.1 f5)))
  clear rp5 f5
  go_simp
  repeat' (first | (go_at_call 47) | go_skip | go_guarded | go_step)
  refine (ofr_c w5 g).mono ?_
  rintro e w6 ⟨rfl, f6⟩
  have hb6 := box_extG H5.out.2.2 f6
  have H6 := Lib.hid (And.intro (H5.out.1.ext f6) (And.intro (H5.out.2.1.trans f6) (And.intro hb6 H3.out.2.2)))
  obtain ⟨c0, c1, c2, c3, c4, c5, e0, e1, e2, e3, e4, e5⟩ := tr6 hb6
  have hlt := heap_lt hb6
  clear f6 hb6
  go_simp
  repeat' (first | go_skip | go_guarded | go_step)
  (try simp only [Exit.inBlock, Exit.then]); refine bodyPost_ret_by (results_ctB rfl _ _ _ _ _ _ _ rfl (heap6 H6.out.2.2.1 _ _ _ _ _ _) Tryz.underlying57 rfl (by kernel_rfl)) rfl ?_
  refine ⟨g, rfl, ?_, ext6 H6.out.2.1 (by have := H6.out.2.2.2; omega) _ _ _ _ _ _⟩
  exact Rep.away6 H6.out.2.2.1 (other6 _ _ _ _ _ _) H6.out.1
end Go.Proofs.YtigoffdehdobiaaGreat
