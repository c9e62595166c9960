/- Contracts: a node's pairs, kids; a chunk's pair, kid; how many. -/
import Derived.Test.YtclcgelbcbnekaaBc
set_option linter.unusedVariables false
set_option linter.unusedSimpArgs false
namespace Go.Proofs.Ytclcgelbcbnekaa
open Go.RowKit Go.QS Go.QS.Nk
set_option linter.unusedVariables false
variable [Zero (Nat → Prop)]
set_option linter.unusedSectionVars false

set_option maxRecDepth 100000 in
theorem pclone_c (w : World) (v : Value) (l : List Pr) (h : PS w v l) (h9 : l.length ≤ 1000000000) :
    Calls Try.prog 87 #[v] w fun e w' => ∃ v', e = .returned v' ∧ w'.ownsRow w.heap.size NP 2 v' l.length (flat l) ∧ Ext w w' := by
  obtain ⟨A, c, rfl, hl, hn, hc, hs⟩ := h
  have hnil := fun w : World => Lib.run_eql_slice_nil (P := Try.prog) w 22 36 A l.length c 0 0 Try.underlying22
  cases A with
  | none =>
    have hl0 : l = [] := by
      cases l with
      | nil => rfl
      | cons p l => obtain ⟨b, o, h, _⟩ := hs (by simp [flat_cons]); cases h
    subst hl0
    have hnil := fun w : World => Lib.run_eql_slice_nil (P := Try.prog) w 22 36 none 0 c 0 0 Try.underlying22
    go_enter Try.func87, Try.ntmps87
    repeat' go_step
    go_ret
    exact ⟨_, rfl, World.ownsRow_nil _ _ _ _, Ext.refl _⟩
  | some a =>
    go_enter Try.func87, Try.ntmps87
    repeat' (first | (at_builtin; refine wpList_appE (W := w) rfl (.tmp 5) (.tmp 6) _ rfl 36 2 32 Try.underlying22 infoNP (by decide) _ 0 [] rfl (own_lit [] 0 (by decide) rfl (Nat.le_refl _)) ((Ext.refl w).alloc (Nat.le_refl _) _) _ _ c (flat l) rfl hl (hs.alloc _) (flat_one _) (by unfold maxLen; omega) (by omega) ?_; intro v1 w1 hown hb) | go_step)
    go_ret
    refine ⟨_, rfl, ?_, hb⟩
    simpa using hown
set_option maxRecDepth 100000 in
theorem kclone_c (w : World) (v : Value) (l : List Nat) (h : Sl w 1 v l.length (ptrs l)) (h9 : l.length ≤ 1000000000) :
    Calls Try.prog 88 #[v] w fun e w' => ∃ v', e = .returned v' ∧ w'.ownsRow w.heap.size NK 1 v' l.length (ptrs l) ∧ Ext w w' := by
  obtain ⟨A, c, rfl, hl, hn, hc, hs⟩ := h
  have hnil := fun w : World => Lib.run_eql_slice_nil (P := Try.prog) w 75 32 A l.length c 0 0 Try.underlying75
  cases A with
  | none =>
    have hl0 : l = [] := by
      cases l with
      | nil => rfl
      | cons p l => obtain ⟨b, o, h, _⟩ := hs (by simp [ptrs]); cases h
    subst hl0
    have hnil := fun w : World => Lib.run_eql_slice_nil (P := Try.prog) w 75 32 none 0 c 0 0 Try.underlying75
    go_enter Try.func88, Try.ntmps88
    repeat' go_step
    go_ret
    exact ⟨_, rfl, World.ownsRow_nil _ _ _ _, Ext.refl _⟩
  | some a =>
    go_enter Try.func88, Try.ntmps88
    repeat' (first | (at_builtin; refine wpList_appE (W := w) rfl (.tmp 5) (.tmp 6) _ rfl 32 1 8 Try.underlying75 infoNK (by decide) _ 0 [] rfl (own_lit [] 0 (by decide) rfl (Nat.le_refl _)) ((Ext.refl w).alloc (Nat.le_refl _) _) _ _ c (ptrs l) rfl hl (hs.alloc _) (ptrs_one _) (by unfold maxLen; omega) (by omega) ?_; intro v1 w1 hown hb) | go_step)
    go_ret
    refine ⟨_, rfl, ?_, hb⟩
    simpa using hown

theorem npairs_c (w : World) (g : Nat) (pv : Value) (l : List Pr) (hg : w.cell? ⟨g, 2, none⟩ = some pv) (h : PS w pv l) (h9 : l.length ≤ 1000000000) : Calls Try.prog 38 #[ptr g] w fun e w' => ∃ v', e = .returned v' ∧ w'.ownsRow w.heap.size NP 2 v' l.length (flat l) ∧ Ext w w' := by
  have HC := Lib.hid (pclone_c w pv l h h9)
  clear h
  go_enter Try.func38, Try.ntmps38
  repeat' (first | (go_at_call 87; refine HC.out.mono ?_; rintro e w1 ⟨v1, rfl, h1, h2⟩; go_simp) | go_skip | go_guarded | go_step)
  go_ret
  exact ⟨_, rfl, h1, h2⟩
theorem nkids_c (w : World) (g : Nat) (kv : Value) (l : List Nat) (hg : w.cell? ⟨g, 3, none⟩ = some kv) (h : Sl w 1 kv l.length (ptrs l)) (h9 : l.length ≤ 1000000000) : Calls Try.prog 39 #[ptr g] w fun e w' => ∃ v', e = .returned v' ∧ w'.ownsRow w.heap.size NK 1 v' l.length (ptrs l) ∧ Ext w w' := by
  have HC := Lib.hid (kclone_c w kv l h h9)
  clear h
  go_enter Try.func39, Try.ntmps39
  repeat' (first | (go_at_call 88; refine HC.out.mono ?_; rintro e w1 ⟨v1, rfl, h1, h2⟩; go_simp) | go_skip | go_guarded | go_step)
  go_ret
  exact ⟨_, rfl, h1, h2⟩
theorem nlen_c (w : World) (g n m c1 c2 : Nat) (A1 A2 : Option Addr) (h1 : w.cell? ⟨g, 2, none⟩ = some (.slice A1 n c1)) (h2 : w.cell? ⟨g, 3, none⟩ = some (.slice A2 m c2)) (h9 : n + m ≤ 1000000000) : Calls Try.prog 18 #[ptr g] w fun e w' => e = .returned (.int .i64 ((n + m : Nat) : Int)) ∧ Ext w w' := by
  go_enter Try.func18, Try.ntmps18
  repeat' (first | go_skip | go_guarded | go_step)
  have hs1 : IntKind.i64.wrap ((n : Int) + (m : Int)) = (n : Int) + (m : Int) := IntWalk.i64_in _ (by omega)
  go_quiet (fail)
  repeat' (first | go_skip | go_guarded | go_step)
  go_ret
  exact ⟨by rw [Int.natCast_add]; rfl, below_drewN (Ext.refl _) _⟩

/-- What a chunk's pair, or kid, is told as. -/
def pairV : Slot Nat → Value
  | .pr p => .tuple #[.agg #[str p.1, str p.2], .bool true]
  | _ => .tuple #[.agg #[str [], str []], .bool false]
def kidV : Slot Nat → Value
  | .kid k => .tuple #[ptr k, .bool true]
  | _ => .tuple #[.pointer none, .bool false]

theorem in_sizes {T : TypeId} {w : World} {g : Nat} {sl : List (Slot Nat)} (h : In T w g sl) : dataOf sl < 4294967296 ∧ nodesOf sl < 4294967296 := ⟨bits32 _ h.1, bits32 _ h.1⟩

/-- The box of a pair that is handed back, made first. -/
theorem box_first (w : World) : ∃ wa rb, w.alloc (.cells #[.string ⟨#[]⟩, .string ⟨#[]⟩] NP) = wa ∧ rb = w.heap.size ∧ wa.heap[rb]? = some (.cells #[.string ⟨#[]⟩, .string ⟨#[]⟩] NP (0, 0)) ∧ Ext w wa ∧ w.heap.size ≤ rb :=
  ⟨_, _, rfl, rfl, heap_new w _, (Ext.refl w).alloc (Nat.le_refl _) _, Nat.le_refl _⟩
theorem box_facts {w : World} {g : Nat} {a b : Value} {t : TypeId} (h : w.heap[g]? = some (.cells #[a, b] t (0, 0))) : w.cell? ⟨g, 0, none⟩ = some a ∧ w.cell? ⟨g, 1, none⟩ = some b ∧ (∀ j, w.frozen? ⟨g, j, none⟩ = false) :=
  ⟨by simp [World.cell?, h], by simp [World.cell?, h], fun j => by simp [World.frozen?, h]⟩
/-- What is known of a node's pairs, at a chunk that has one. -/
theorem pair_facts {w : World} {g i : Nat} {sl : List (Slot Nat)} {p : Pr} (h : In ND w g sl) (hs : sl[i]? = some (.pr p)) : ∃ d b o n c r, d < 4294967296 ∧ i < 32 ∧ n ≤ 32 ∧ r < n ∧ n ≤ c ∧ Hid (d.testBit i = true ∧ rnk d i = r) ∧
    Hid (w.cell? ⟨g, 0, none⟩ = some (.int .u32 d) ∧ w.cell? ⟨g, 2, none⟩ = some (.slice (some ⟨b, o, none⟩) n c) ∧ w.cell? ⟨b, o + r * 2, none⟩ = some (str p.1) ∧ w.cell? ⟨b, o + r * 2 + 1, none⟩ = some (str p.2)) := by
  have hi : i < 32 := by have := get_lt hs; rw [h.1] at this; exact this
  have hd9 := (in_sizes h).1
  have hbit := bit_at Slot.isP hs
  have hrk := rk_data (sl := sl) (by rw [h.1]; decide) i
  obtain ⟨h32, ow, pv, kv, nd⟩ := h
  obtain ⟨PA, pc, rfl, hpl, hpn, hpc, hps⟩ := nd.pairs
  have hat := prs_at hs
  obtain ⟨b, o, rfl, k0, k1⟩ := seg_pair hps hat
  have hp32 := prsOf_len sl
  rw [h32] at hp32
  exact ⟨_, b, o, _, pc, rkP sl i, hd9, hi, hp32, (List.getElem?_eq_some_iff.1 hat).1, hpn, Lib.hid ⟨hbit, hrk⟩, Lib.hid ⟨nd.node.cells.1, nd.node.cells.2.2.1, k0, k1⟩⟩
theorem keep4c {w w' : World} {a1 a2 a3 a4 : Addr} {u1 u2 u3 u4 : Value} (f : Ext w w') (h : w.cell? a1 = some u1 ∧ w.cell? a2 = some u2 ∧ w.cell? a3 = some u3 ∧ w.cell? a4 = some u4) : w'.cell? a1 = some u1 ∧ w'.cell? a2 = some u2 ∧ w'.cell? a3 = some u3 ∧ w'.cell? a4 = some u4 :=
  ⟨(f.cell (World.block_lt_of_cell? w _ h.1)).trans h.1, (f.cell (World.block_lt_of_cell? w _ h.2.1)).trans h.2.1, (f.cell (World.block_lt_of_cell? w _ h.2.2.1)).trans h.2.2.1, (f.cell (World.block_lt_of_cell? w _ h.2.2.2)).trans h.2.2.2⟩
theorem box_ext' {w w' : World} {g : Nat} {o : Obj} (h : w.heap[g]? = some o) (f : Ext w w') : w'.heap[g]? = some o := (f.block g (heap_lt h)).trans h

set_option maxRecDepth 100000 in
set_option maxHeartbeats 1000000 in
theorem pair_yes (w : World) (g i : Nat) (sl : List (Slot Nat)) (p : Pr) (h : In ND w g sl) (hs : sl[i]? = some (.pr p)) : Calls Try.prog 21 #[ptr g, .int .i64 i] w fun e w' => e = .returned (.tuple #[.agg #[str p.1, str p.2], .bool true]) ∧ Ext w w' := by
  obtain ⟨d, b, o, n, pc, r, hd9, hi, hn9, hrn, hnc, HB, HK0⟩ := pair_facts h hs
  clear h hs
  obtain ⟨wa, rb, hwa, hrb, hba, hEa, hle⟩ := box_first w
  have HW := Lib.hid (And.intro hwa hrb)
  have HA := Lib.hid (And.intro hba (And.intro hEa hle))
  have HK := Lib.hid (keep4c hEa HK0.out)
  have HK1 := Lib.hid HK0.out
  have hri : (r : Int) < (n : Int) := by omega
  clear hwa hrb hba hEa hle HK0
  go_enter Try.func21, Try.ntmps21
  repeat' (first | go_at_call 59 | go_skip | go_guarded | go_step)
  rw [HW.out.1, ← HW.out.2]
  refine (data_c wa g d HK.out.1).mono ?_
  rintro e w1 ⟨rfl, rfl⟩
  go_simp
  repeat' (first | go_at_call 65 | go_skip | go_guarded | go_step)
  refine (has_c wa d i hd9 hi).mono ?_
  rintro e w1 ⟨rfl, rfl⟩
  rw [HB.out.1]
  obtain ⟨hc0, hc1, hfr⟩ := box_facts HA.out.1
  obtain ⟨q0, q1, q2, q3⟩ := HK.out
  go_simp
  repeat' (go_not_at_region 3; (first | go_skip | go_guarded | go_step))
  have hr0 : (0 : Int) ≤ (r : Int) := by omega
  go_region_held3 (fun w' => w'.cell? ⟨g, 0, none⟩ = some (.int .u32 d) ∧ w'.cell? ⟨g, 2, none⟩ = some (.slice (some ⟨b, o, none⟩) n pc) ∧ w'.cell? ⟨b, o + r * 2, none⟩ = some (str p.1) ∧ w'.cell? ⟨b, o + r * 2 + 1, none⟩ = some (str p.2))
    (first | exact keep4c (((HA.out.2.1.trans k1.out).setCell HA.out.2.2 _).setCell HA.out.2.2 _) HK1.out | exact keep4c k1.out HK.out | exact keep4c (below_drewN (Ext.refl _) 1) HK.out)
    ((go_at_call 66; refine (rank_c _ d i hd9 hi).mono ?_; rintro e x1 ⟨rfl, f1⟩; rw [HB.out.2]; have k1 : Hid (Ext wa x1) := Lib.hid (Ext.trans (below_drewN (Ext.refl _) 1) f1); have k2 := Lib.hid (box_ext' HA.out.1 k1.out); obtain ⟨hd0, hd1, hdf⟩ := box_facts k2.out; clear f1))
  repeat' (first | go_skip | go_guarded | go_step)
  (try simp only [Exit.inBlock, Exit.then])
  refine bodyPost_ret_by (results_ct rfl _ _ _ _ _ _ _ rfl (heap_set (heap_set k2.out 0 _) 1 _) Try.underlying36 rfl (by kernel_rfl)) rfl ?_
  exact ⟨rfl, ((HA.out.2.1.trans k1.out).setCell HA.out.2.2 _).setCell HA.out.2.2 _⟩
end Go.Proofs.Ytclcgelbcbnekaa
