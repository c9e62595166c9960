/- Texts joined. -/
import Derived.Test.YtclcgelbcbnekaaDoorM04
import Derived.BigQuiet
import Derived.Laws.Rows
import Derived.Deep.DeepCutAuto
import Derived.Deep.RegionHeld3
import Derived.Test.YtclcgelbcbnekaaDoorM00
set_option linter.unusedVariables false
set_option linter.unusedSimpArgs false
/- Contract of math/bits.OnesCount32, chunk.Bits.Count, Rank. -/
namespace Go.Proofs.YtclcgelbcbnekaaDoor
open Go.RowKit Go.QS
set_option linter.unusedVariables false

theorem byte_law (x : Nat) (hx : x < 4294967296) : bits BinOp.and IntKind.u32 (x : Int) 255 = ((x % 256 : Nat) : Int) := by
  have := bits_and_u32_nat x 255 hx (by decide)
  rw [show (255 : Int) = ((255 : Nat) : Int) from rfl, this]
  congr 1
  exact Nat.and_two_pow_sub_one_eq_mod x 8

set_option maxRecDepth 100000 in
theorem fold_table : (⟨(([0, 1, 1, 2, 1, 2, 2, 3, 1, 2, 2, 3, 2, 3, 3, 4, 1, 2, 2, 3, 2, 3, 3, 4, 2, 3, 3, 4, 3, 4, 4, 5, 1, 2, 2, 3, 2, 3, 3, 4, 2, 3, 3, 4, 3, 4, 4, 5, 2, 3, 3, 4, 3, 4, 4, 5, 3, 4, 4, 5, 4, 5, 5, 6].append [1, 2, 2, 3, 2, 3, 3, 4, 2, 3, 3, 4, 3, 4, 4, 5, 2, 3, 3, 4, 3, 4, 4, 5, 3, 4, 4, 5, 4, 5, 5, 6, 2, 3, 3, 4, 3, 4, 4, 5, 3, 4, 4, 5, 4, 5, 5, 6, 3, 4, 4, 5, 4, 5, 5, 6, 4, 5, 5, 6, 5, 6, 6, 7]).append ([1, 2, 2, 3, 2, 3, 3, 4, 2, 3, 3, 4, 3, 4, 4, 5, 2, 3, 3, 4, 3, 4, 4, 5, 3, 4, 4, 5, 4, 5, 5, 6, 2, 3, 3, 4, 3, 4, 4, 5, 3, 4, 4, 5, 4, 5, 5, 6, 3, 4, 4, 5, 4, 5, 5, 6, 4, 5, 5, 6, 5, 6, 6, 7].append [2, 3, 3, 4, 3, 4, 4, 5, 3, 4, 4, 5, 4, 5, 5, 6, 3, 4, 4, 5, 4, 5, 5, 6, 4, 5, 5, 6, 5, 6, 6, 7, 3, 4, 4, 5, 4, 5, 5, 6, 4, 5, 5, 6, 5, 6, 6, 7, 4, 5, 5, 6, 5, 6, 6, 7, 5, 6, 6, 7, 6, 7, 7, 8])).toArray⟩ : ByteArray) = Lib.pop8tab := by kernel_rfl

set_option maxRecDepth 100000 in
set_option maxHeartbeats 400000 in
theorem ones_c (w : World) (n : Nat) (hn : n < 4294967296) : Calls Tryd.prog 93 #[.int .u32 (n : Int)] w fun e w' => e = .returned (.int .i64 (Lib.onesCount n)) ∧ Ext w w' := by
  go_enter Tryd.func93, Tryd.ntmps93
  have b1 : bits BinOp.and IntKind.u32 ((n : Int) / 65536) 255 = ((n / 65536 % 256 : Nat) : Int) := by rw [← byte_law _ (by omega)]; simp
  have b2 : bits BinOp.and IntKind.u32 ((n : Int) / 256) 255 = ((n / 256 % 256 : Nat) : Int) := by rw [← byte_law _ (by omega)]; simp
  have b3 : bits BinOp.and IntKind.u32 (n : Int) 255 = ((n % 256 : Nat) : Int) := byte_law n hn
  have hT := fold_table
  have hI : ∀ (t : TypeId) (k : IntKind) (i : Int) w, Tryd.prog.underlying t = some .string → 0 ≤ i → i ≤ 255 → (Instr.index t (.string Lib.pop8tab) (.int k i)).run Tryd.prog w = .ok (.int .u8 (Lib.pop8 i)) w := fun t k i w h h0 h1 => Lib.run_index_pop8tab w t k i h h0 h1
  have c0 : (0 : Int) ≤ (n : Int) / 16777216 := by omega
  have d0 : (n : Int) / 16777216 ≤ 255 := by omega
  have c1 : (0 : Int) ≤ ((n / 65536 % 256 : Nat) : Int) := by omega
  have d1 : ((n / 65536 % 256 : Nat) : Int) ≤ 255 := by omega
  have c2 : (0 : Int) ≤ ((n / 256 % 256 : Nat) : Int) := by omega
  have d2 : ((n / 256 % 256 : Nat) : Int) ≤ 255 := by omega
  have c3 : (0 : Int) ≤ ((n % 256 : Nat) : Int) := by omega
  have d3 : ((n % 256 : Nat) : Int) ≤ 255 := by omega
  repeat' go_step
  go_quiet (fail)
  repeat' go_step
  go_ret
  exact ⟨by rw [pop_law n hn]; rfl, below_drewN (Ext.refl _) _⟩

theorem count_c (w : World) (n : Nat) (hn : n < 4294967296) : Calls Tryd.prog 75 #[.int .u32 (n : Int)] w fun e w' => e = .returned (.int .i64 (Lib.onesCount n)) ∧ Ext w w' := by
  go_enter Tryd.func75, Tryd.ntmps75
  repeat' go_step
  refine (ones_c _ n hn).mono ?_
  rintro e w1 ⟨rfl, b1⟩
  go_simp
  repeat' go_step
  go_ret
  exact ⟨rfl, b1⟩
theorem mask_law (n i : Nat) (hn : n < 4294967296) (hi : i < 32) : bits BinOp.and IntKind.u32 (n : Int) (((2 : Int) ^ i - 1) % 4294967296) = ((n % 2 ^ i : Nat) : Int) := by
  have h := (pow_law i hi).2
  have hp : 0 < 2 ^ i := Nat.two_pow_pos i
  have e : (2 : Int) ^ i = ((2 ^ i : Nat) : Int) := by simp
  have e2 : ((2 : Int) ^ i - 1) % 4294967296 = ((2 ^ i - 1 : Nat) : Int) := by
    rw [e]
    generalize 2 ^ i = m at h hp ⊢
    omega
  rw [e2, bits_and_u32_nat n (2 ^ i - 1) hn (by omega), Nat.and_two_pow_sub_one_eq_mod]
/-- How many of the set n are less than i. -/
def rnk (n i : Nat) : Nat := Lib.onesCount (n % 2 ^ i)
theorem rank_c (w : World) (n i : Nat) (hn : n < 4294967296) (hi : i < 32) : Calls Tryd.prog 42 #[.int .u32 (n : Int), .int .i64 (i : Int)] w fun e w' => e = .returned (.int .i64 (rnk n i)) ∧ Ext w w' := by
  rcases Nat.eq_zero_or_pos i with rfl | hp
  · go_enter Tryd.func42, Tryd.ntmps42
    repeat' go_step
    go_ret
    exact ⟨by simp [rnk, Nat.mod_one]; rfl, Ext.refl _⟩
  · have d1 : decide ((i : Int) ≤ 0) = false := by simp; omega
    have d2 : decide ((32 : Int) ≤ (i : Int)) = false := by simp; omega
    go_enter Tryd.func42, Tryd.ntmps42
    have d3 : decide (i = 0) = false := by simp; omega
    repeat' go_step
    rw [mask_law n i hn hi]
    refine (count_c _ (n % 2 ^ i) (Nat.lt_of_le_of_lt (Nat.mod_le _ _) hn)).mono ?_
    rintro e w1 ⟨rfl, b1⟩
    go_simp
    repeat' go_step
    go_ret
    exact ⟨rfl, b1⟩
end Go.Proofs.YtclcgelbcbnekaaDoor
/- Contracts: node.Inner, token Live. -/
namespace Go.Proofs.YtclcgelbcbnekaaDoor
open Go.RowKit Go.QS
set_option linter.unusedVariables false

theorem live_nil (w : World) : Calls Tryd.prog 51 #[.pointer none] w fun e w' => e = .returned (.bool false) ∧ w = w' := by
  go_enter Tryd.func51, Tryd.ntmps51
  repeat' (first | go_skip | go_guarded | go_step)
  go_ret
  exact ⟨rfl, rfl⟩
theorem live_c (w : World) (g : Nat) (b : Bool) (h : w.cell? ⟨g, 2, none⟩ = some (.bool b)) : Calls Tryd.prog 51 #[.pointer (some ⟨g, 0, none⟩)] w fun e w' => e = .returned (.bool b) ∧ Ext w w' := by
  go_enter Tryd.func51, Tryd.ntmps51
  repeat' (first | go_skip | go_guarded | go_step)
  go_ret
  exact ⟨rfl, Ext.refl _⟩
theorem inner_c (w : World) : Calls Tryd.prog 20 #[] w fun e w' => e = .returned (.pointer (some ⟨w.heap.size, 0, none⟩)) ∧ Ext w w' := by
  go_enter Tryd.func20, Tryd.ntmps20
  repeat' (first | go_skip | go_guarded | go_step)
  go_ret
  exact ⟨rfl, (Ext.refl w).alloc (Nat.le_refl _) _⟩
end Go.Proofs.YtclcgelbcbnekaaDoor
/- Contracts of the node chapter's small functions. -/
namespace Go.Proofs.YtclcgelbcbnekaaDoor
open Go.RowKit Go.QS Go.QS.Nk
set_option linter.unusedVariables false
variable [Zero (Nat → Prop)]
set_option linter.unusedSectionVars false

abbrev ND : TypeId := 97
abbrev NK : TypeId := 29
abbrev NP : TypeId := 45
abbrev nil0 : Value := .pointer none
theorem infoNK : ∃ i z, Tryd.prog.info? 29 = some i ∧ i.zero = some z ∧ i.size = 1 ∧ i.bytes = 8 ∧ z.cells.size = 1 := info_of (z := .pointer none) (by kernel_rfl) rfl
theorem infoNP : ∃ i z, Tryd.prog.info? 45 = some i ∧ i.zero = some z ∧ i.size = 2 ∧ i.bytes = 32 ∧ z.cells.size = 2 := info_of (z := .agg #[str [], str []]) (by kernel_rfl) rfl
theorem results_ct {P : Program} {fn : Func} {p u : Tmp} {ty : TypeId} (h : fn.results = #[.cell p ty, .tmp u]) (tmps : Array Value) (w : World) (g : Nat) (t : TypeId) (cs : Array Value) (fr : Nat × Nat) (d : TypeDesc)
    (hp : tmps.getD p undef = .pointer (some ⟨g, 0, none⟩)) (hg : w.heap[g]? = some (.cells cs t fr)) (hu : P.underlying ty = some d) (hd : (match d with | .struct _ | .array _ _ => true | _ => false) = true) (hi : (P.info? ty).map (·.size) = some cs.size) :
    (results fn tmps).run P w = .ok (.tuple #[.agg cs, tmps.getD u undef]) w := by
  rw [results_cell_tmp h, hp]
  simp [asAddr, run_loadVar_row w g t ty cs fr d hg hu hd hi, Result.andThen]

/-! ### Of a nil node -/
theorem isb_nil (w : World) : Calls Tryd.prog 52 #[nil0] w fun e w' => e = .returned (.bool false) ∧ Ext w w' := by
  go_enter Tryd.func52, Tryd.ntmps52
  repeat' (first | go_skip | go_guarded | go_step)
  go_ret
  exact ⟨rfl, Ext.refl _⟩
theorem data_nil (w : World) : Calls Tryd.prog 60 #[nil0] w fun e w' => e = .returned (.int .u32 0) ∧ w = w' := by
  go_enter Tryd.func60, Tryd.ntmps60
  repeat' (first | go_skip | go_guarded | go_step)
  go_ret
  exact ⟨rfl, rfl⟩
theorem nodes_nil (w : World) : Calls Tryd.prog 61 #[nil0] w fun e w' => e = .returned (.int .u32 0) ∧ w = w' := by
  go_enter Tryd.func61, Tryd.ntmps61
  repeat' (first | go_skip | go_guarded | go_step)
  go_ret
  exact ⟨rfl, rfl⟩
theorem pairs_nil (w : World) : Calls Tryd.prog 59 #[nil0] w fun e w' => e = .returned (.slice none 0 0) ∧ w = w' := by
  go_enter Tryd.func59, Tryd.ntmps59
  repeat' (first | go_skip | go_guarded | go_step)
  go_ret
  exact ⟨rfl, rfl⟩
theorem kids_nil (w : World) : Calls Tryd.prog 62 #[nil0] w fun e w' => e = .returned (.slice none 0 0) ∧ w = w' := by
  go_enter Tryd.func62, Tryd.ntmps62
  repeat' (first | go_skip | go_guarded | go_step)
  go_ret
  exact ⟨rfl, rfl⟩
theorem len_nil (w : World) : Calls Tryd.prog 58 #[nil0] w fun e w' => e = .returned (.int .i64 0) ∧ w = w' := by
  go_enter Tryd.func58, Tryd.ntmps58
  repeat' (first | go_skip | go_guarded | go_step)
  go_ret
  exact ⟨rfl, rfl⟩
theorem inner_nil (w : World) (i : Int) : Calls Tryd.prog 39 #[nil0, .int .i64 i] w fun e w' => e = .returned (.bool false) ∧ Ext w w' := by
  go_enter Tryd.func39, Tryd.ntmps39
  repeat' (first | go_skip | go_guarded | go_step)
  go_ret
  exact ⟨rfl, Ext.refl _⟩
theorem owned_nil (w : World) (v : Value) (hv : v = nil0 ∨ ∃ g, v = ptr g) : Calls Tryd.prog 71 #[v, nil0] w fun e w' => e = .returned (.bool false) ∧ w = w' := by
  rcases hv with rfl | ⟨g, rfl⟩
  · go_enter Tryd.func71, Tryd.ntmps71
    repeat' (first | go_skip | go_guarded | go_step)
    go_ret
    exact ⟨rfl, rfl⟩
  · go_enter Tryd.func71, Tryd.ntmps71
    repeat' (first | (go_at_call 51; refine (live_nil _).mono ?_; rintro e w1 ⟨rfl, rfl⟩; go_simp) | go_skip | go_guarded | go_step)
    go_ret
    exact ⟨rfl, rfl⟩

/-! ### Of a node -/
theorem isb_c (w : World) (g : Nat) (b : Bool) (h : w.cell? ⟨g, 4, none⟩ = some (.bool b)) : Calls Tryd.prog 52 #[ptr g] w fun e w' => e = .returned (.bool b) ∧ Ext w w' := by
  go_enter Tryd.func52, Tryd.ntmps52
  repeat' (first | go_skip | go_guarded | go_step)
  go_ret
  exact ⟨rfl, Ext.refl _⟩
theorem data_c (w : World) (g d : Nat) (h : w.cell? ⟨g, 0, none⟩ = some (.int .u32 d)) : Calls Tryd.prog 60 #[ptr g] w fun e w' => e = .returned (.int .u32 d) ∧ w = w' := by
  go_enter Tryd.func60, Tryd.ntmps60
  repeat' (first | go_skip | go_guarded | go_step)
  go_ret
  exact ⟨rfl, rfl⟩
theorem nodes_c (w : World) (g d : Nat) (h : w.cell? ⟨g, 1, none⟩ = some (.int .u32 d)) : Calls Tryd.prog 61 #[ptr g] w fun e w' => e = .returned (.int .u32 d) ∧ w = w' := by
  go_enter Tryd.func61, Tryd.ntmps61
  repeat' (first | go_skip | go_guarded | go_step)
  go_ret
  exact ⟨rfl, rfl⟩
theorem inner_yes (w : World) (g i : Nat) (hi : i < 32) (h : w.cell? ⟨g, 4, none⟩ = some (.bool false)) : Calls Tryd.prog 39 #[ptr g, .int .i64 i] w fun e w' => e = .returned (.bool true) ∧ Ext w w' := by
  have h1 : (0 : Int) ≤ (i : Int) := by omega
  have h2 : (i : Int) < 32 := by omega
  have h3 : decide ((0 : Int) ≤ (i : Int)) = true := by simp
  have h4 : decide ((i : Int) < 32) = true := by simp; omega
  go_enter Tryd.func39, Tryd.ntmps39
  repeat' (first | go_skip | go_guarded | go_step)
  go_ret
  exact ⟨rfl, Ext.refl _⟩
theorem inner_bk (w : World) (g : Nat) (i : Int) (h : w.cell? ⟨g, 4, none⟩ = some (.bool true)) : Calls Tryd.prog 39 #[ptr g, .int .i64 i] w fun e w' => e = .returned (.bool false) ∧ Ext w w' := by
  go_enter Tryd.func39, Tryd.ntmps39
  repeat' (first | go_skip | go_guarded | go_step)
  go_ret
  exact ⟨rfl, Ext.refl _⟩
theorem inner_out (w : World) (g : Nat) (i : Int) (hi : i < 0 ∨ 32 ≤ i) (h : w.cell? ⟨g, 4, none⟩ = some (.bool false)) : Calls Tryd.prog 39 #[ptr g, .int .i64 i] w fun e w' => e = .returned (.bool false) ∧ Ext w w' := by
  rcases hi with hi | hi
  · have h3 : decide ((0 : Int) ≤ i) = false := by simp; omega
    go_enter Tryd.func39, Tryd.ntmps39
    repeat' (first | go_skip | go_guarded | go_step)
    go_ret
    exact ⟨rfl, Ext.refl _⟩
  · have h3 : decide ((0 : Int) ≤ i) = true := by simp; omega
    have h4 : decide (i < 32) = false := by simp; omega
    go_enter Tryd.func39, Tryd.ntmps39
    repeat' (first | go_skip | go_guarded | go_step)
    go_ret
    exact ⟨rfl, Ext.refl _⟩
end Go.Proofs.YtclcgelbcbnekaaDoor
/- Contracts: a node's pairs, kids; a chunk's pair, kid; how many. -/
namespace Go.Proofs.YtclcgelbcbnekaaDoor
open Go.RowKit Go.QS Go.QS.Nk
set_option linter.unusedVariables false
variable [Zero (Nat → Prop)]
set_option linter.unusedSectionVars false

set_option maxRecDepth 100000 in
theorem pclone_c (w : World) (v : Value) (l : List Pr) (h : PS w v l) (h9 : l.length ≤ 1000000000) :
    Calls Tryd.prog 72 #[v] w fun e w' => ∃ v', e = .returned v' ∧ w'.ownsRow w.heap.size NP 2 v' l.length (flat l) ∧ Ext w w' := by
  obtain ⟨A, c, rfl, hl, hn, hc, hs⟩ := h
  have hnil := fun w : World => Lib.run_eql_slice_nil (P := Tryd.prog) w 43 45 A l.length c 0 0 Tryd.underlying43
  cases A with
  | none =>
    have hl0 : l = [] := by
      cases l with
      | nil => rfl
      | cons p l => obtain ⟨b, o, h, _⟩ := hs (by simp [flat_cons]); cases h
    subst hl0
    have hnil := fun w : World => Lib.run_eql_slice_nil (P := Tryd.prog) w 43 45 none 0 c 0 0 Tryd.underlying43
    go_enter Tryd.func72, Tryd.ntmps72
    repeat' go_step
    go_ret
    exact ⟨_, rfl, World.ownsRow_nil _ _ _ _, Ext.refl _⟩
  | some a =>
    go_enter Tryd.func72, Tryd.ntmps72
    repeat' (first | (at_builtin; refine wpList_appE (W := w) rfl (.tmp 5) (.tmp 6) _ rfl 45 2 32 Tryd.underlying43 infoNP (by decide) _ 0 [] rfl (own_lit [] 0 (by decide) rfl (Nat.le_refl _)) ((Ext.refl w).alloc (Nat.le_refl _) _) _ _ c (flat l) rfl hl (hs.alloc _) (flat_one _) (by unfold maxLen; omega) (by omega) ?_; intro v1 w1 hown hb) | go_step)
    go_ret
    refine ⟨_, rfl, ?_, hb⟩
    simpa using hown
set_option maxRecDepth 100000 in
theorem kclone_c (w : World) (v : Value) (l : List Nat) (h : Sl w 1 v l.length (ptrs l)) (h9 : l.length ≤ 1000000000) :
    Calls Tryd.prog 73 #[v] w fun e w' => ∃ v', e = .returned v' ∧ w'.ownsRow w.heap.size NK 1 v' l.length (ptrs l) ∧ Ext w w' := by
  obtain ⟨A, c, rfl, hl, hn, hc, hs⟩ := h
  have hnil := fun w : World => Lib.run_eql_slice_nil (P := Tryd.prog) w 93 29 A l.length c 0 0 Tryd.underlying93
  cases A with
  | none =>
    have hl0 : l = [] := by
      cases l with
      | nil => rfl
      | cons p l => obtain ⟨b, o, h, _⟩ := hs (by simp [ptrs]); cases h
    subst hl0
    have hnil := fun w : World => Lib.run_eql_slice_nil (P := Tryd.prog) w 93 29 none 0 c 0 0 Tryd.underlying93
    go_enter Tryd.func73, Tryd.ntmps73
    repeat' go_step
    go_ret
    exact ⟨_, rfl, World.ownsRow_nil _ _ _ _, Ext.refl _⟩
  | some a =>
    go_enter Tryd.func73, Tryd.ntmps73
    repeat' (first | (at_builtin; refine wpList_appE (W := w) rfl (.tmp 5) (.tmp 6) _ rfl 29 1 8 Tryd.underlying93 infoNK (by decide) _ 0 [] rfl (own_lit [] 0 (by decide) rfl (Nat.le_refl _)) ((Ext.refl w).alloc (Nat.le_refl _) _) _ _ c (ptrs l) rfl hl (hs.alloc _) (ptrs_one _) (by unfold maxLen; omega) (by omega) ?_; intro v1 w1 hown hb) | go_step)
    go_ret
    refine ⟨_, rfl, ?_, hb⟩
    simpa using hown

theorem npairs_c (w : World) (g : Nat) (pv : Value) (l : List Pr) (hg : w.cell? ⟨g, 2, none⟩ = some pv) (h : PS w pv l) (h9 : l.length ≤ 1000000000) : Calls Tryd.prog 59 #[ptr g] w fun e w' => ∃ v', e = .returned v' ∧ w'.ownsRow w.heap.size NP 2 v' l.length (flat l) ∧ Ext w w' := by
  have HC := Lib.hid (pclone_c w pv l h h9)
  clear h
  go_enter Tryd.func59, Tryd.ntmps59
  repeat' (first | (go_at_call 72; refine HC.out.mono ?_; rintro e w1 ⟨v1, rfl, h1, h2⟩; go_simp) | go_skip | go_guarded | go_step)
  go_ret
  exact ⟨_, rfl, h1, h2⟩
theorem nkids_c (w : World) (g : Nat) (kv : Value) (l : List Nat) (hg : w.cell? ⟨g, 3, none⟩ = some kv) (h : Sl w 1 kv l.length (ptrs l)) (h9 : l.length ≤ 1000000000) : Calls Tryd.prog 62 #[ptr g] w fun e w' => ∃ v', e = .returned v' ∧ w'.ownsRow w.heap.size NK 1 v' l.length (ptrs l) ∧ Ext w w' := by
  have HC := Lib.hid (kclone_c w kv l h h9)
  clear h
  go_enter Tryd.func62, Tryd.ntmps62
  repeat' (first | (go_at_call 73; refine HC.out.mono ?_; rintro e w1 ⟨v1, rfl, h1, h2⟩; go_simp) | go_skip | go_guarded | go_step)
  go_ret
  exact ⟨_, rfl, h1, h2⟩
theorem nlen_c (w : World) (g n m c1 c2 : Nat) (A1 A2 : Option Addr) (h1 : w.cell? ⟨g, 2, none⟩ = some (.slice A1 n c1)) (h2 : w.cell? ⟨g, 3, none⟩ = some (.slice A2 m c2)) (h9 : n + m ≤ 1000000000) : Calls Tryd.prog 58 #[ptr g] w fun e w' => e = .returned (.int .i64 ((n + m : Nat) : Int)) ∧ Ext w w' := by
  go_enter Tryd.func58, Tryd.ntmps58
  repeat' (first | go_skip | go_guarded | go_step)
  have hs1 : IntKind.i64.wrap ((n : Int) + (m : Int)) = (n : Int) + (m : Int) := IntWalk.i64_in _ (by omega)
  go_quiet (fail)
  repeat' (first | go_skip | go_guarded | go_step)
  go_ret
  exact ⟨by rw [Int.natCast_add]; rfl, below_drewN (Ext.refl _) _⟩

/-- What a chunk's pair, or kid, is told as. -/
def pairV : Slot Nat → Value
  | .pr p => .tuple #[.agg #[str p.1, str p.2], .bool true]
  | _ => .tuple #[.agg #[str [], str []], .bool false]
def kidV : Slot Nat → Value
  | .kid k => .tuple #[ptr k, .bool true]
  | _ => .tuple #[.pointer none, .bool false]

theorem in_sizes {T : TypeId} {w : World} {g : Nat} {sl : List (Slot Nat)} (h : In T w g sl) : dataOf sl < 4294967296 ∧ nodesOf sl < 4294967296 := ⟨bits32 _ h.1, bits32 _ h.1⟩

/-- The box of a pair that is handed back, made first. -/
theorem box_first (w : World) : ∃ wa rb, w.alloc (.cells #[.string ⟨#[]⟩, .string ⟨#[]⟩] NP) = wa ∧ rb = w.heap.size ∧ wa.heap[rb]? = some (.cells #[.string ⟨#[]⟩, .string ⟨#[]⟩] NP (0, 0)) ∧ Ext w wa ∧ w.heap.size ≤ rb :=
  ⟨_, _, rfl, rfl, heap_new w _, (Ext.refl w).alloc (Nat.le_refl _) _, Nat.le_refl _⟩
theorem box_facts {w : World} {g : Nat} {a b : Value} {t : TypeId} (h : w.heap[g]? = some (.cells #[a, b] t (0, 0))) : w.cell? ⟨g, 0, none⟩ = some a ∧ w.cell? ⟨g, 1, none⟩ = some b ∧ (∀ j, w.frozen? ⟨g, j, none⟩ = false) :=
  ⟨by simp [World.cell?, h], by simp [World.cell?, h], fun j => by simp [World.frozen?, h]⟩
/-- What is known of a node's pairs, at a chunk that has one. -/
theorem pair_facts {w : World} {g i : Nat} {sl : List (Slot Nat)} {p : Pr} (h : In ND w g sl) (hs : sl[i]? = some (.pr p)) : ∃ d b o n c r, d < 4294967296 ∧ i < 32 ∧ n ≤ 32 ∧ r < n ∧ n ≤ c ∧ Hid (d.testBit i = true ∧ rnk d i = r) ∧
    Hid (w.cell? ⟨g, 0, none⟩ = some (.int .u32 d) ∧ w.cell? ⟨g, 2, none⟩ = some (.slice (some ⟨b, o, none⟩) n c) ∧ w.cell? ⟨b, o + r * 2, none⟩ = some (str p.1) ∧ w.cell? ⟨b, o + r * 2 + 1, none⟩ = some (str p.2)) := by
  have hi : i < 32 := by have := get_lt hs; rw [h.1] at this; exact this
  have hd9 := (in_sizes h).1
  have hbit := bit_at Slot.isP hs
  have hrk := rk_data (sl := sl) (by rw [h.1]; decide) i
  obtain ⟨h32, ow, pv, kv, nd⟩ := h
  obtain ⟨PA, pc, rfl, hpl, hpn, hpc, hps⟩ := nd.pairs
  have hat := prs_at hs
  obtain ⟨b, o, rfl, k0, k1⟩ := seg_pair hps hat
  have hp32 := prsOf_len sl
  rw [h32] at hp32
  exact ⟨_, b, o, _, pc, rkP sl i, hd9, hi, hp32, (List.getElem?_eq_some_iff.1 hat).1, hpn, Lib.hid ⟨hbit, hrk⟩, Lib.hid ⟨nd.node.cells.1, nd.node.cells.2.2.1, k0, k1⟩⟩
theorem keep4c {w w' : World} {a1 a2 a3 a4 : Addr} {u1 u2 u3 u4 : Value} (f : Ext w w') (h : w.cell? a1 = some u1 ∧ w.cell? a2 = some u2 ∧ w.cell? a3 = some u3 ∧ w.cell? a4 = some u4) : w'.cell? a1 = some u1 ∧ w'.cell? a2 = some u2 ∧ w'.cell? a3 = some u3 ∧ w'.cell? a4 = some u4 :=
  ⟨(f.cell (World.block_lt_of_cell? w _ h.1)).trans h.1, (f.cell (World.block_lt_of_cell? w _ h.2.1)).trans h.2.1, (f.cell (World.block_lt_of_cell? w _ h.2.2.1)).trans h.2.2.1, (f.cell (World.block_lt_of_cell? w _ h.2.2.2)).trans h.2.2.2⟩
theorem box_ext' {w w' : World} {g : Nat} {o : Obj} (h : w.heap[g]? = some o) (f : Ext w w') : w'.heap[g]? = some o := (f.block g (heap_lt h)).trans h

set_option maxRecDepth 100000 in
set_option maxHeartbeats 1000000 in
theorem pair_yes (w : World) (g i : Nat) (sl : List (Slot Nat)) (p : Pr) (h : In ND w g sl) (hs : sl[i]? = some (.pr p)) : Calls Tryd.prog 67 #[ptr g, .int .i64 i] w fun e w' => e = .returned (.tuple #[.agg #[str p.1, str p.2], .bool true]) ∧ Ext w w' := by
  obtain ⟨d, b, o, n, pc, r, hd9, hi, hn9, hrn, hnc, HB, HK0⟩ := pair_facts h hs
  clear h hs
  obtain ⟨wa, rb, hwa, hrb, hba, hEa, hle⟩ := box_first w
  have HW := Lib.hid (And.intro hwa hrb)
  have HA := Lib.hid (And.intro hba (And.intro hEa hle))
  have HK := Lib.hid (keep4c hEa HK0.out)
  have HK1 := Lib.hid HK0.out
  have hri : (r : Int) < (n : Int) := by omega
  clear hwa hrb hba hEa hle HK0
  go_enter Tryd.func67, Tryd.ntmps67
  repeat' (first | go_at_call 60 | go_skip | go_guarded | go_step)
  rw [HW.out.1, ← HW.out.2]
  refine (data_c wa g d HK.out.1).mono ?_
  rintro e w1 ⟨rfl, rfl⟩
  go_simp
  repeat' (first | go_at_call 41 | go_skip | go_guarded | go_step)
  refine (has_c wa d i hd9 hi).mono ?_
  rintro e w1 ⟨rfl, rfl⟩
  rw [HB.out.1]
  obtain ⟨hc0, hc1, hfr⟩ := box_facts HA.out.1
  obtain ⟨q0, q1, q2, q3⟩ := HK.out
  go_simp
  repeat' (go_not_at_region 3; (first | go_skip | go_guarded | go_step))
  have hr0 : (0 : Int) ≤ (r : Int) := by omega
  go_region_held3 (fun w' => w'.cell? ⟨g, 0, none⟩ = some (.int .u32 d) ∧ w'.cell? ⟨g, 2, none⟩ = some (.slice (some ⟨b, o, none⟩) n pc) ∧ w'.cell? ⟨b, o + r * 2, none⟩ = some (str p.1) ∧ w'.cell? ⟨b, o + r * 2 + 1, none⟩ = some (str p.2))
    (first | exact keep4c (((HA.out.2.1.trans k1.out).setCell HA.out.2.2 _).setCell HA.out.2.2 _) HK1.out | exact keep4c k1.out HK.out | exact keep4c (below_drewN (Ext.refl _) 1) HK.out)
    ((go_at_call 42; refine (rank_c _ d i hd9 hi).mono ?_; rintro e x1 ⟨rfl, f1⟩; rw [HB.out.2]; have k1 : Hid (Ext wa x1) := Lib.hid (Ext.trans (below_drewN (Ext.refl _) 1) f1); have k2 := Lib.hid (box_ext' HA.out.1 k1.out); obtain ⟨hd0, hd1, hdf⟩ := box_facts k2.out; clear f1))
  repeat' (first | go_skip | go_guarded | go_step)
  (try simp only [Exit.inBlock, Exit.then])
  refine bodyPost_ret_by (results_ct rfl _ _ _ _ _ _ _ rfl (heap_set (heap_set k2.out 0 _) 1 _) Tryd.underlying45 rfl (by kernel_rfl)) rfl ?_
  exact ⟨rfl, ((HA.out.2.1.trans k1.out).setCell HA.out.2.2 _).setCell HA.out.2.2 _⟩
end Go.Proofs.YtclcgelbcbnekaaDoor
/- Pieces of a function's code. No program. -/
namespace Go.QS.Nk
open Go
def lead : Code → Option Nat
  | .region id _ _ => some id
  | .seq a _ => lead a
  | _ => none
def findS (n : Nat) : Code → Option Code
  | .region id ops d => if id = n then some (.region id ops d) else none
  | .seq a b => if lead a = some n then some (.seq a b) else match findS n a with | some c => some c | none => findS n b
  | .cond _ a b => match findS n a with | some c => some c | none => findS n b
  | .block _ b => findS n b
  | .loop b => findS n b
  | .scope b => findS n b
  | _ => none
def findT (n : Nat) : Code → Option Code
  | .seq a b => match a with
    | .region id _ _ => if id = n then some b else findT n b
    | _ => match findT n a with | some c => some c | none => findT n b
  | .cond _ a b => match findT n a with | some c => some c | none => findT n b
  | .block _ b => findT n b
  | .loop b => findT n b
  | .scope b => findT n b
  | _ => none
def findR (n : Nat) : Code → Option Code
  | .region id ops d => if id = n then some (.region id ops d) else none
  | .seq a b => match findR n a with | some c => some c | none => findR n b
  | .cond _ a b => match findR n a with | some c => some c | none => findR n b
  | .block _ b => findR n b
  | .loop b => findR n b
  | .scope b => findR n b
  | _ => none

end Go.QS.Nk
