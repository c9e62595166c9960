/- ShapeBends returns true for every hasher, every list of pairs, every two bytes and every pair, and leaves them as they were; its card, with math/bits.deBruijn32tab tied to the text. No condition beyond the row. -/
import Derived.Test.YtclcgelbcbnekaaDoorScu
import Derived.Test.YtclcgelbcbnekaaDoorCards
import Derived.Test.YtclcgelbcbnekaaDoorTie
import Derived.Test.YtclcgelbcbnekaaDoorM36
import Derived.Deep.DeepHandedRow
import Derived.Lib.LaidTab
set_option linter.unusedVariables false
set_option linter.unusedSimpArgs false
namespace Go.Proofs.YtclcgelbcbnekaaDoor.shapeBends
open Go.RowKit Go.QS Go.ChangeShapes Go.WideShapes Go.ChangeAt
open Go.ChangeMaps (open_string shut_string)
set_option linter.unusedVariables false

/-- The texts behind this one speak of a set of blocks; here all blocks will do. -/
instance anyBlock : Zero (Nat → Prop) := ⟨fun _ => True⟩
theorem own : ownKnob Tryd.prog.godebug = none := by kernel_rfl
theorem laidOut : laidOutB Tryd.prog = true := by kernel_rfl
theorem flatE_encU (l : List UInt8) : flatE encU l = encB l := by
  induction l with
  | nil => rfl
  | cons c l ih => unfold flatE at ih ⊢; rw [List.flatMap_cons, ih]; rfl
set_option maxRecDepth 100000 in
theorem open_bytes {H : Type} {enc : TypeId × Value → H} {W : World} {base : Nat} {spare : Nat → Bool} {held : Bool} {v : Value} {d : DataW H} {p : List MemPlace} {r : Reach} {b0 : Nat} (hv : Value.okWide Tryd.prog W r b0 34 v) (h : DataW.Trod enc Tryd.prog W base spare held 34 v d p) :
    ∃ l : List UInt8, BS W v l := by
  obtain ⟨l, hl, _⟩ := open_el encU encU_len (by decide) (fun _ => True) Tryd.underlying34 (by kernel_rfl) (fun n cs x _ hx => by obtain ⟨c, e⟩ := one_u8 Tryd.underlying5 hx; exact ⟨c, e, trivial⟩) hv h
  rw [flatE_encU] at hl
  exact ⟨l, hl⟩

theorem gTab : Tryd.prog.globalNamed "math/bits.deBruijn32tab" = some 0 := by kernel_rfl
theorem gTabType : (Tryd.prog.globals[0]?).map (·.type) = some 162 := by kernel_rfl
theorem cellsA : Tryd.prog.cellsOf 162 = 32 := by kernel_rfl
theorem cells1 : Tryd.prog.cellsOf 5 = 1 := by kernel_rfl
/-- What the row's list gives: the table's cells. -/
theorem table {W : World} (h : laidMetH Tryd.prog Rows.shapeBendsRow.laid W) : Lib.TabIs Tryd.prog W "math/bits.deBruijn32tab" .u8 [0, 1, 28, 2, 29, 14, 24, 3, 30, 22, 20, 15, 25, 17, 4, 8, 31, 27, 13, 23, 21, 19, 16, 7, 26, 12, 18, 6, 11, 5, 10, 9] :=
  Lib.tabIs_of_head (rest := []) gTab gTabType Tryd.underlying162 Tryd.underlying5 cells1 cellsA h
theorem tabI : ∀ j, j < 32 → ([0, 1, 28, 2, 29, 14, 24, 3, 30, 22, 20, 15, 25, 17, 4, 8, 31, 27, 13, 23, 21, 19, 16, 7, 26, 12, 18, 6, 11, 5, 10, 9] : List Int).getD j 0 = ((Lib.deBruijn32tab.getD j 0 : Nat) : Int) := by decide
theorem tab32 {W : World} (h : laidMetH Tryd.prog Rows.shapeBendsRow.laid W) : Tab32 W := fun j hj => by
  rw [(table h).cell gTab j hj, tabI j hj]
set_option maxRecDepth 100000 in
theorem open_u8 {H : Type} {enc : TypeId × Value → H} {W : World} {base : Nat} {spare : Nat → Bool} {held : Bool} {v : Value} {d : DataW H} {p : List MemPlace} {r : Reach} {b0 : Nat} (hv : Value.okWide Tryd.prog W r b0 5 v) (h : DataW.Trod enc Tryd.prog W base spare held 5 v d p) :
    ∃ c : UInt8, v = .int .u8 (c.toNat : Nat) := by
  obtain ⟨n, rfl, _, _, z⟩ := open_int Tryd.underlying5 hv h
  have x1 : 0 ≤ n ∧ n ≤ 255 := by simpa [Lit.wf, IntKind.min, IntKind.max, IntKind.signed, IntKind.bits] using z
  obtain ⟨y, rfl⟩ := Int.eq_ofNat_of_zero_le x1.1
  refine ⟨UInt8.ofNat y, ?_⟩
  have : ((UInt8.ofNat y).toNat : Int) = (y : Int) := by simp; omega
  rw [this]
set_option maxRecDepth 100000 in
theorem contract (H : Type) (enc : TypeId × Value → H) (W : World) (base : Nat) (args : Array Value) (ds gs : List (DataW H)) (before : List MemPlace)
    (hval : ∀ (j : Nat) t v, Tryd.f4.params[j]? = some t → args[j]? = some v → Value.okWide Tryd.prog W .any base t v)
    (hW : DataW.Whole enc Tryd.prog Tryd.f4.params.toList Rows.shapeBendsSpec.vars false W args.toList ds gs before) (hL : laidMetH Tryd.prog Rows.shapeBendsRow.laid W) :
    Calls Tryd.prog 4 args W fun e W' => ∃ v, e = .returned v ∧ Rows.shapeBendsSpec.post enc Tryd.prog Tryd.f4 false true false false W args v W' := by
  have hW' := hW
  obtain ⟨p, q, hA0, hV, rfl, hfz, hnd⟩ := hW
  have hA : DataW.TrodAll enc Tryd.prog W 0 (fun _ => true) true Tryd.f4.params.toList args.toList ds p := hA0
  rw [Tryd.params4] at hA hval
  obtain ⟨v0, vs0, d0, ds0, p0, q0, hargs, rfl, rfl, h0, r0⟩ := trodAll_cons hA
  obtain ⟨v1, vs1, d1, ds1, p1, q1, rfl, rfl, rfl, h1, r1⟩ := trodAll_cons r0
  obtain ⟨v2, vs2, d2, ds2, p2, q2, rfl, rfl, rfl, h2, r2⟩ := trodAll_cons r1
  obtain ⟨v3, vs3, d3, ds3, p3, q3, rfl, rfl, rfl, h3, r3⟩ := trodAll_cons r2
  obtain ⟨v4, vs4, d4, ds4, p4, q4, rfl, rfl, rfl, h4, r4⟩ := trodAll_cons r3
  obtain ⟨rfl, rfl, rfl⟩ := trodAll_nil r4
  obtain rfl : args = #[v0, v1, v2, v3, v4] := by cases args; simp_all
  obtain ⟨rfl, rfl⟩ := trodVars_none hV
  obtain ⟨a0, rfl, b0⟩ := open_hs (hval 0 _ v0 rfl rfl) h0
  obtain ⟨l1, k1, b1⟩ := open_ps Tryd.underlying43 Tryd.underlying45 (by kernel_rfl) (by kernel_rfl) Tryd.underlying9 Tryd.underlying9 (hval 1 _ v1 rfl rfl) h1
  obtain ⟨a2, rfl⟩ := open_u8 (hval 2 _ v2 rfl rfl) h2
  obtain ⟨a3, rfl, b3, c3⟩ := open_pr Tryd.underlying45 (by kernel_rfl) (by kernel_rfl) Tryd.underlying9 Tryd.underlying9 (hval 3 _ v3 rfl rfl) h3
  obtain ⟨a4, rfl⟩ := open_u8 (hval 4 _ v4 rfl rfl) h4
  clear hA0
  have hc : Calls Tryd.prog 4 #[hsV a0, v1, .int .u8 (a2.toNat : Nat), .agg #[str a3.1, str a3.2], .int .u8 (a4.toNat : Nat)] W fun e w' => e = .returned (.bool true) ∧ Ext W w' := by
    exact shapeBends_c W a0 b0 v1 l1 a2 a3 a4 k1 (tab32 hL)
  refine hc.mono fun e W' ⟨he, bel⟩ => ?_
  subst he
  exact ⟨_, rfl, law_post laidOut (by kernel_rfl) rfl Tryd.underlying4 hW' rfl rfl rfl rfl bel⟩

/-- A world for the witness: the settled one, the table (block 0) holding what its initialiser lays. -/
noncomputable def laidWorld (os : Os) : World :=
  { World.holding Tryd.prog os ⟨#[], #[], []⟩ with heap := (World.holding Tryd.prog os ⟨#[], #[], []⟩).heap.modify 0 fun
      | .cells _ t frozen => .cells #[.int .u8 0, .int .u8 1, .int .u8 28, .int .u8 2, .int .u8 29, .int .u8 14, .int .u8 24, .int .u8 3, .int .u8 30, .int .u8 22, .int .u8 20, .int .u8 15, .int .u8 25, .int .u8 17, .int .u8 4, .int .u8 8, .int .u8 31, .int .u8 27, .int .u8 13, .int .u8 23, .int .u8 21, .int .u8 19, .int .u8 16, .int .u8 7, .int .u8 26, .int .u8 12, .int .u8 18, .int .u8 6, .int .u8 11, .int .u8 5, .int .u8 10, .int .u8 9] t frozen
      | o => o }
theorem laid_met (os : Os) : laidMet Tryd.prog Rows.shapeBendsRow.laid ((laidWorld os).forCall (fun _ _ => 0) ⟨#[], #[.agg #[.int .u64 0, .int .u64 0, .int .u64 0], .slice none 0 0, .int .u8 0, .agg #[.string ⟨#[]⟩, .string ⟨#[]⟩], .int .u8 0], []⟩).memory :=
  laidMet_of_run' 40 (by kernel_rfl) (by kernel_rfl)
theorem reads (os : Os) {H : Type} (enc : TypeId × Value → H) : ∃ places, DataW.whole enc Tryd.prog ((laidWorld os).forCall (fun _ _ => 0) ⟨#[], #[.agg #[.int .u64 0, .int .u64 0, .int .u64 0], .slice none 0 0, .int .u8 0, .agg #[.string ⟨#[]⟩, .string ⟨#[]⟩], .int .u8 0], []⟩).memory Tryd.f4.params.toList Rows.shapeBendsSpec.vars false (#[.agg #[.int .u64 0, .int .u64 0, .int .u64 0], .slice none 0 0, .int .u8 0, .agg #[.string ⟨#[]⟩, .string ⟨#[]⟩], .int .u8 0] : Array Value).toList 8 = some ([.agg [.agg [.lit (.int .u64 0), .lit (.int .u64 0)], .lit (.int .u64 0)], .nil, .lit (.int .u8 0), .agg [.lit (.string []), .lit (.string [])], .lit (.int .u8 0)], [], places) :=
  ⟨[], by kernel_rfl⟩

set_option maxRecDepth 100000 in
theorem lifted (os : Os) (started : os.Started) (H : Type) (enc : TypeId × Value → H) (F : Stop.Interp) :
    ReturnsInHanded {} Tryd.checked os 4 .any ((OpenSpec.ofChange Rows.shapeBendsSpec).preRow enc Tryd.prog Tryd.f4 Rows.shapeBendsRow.domain false Rows.shapeBendsRow.laid) (((OpenSpec.ofChange Rows.shapeBendsSpec).at F).post enc Tryd.prog Tryd.f4 false true false false) := by
  obtain ⟨places, hx⟩ := reads os enc
  refine returnsInHanded_of_row (C := Tryd.checked) (s := OpenSpec.ofChange Rows.shapeBendsSpec) own started (by kernel_rfl) Tryd.func4
    (witness_row_at (enc := enc) (C := Tryd.checked) false (laidWorld os) #[.agg #[.int .u64 0, .int .u64 0, .int .u64 0], .slice none 0 0, .int .u8 0, .agg #[.string ⟨#[]⟩, .string ⟨#[]⟩], .int .u8 0] rfl (by kernel_rfl) (by kernel_rfl) (by kernel_rfl)
      (OpenSpec.preRow_of_cond 8 hx (by kernel_rfl) (fun k hk => by cases hk) (by kernel_rfl) (laid_met os))) ?_
  intro W base args ds gs before hval hW _ _ _ hL _ _
  exact contract H enc W base args ds gs before hval hW hL

theorem said : Rows.ShapeBendsSaid :=
  OpenClaim.holds_of_cond 4 Tryd.f4 rfl rfl rfl rfl rfl rfl rfl ⟨rfl, rfl, rfl, rfl, rfl⟩ rfl rfl rfl rfl rfl (by kernel_rfl) Tryd.func4 (by kernel_rfl)
    (of_decide_eq_true (by kernel_rfl)) (by unfold Func.isWrapper; first | (rw [if_pos (by decide +kernel)]; kernel_rfl) | (rw [if_neg (by decide +kernel)]; exact ⟨rfl, rfl⟩))
    (fun os started H enc _ F => by rw [OpenClaim.pre_eq_preRow]; exact lifted os started H enc F)

/-- No parameter wants a stand-in; the program's own looks are off. -/
theorem plain (f : FuncId) (fn : Func) (hf : Tryd.pinned.checked.prog.funcNamed "quickset/quicksetlaw07.ShapeBends" = some f) (hfn : Tryd.pinned.checked.prog.funcs[f]? = some fn) :
    false = Tryd.pinned.checked.prog.looks [] ∧ ∀ (j : Nat) t, fn.params[j]? = some t → Tryd.pinned.checked.prog.wantsStandIn t = false := by
  obtain rfl : f = 4 := Option.some.inj ((show Tryd.prog.funcNamed "quickset/quicksetlaw07.ShapeBends" = some 4 by kernel_rfl).symm.trans hf) |>.symm
  obtain rfl : fn = Tryd.f4 := (Option.some.inj (Tryd.func4.symm.trans hfn)).symm
  refine ⟨by kernel_rfl, fun j t ht => ?_⟩
  rw [Tryd.params4] at ht
  have hall : (Tryd.f4.params.toList.all fun t => !Tryd.prog.wantsStandIn t) = true := by kernel_rfl
  have hm : t ∈ Tryd.f4.params.toList := by rw [Tryd.params4]; exact Array.mem_toList_iff.2 (Array.mem_of_getElem? ht)
  have := List.all_eq_true.1 hall t hm
  exact (show Tryd.prog.wantsStandIn t = false by simpa using this)

theorem proved : Rows.ShapeBendsCardSaid :=
  Claim7.holds_tied_plain_at .later [] _ _ _ _ said (fun _ h => by cases h) (by kernel_rfl) (fun _ h => by cases h) shapeBends_row_tie rfl ⟨rfl, rfl⟩ (by kernel_rfl) rfl plain (by kernel_rfl)
end Go.Proofs.YtclcgelbcbnekaaDoor.shapeBends
