/- Texts joined. -/
import Derived.Test.YtclcgelbcbnekaaDoorSxa
import Derived.Test.YtclcgelbcbnekaaDoorM06
import Derived.RangeFuncNested
import Derived.RangeFuncCalls
import Derived.Sort.LoopGhostIn
import Derived.Laws.EntriesVeiled
import Derived.Test.YtclcgelbcbnekaaDoorM07
import Derived.Test.YtclcgelbcbnekaaDoorM11
import Derived.Shelf.Spec.TrailingZeros
import Derived.Sort.Row
set_option linter.unusedVariables false
set_option linter.unusedSimpArgs false
/- Contracts: chunk.Bits.All of no bits; shape.canon, Canon at a node that holds nothing; law 7's awake. -/
namespace Go.QS
open Go Go.RowKit
variable [Zero (Nat → Prop)]
set_option linter.unusedSectionVars false
theorem ext_cellS {w w' : World} {a : Addr} {u : Value} (f : Ext w w') (h : w.cell? a = some u) : w'.cell? a = some u := (f.cell (World.block_lt_of_cell? w _ h)).trans h
theorem wp_nameS {P : Program} {c : Code} {Q : Exit → Act → World → Prop} {a : Act} {W : World} (R : World → Prop) (hR : R W) (h : ∀ w', Hid (R w') → c.wp P Q a w') : c.wp P Q a W := h W (Lib.hid hR)
theorem postM_ret2 {P : Program} {fn : Func} {R : Ending → World → Prop} {a : Act} {w : World} {v : Value} {D E : Nat} (h : (results fn a.tmps).run P ((w.putObj E (.deferred none)).putObj D (.deferred none)) = .ok v ((w.putObj E (.deferred none)).putObj D (.deferred none)))
    (hd : a.defers = [{ target := .collected E, args := #[] }, { target := .collected D, args := #[] }]) (hE : w.heap[E]? = some (.deferred (some []))) (hD : (w.putObj E (.deferred none)).heap[D]? = some (.deferred (some [])))
    (hr : R (.returned v) ((w.putObj E (.deferred none)).putObj D (.deferred none))) : postM P fn R .ret a w := by
  show LeavesInM _ _ _ _ _ _ a.defers _ _
  rw [hd]
  exact ⟨by simp, .inl ⟨_, _, rfl, run_takeDeferred hE, ⟨by simp, .inl ⟨_, _, rfl, run_takeDeferred hD, ⟨v, h, hr⟩⟩⟩⟩⟩
theorem results_box2 {P : Program} {fn : Func} {p q : Tmp} {ty tz : TypeId} (h : fn.results = #[.cell p ty, .cell q tz]) (tmps : Array Value) (w : World) (g k : Nat) (v u : Value) (T U : TypeId) (f f' : Nat × Nat) (d d' : TypeDesc)
    (hp : tmps.getD p undef = .pointer (some ⟨g, 0, none⟩)) (hg : w.heap[g]? = some (.cells #[v] T f)) (hu : P.underlying ty = some d) (hd : (match d with | .struct _ | .array _ _ => true | _ => false) = false)
    (hq : tmps.getD q undef = .pointer (some ⟨k, 0, none⟩)) (hk : w.heap[k]? = some (.cells #[u] U f')) (hu' : P.underlying tz = some d') (hd' : (match d' with | .struct _ | .array _ _ => true | _ => false) = false) :
    (results fn tmps).run P w = .ok (.tuple #[v, u]) w := by
  have hp' : tmps[p]?.getD undef = .pointer (some ⟨g, 0, none⟩) := by simpa using hp
  have hq' : tmps[q]?.getD undef = .pointer (some ⟨k, 0, none⟩) := by simpa using hq
  have hagg : (isAgg ty).run P w = .ok false w := by
    unfold isAgg
    rw [Sem.run_bind, run_underlying hu w]
    cases d <;> simp_all
  have hagg' : (isAgg tz).run P w = .ok false w := by
    unfold isAgg
    rw [Sem.run_bind, run_underlying hu' w]
    cases d' <;> simp_all
  have hc : w.cell? ⟨g, 0, none⟩ = some v := by rw [cellG hg]; rfl
  have hc' : w.cell? ⟨k, 0, none⟩ = some u := by rw [cellG hk]; rfl
  simp [results, h, hp', hq', asAddr, loadVar, hagg, hagg', hc, hc', go_sem]
end Go.QS
namespace Go.Proofs.YtclcgelbcbnekaaDoor
open Go Go.RowKit Go.QS Go.QS.Nk
set_option linter.unusedVariables false
variable [Zero (Nat → Prop)]
set_option linter.unusedSectionVars false
attribute [local go_sem] Oper.semAt_some

set_option maxRecDepth 100000 in
theorem ball_c (w : World) (b : Nat) : Calls Tryd.prog 66 #[.int .u32 (b : Int)] w fun e w' => ∃ k0, e = .returned (.func (.func 90) #[] #[ptr k0]) ∧ w'.cell? ⟨k0, 0, none⟩ = some (.int .u32 (b : Int)) ∧ Ext w w' := by
  go_enter Tryd.func66, Tryd.ntmps66
  repeat' (first | go_skip | go_guarded | go_step)
  go_ret
  exact ⟨w.heap.size, rfl, by rw [World.cell?_alloc_at _ _ _ _ rfl]; rfl, (Ext.refl w).alloc (Nat.le_refl _) _⟩
set_option maxRecDepth 100000 in
theorem ball0_c (w : World) (y : Value) (k0 : Nat) (hk : w.cell? ⟨k0, 0, none⟩ = some (.int .u32 0)) : Calls Tryd.prog 90 #[y, ptr k0] w fun e w' => (∃ v, e = .returned v) ∧ w' = w := by
  go_enter Tryd.func90, Tryd.ntmps90
  repeat' (go_not_at_region 0; (first | go_skip | go_guarded | go_step))
  go_loopg [] 1 (fun gk wr => wr = w)
  case atStart => exact rfl
  case round =>
    subst hrel
    repeat' (first | go_skip | go_guarded | go_step)
    first | refine bodyPost_ret (results_none rfl _ _ _) rfl ?_ | refine bodyPost_end (results_none rfl _ _ _) rfl ?_
    exact ⟨⟨_, rfl⟩, rfl⟩
theorem ball_enters : ∀ args w, (callFunc 90 args).run Tryd.prog w = .ok (.enter 90 args) w := enters_of Tryd.func90 (by kernel_rfl) rfl
abbrev encI (i : Int) : Array Value := #[.int .i64 i]
theorem ball0_seq (n : Nat) (k0 : Nat) (St Kp : World → World → Prop) :
    SeqR Fence.wide n Tryd.prog 90 #[ptr k0] encI St Kp (fun xs => xs = []) (fun _ => False) 0 (fun W => W.cell? ⟨k0, 0, none⟩ = some (.int .u32 0)) := by
  intro l J Jx W hW hJ _ _ h0
  refine callsIn_wide.2 ((ball0_c W _ k0 hW).mono ?_)
  rintro e w' ⟨h1, rfl⟩
  exact ⟨h1, .inl ⟨[], rfl, h0⟩⟩

/-- canon's boxes. -/
structure BxN (gh g : Nat) (w : World) : Prop where
  b1 : w.heap[gh + 1]? = some (.cells #[ptr g] 29 (0, 0))
  b2 : w.heap[gh + 2]? = some (.cells #[.slice none 0 0] 124 (0, 0))
  b3 : w.heap[gh + 3]? = some (.cells #[.int .i64 0] 3 (0, 0))
  b4 : w.heap[gh + 4]? = some (.cells #[.bool false] 4 (0, 0))
theorem BxN.ext {gh g : Nat} {w w' : World} (H : BxN gh g w) (f : Ext w w') : BxN gh g w' := ⟨box_extG H.b1 f, box_extG H.b2 f, box_extG H.b3 f, box_extG H.b4 f⟩
theorem BxN.own {gh g : Nat} {w w' : World} {row : Option Nat} (h : BxN gh g w) (hg : w.grownBy w' row) (hr : ∀ r, row = some r → ∃ o : Obj, w.heap[r]? = some o ∧ o.isCells = false) : BxN gh g w' :=
  ⟨heap_own h.b1 hg hr, heap_own h.b2 hg hr, heap_own h.b3 hg hr, heap_own h.b4 hg hr⟩
end Go.Proofs.YtclcgelbcbnekaaDoor
/- Contract: chunk.Bits.All's iterator: it tells the bits, rising, and turns its own cell alone. -/
namespace Go.Proofs.YtclcgelbcbnekaaDoor
open Go Go.RowKit Go.QS Go.QS.Nk
set_option linter.unusedVariables false
variable [Zero (Nat → Prop)]
set_option linter.unusedSectionVars false
attribute [local go_sem] Oper.semAt_some

/-- math/bits' table, as it is laid. -/
def Tab32 (w : World) : Prop := ∀ j, j < 32 → w.cell? ⟨0, j, none⟩ = some (.int .u8 (Lib.deBruijn32tab.getD j 0 : Nat))
theorem Tab32.ext {w w' : World} (h : Tab32 w) (f : Ext w w') : Tab32 w' := fun j hj => ext_cellS f (h j hj)
theorem Tab32.pos {w : World} (h : Tab32 w) : 0 < w.heap.size := World.block_lt_of_cell? w _ (h 0 (by decide))
theorem Tab32.keep {w w' : World} (h : Tab32 w) (f : ∀ o, w.heap[0]? = some o → w'.heap[0]? = some o) : Tab32 w' := fun j hj => by
  have h0 := h j hj
  obtain ⟨A, T, g, h1, h2⟩ := Sort.cells_of_cell? h0
  have := f _ h1
  simp [World.cell?, this, h2]
set_option maxRecDepth 100000 in
set_option maxHeartbeats 1000000 in
theorem tz32_core (x k idx : Nat) (w : World) (hx0 : ((x : Int) == 0) = false)
    (key : bits BinOp.and IntKind.u32 (x : Int) (-(x : Int) % 4294967296) * 125613361 % 4294967296 / 134217728 = (idx : Int))
    (hi : idx < 32) (hk : k < 32) (hcell : w.cell? ⟨0, idx, none⟩ = some (.int .u8 (k : Int))) :
    Calls Tryd.prog 91 #[.int .u32 (x : Int)] w fun e w' => e = .returned (.int .i64 (k : Int)) ∧ w' = w := by
  go_enter Tryd.func91, Tryd.ntmps91
  go_wp2_with (simp only [key])
  go_ret
  exact ⟨rfl, rfl⟩
theorem tz32_c (w : World) (x : Nat) (hx : x < 4294967296) (h0 : x ≠ 0) (hT : Tab32 w) : Calls Tryd.prog 91 #[.int .u32 (x : Int)] w fun e w' => e = .returned (.int .i64 (Lib.ctz 32 x : Nat)) ∧ w' = w := by
  obtain ⟨hlow, hk⟩ := Lib.lowest_bit 32 x h0 hx
  obtain ⟨hi, htab⟩ := Lib.deBruijn32_at _ hk
  have hcell := hT _ hi
  rw [htab] at hcell
  exact tz32_core x _ _ w (by simp; omega) (tz32_key x _ hx h0 hlow) hi hk hcell
abbrev TBits : TypeId := 92
def tauB (T : TypeId) : Prop := T = TBits
abbrev encNt (c : Nat) : Array Value := #[.int .i64 (c : Int)]
/-- The iterator's own cell; the table. -/
structure BitsAt (B k0 b : Nat) (w : World) : Prop where
  cell : w.heap[k0]? = some (.cells #[.int .u32 (b : Int)] TBits (0, 0))
  tab : Tab32 w
  pos : 0 < B
  le : B ≤ k0
section
variable {B k0 b : Nat} {w w' : World}
theorem BitsAt.kp (h : BitsAt B k0 b w) (k : KpT B tauB w w') : BitsAt B k0 b w' := ⟨kpT_heap k h.cell rfl, h.tab.keep (fun o ho => k.blk 0 o ho (.inl h.pos)), h.pos, h.le⟩
theorem BitsAt.ext (h : BitsAt B k0 b w) (f : Ext w w') : BitsAt B k0 b w' := ⟨box_extG h.cell f, h.tab.ext f, h.pos, h.le⟩
theorem BitsAt.set (h : BitsAt B k0 b w) (b' : Nat) : BitsAt B k0 b' (w.setCell ⟨k0, 0, none⟩ (.int .u32 (b' : Int))) ∧ StT B tauB w (w.setCell ⟨k0, 0, none⟩ (.int .u32 (b' : Int))) :=
  ⟨⟨heap_set h.cell 0 _, h.tab.keep (fun o ho => (Below.heap_setCell w ⟨k0, 0, none⟩ _ 0 (fun e => by have := h.pos; have := h.le; have e' : 0 = k0 := e; omega)).trans ho), h.pos, h.le⟩,
   stT_of rfl rfl rfl (by simp [World.setCell]) fun k hk => by
    by_cases e : k = k0
    · subst e; exact .inl ⟨h.le, _, h.cell, _, _, _, rfl, rfl⟩
    · exact .inr (Below.heap_setCell w ⟨k0, 0, none⟩ _ k e)⟩
end
theorem and_pred {b : Nat} (h0 : b ≠ 0) (hb : b < 4294967296) : bits .and .u32 (b : Int) ((b : Int) - 1) = ((b &&& (b - 1) : Nat) : Int) := by
  have e : (b : Int) - 1 = ((b - 1 : Nat) : Int) := by omega
  rw [e, bits_and_u32_nat b (b - 1) hb (by omega)]

set_option maxRecDepth 100000 in
set_option maxHeartbeats 2000000 in
theorem bits_in (n : Nat) (hn : 1 ≤ n) (B k0 b : Nat) (hb : b < 4294967296) (l : Nat) (J Jx : List Nat → World → Prop) (W : World) (hW : BitsAt B k0 b W) (hJ : ∀ s A C, J s A → StT B tauB A C → J s C)
    (hY : ∀ pre (x : Nat) W1, J pre W1 → pre.length < 33 → pre ++ [x] <+: bitsI b → YieldAt Fence.wide (n - 1) Tryd.prog l (encNt x) W1 fun e W' =>
      (e = .returned (.bool true) ∧ J (pre ++ [x]) W' ∧ KpT B tauB W1 W') ∨ (e = .returned (.bool false) ∧ Jx (pre ++ [x]) W'))
    (h0 : J [] W) :
    CallsIn Fence.wide n Tryd.prog 90 #[.func (.yield l) #[] #[], ptr k0] W fun e W' => (∃ v, e = .returned v) ∧ ((∃ xs, xs = bitsI b ∧ J xs W') ∨ (∃ pre, pre <+: bitsI b ∧ Jx pre W')) := by
  have H0 := Lib.hid (And.intro hW h0)
  clear hW h0
  refine callsIn_of_wp Tryd.func90 rfl trivial ?_ rfl
  simp only [Tryd.ntmps90, List.size_toArray, List.length_cons, List.length_nil, Nat.reduceAdd, Nat.reduceSub, Array.replicate_succ, Array.replicate_zero, List.push_toArray, List.append_toArray, List.nil_append, List.cons_append]
  repeat' (first | gi_guarded | gi_step)
  gi_loopg [] 33 (fun gk wr => ∃ (b1 : Nat) (pre : List Nat), (bitsI b1).length ≤ gk ∧ b1 < 4294967296 ∧ Hid (bitsI b = pre ++ bitsI b1 ∧ BitsAt B k0 b1 wr ∧ J pre wr))
  case atStart => exact ⟨b, [], by have := bitsI_len b; omega, hb, Lib.hid ⟨rfl, H0.out.1, H0.out.2⟩⟩
  case round =>
    obtain ⟨b1, pre, hgk, hb1, HI⟩ := hrel
    have c0 : wr.cell? ⟨k0, 0, none⟩ = some (.int .u32 (b1 : Int)) := by rw [cellG HI.out.2.1.cell]; rfl
    by_cases hz : b1 = 0
    · subst hz
      have HE : Hid (J (bitsI b) wr) := Lib.hid (by rw [HI.out.1, bitsI_zero, List.append_nil]; exact HI.out.2.2)
      have d0 : (((0 : Nat) : Int) != 0) = false := by decide
      repeat' (first | gi_guarded | gi_step)
      (try simp only [Exit.inBlock, Exit.then])
      refine ⟨rfl, _, results_none rfl _ _ _, ⟨_, rfl⟩, .inl ⟨_, rfl, HE.out⟩⟩
    · have hcons := bitsI_cons hz hb1
      have hpre : bitsI b = (pre ++ [Lib.ctz 32 b1]) ++ bitsI (b1 &&& (b1 - 1)) := by rw [HI.out.1, hcons]; simp
      have hlen : (bitsI b1).length = (bitsI (b1 &&& (b1 - 1))).length + 1 := by rw [hcons]; rfl
      have hpl : pre.length < 33 := by
        have h1 := bitsI_len b
        rw [hpre, List.length_append, List.length_append, List.length_singleton] at h1
        omega
      have hand := and_pred hz hb1
      have hlt := and_pred_lt hb1
      obtain ⟨b2, hb2⟩ : ∃ b2, b2 = b1 &&& (b1 - 1) := ⟨_, rfl⟩
      rw [← hb2] at hand hlt hpre hlen
      obtain ⟨c, hc⟩ : ∃ c, c = Lib.ctz 32 b1 := ⟨_, rfl⟩
      have hz' : ((b1 : Int) != 0) = true := by simp; omega
      have HT := Lib.hid (tz32_c wr b1 hb1 hz HI.out.2.1.tab)
      rw [← hc] at HT hpre
      clear hcons hb2 hc
      have hsub : IntKind.u32.wrap ((b1 : Int) - 1) = (b1 : Int) - 1 := by rw [IntKind.wrap_u32]; omega
      obtain ⟨fn, tmps, assign, body, hy, hR⟩ := hY pre c wr HI.out.2.2 hpl ⟨_, hpre.symm⟩
      have HP := Lib.hid hpre
      have HR2 := Lib.hid hR
      clear hpre hR
      repeat' (first | (refine ⟨trivial, ?_⟩; gi_at_call 91; refine (callsIn_wide.2 HT.out).mono ?_; rintro e wz ⟨rfl, rfl⟩; go_simp) | gi_guarded | gi_step)
      refine HR2.out.mono ?_
      rintro e W3 (⟨rfl, hJ3, hk3⟩ | ⟨rfl, hJx3⟩)
      · have hB3 := HI.out.2.1.kp hk3
        obtain ⟨hB4, hS4⟩ := hB3.set b2
        have H4 := Lib.hid (And.intro hB4 (hJ _ _ _ hJ3 hS4))
        have c3 : W3.cell? ⟨k0, 0, none⟩ = some (.int .u32 (b1 : Int)) := by rw [cellG hB3.cell]; rfl
        have f3 := freeG hB3.cell 0
        have l3 := heap_lt hB3.cell
        clear hB3 hB4 hS4 hJ3 hk3 hy c0
        go_simp
        repeat' (first | gi_guarded | gi_step)
        gi_roundg ((bitsI b2).length)
        case measure => omega
        case rel => exact ⟨b2, pre ++ [c], Nat.le_refl _, hlt, Lib.hid ⟨HP.out, H4.out.1, H4.out.2⟩⟩
      · have H3 := Lib.hid hJx3
        clear hJx3 hy
        go_simp
        repeat' (first | gi_guarded | gi_step)
        (try simp only [Exit.inBlock, Exit.then])
        refine ⟨rfl, _, results_none rfl _ _ _, ⟨_, rfl⟩, .inr ⟨_, ⟨_, HP.out.symm⟩, H3.out⟩⟩
theorem bits_seq (n : Nat) (hn : 1 ≤ n) (B k0 b : Nat) (hb : b < 4294967296) :
    SeqR Fence.wide n Tryd.prog 90 #[ptr k0] encNt (StT B tauB) (KpT B tauB) (fun xs => xs = bitsI b) (fun pre => pre <+: bitsI b) 33 (fun W => BitsAt B k0 b W) :=
  fun l J Jx W hW hJ _ hY h0 => bits_in n hn B k0 b hb l J Jx W hW hJ (fun pre x W1 h1 h2 _ => hY pre x W1 h1 h2) h0
/-- The same, where each number that it tells is known to be one of the bits. -/
theorem bits_seqQ (n : Nat) (hn : 1 ≤ n) (B k0 b : Nat) (hb : b < 4294967296) :
    SeqR Fence.wide n Tryd.prog 90 #[ptr k0] (fun x : { c : Nat // c ∈ bitsI b } => encNt x.1) (StT B tauB) (KpT B tauB) (fun xs => xs.map Subtype.val = bitsI b) (fun pre => pre.map Subtype.val <+: bitsI b) 33 (fun W => BitsAt B k0 b W) := by
  intro l J Jx W hW hJ _ hY h0
  refine (bits_in n hn B k0 b hb l (fun xs W => ∃ ys : List { c : Nat // c ∈ bitsI b }, ys.map Subtype.val = xs ∧ J ys W) (fun xs W => ∃ ys : List { c : Nat // c ∈ bitsI b }, ys.map Subtype.val = xs ∧ Jx ys W) W hW ?_ ?_ ⟨[], rfl, h0⟩).mono ?_
  · rintro s A C ⟨ys, e, h⟩ hst
    exact ⟨ys, e, hJ _ _ _ h hst⟩
  · rintro pre x W1 ⟨ys, rfl, h⟩ hlen ⟨r, hr⟩
    have hx : x ∈ bitsI b := by rw [← hr]; simp
    obtain ⟨fn, tmps, assign, body, hy, hR⟩ := hY ys ⟨x, hx⟩ W1 h (by simpa using hlen)
    refine ⟨fn, tmps, assign, body, hy, hR.mono ?_⟩
    rintro e W' (⟨h1, h2, h3⟩ | ⟨h1, h2⟩)
    · exact .inl ⟨h1, ⟨_, by simp, h2⟩, h3⟩
    · exact .inr ⟨h1, _, by simp, h2⟩
  · rintro e W' ⟨h1, (⟨xs, rfl, ys, h2, h3⟩ | ⟨pre, h2, ys, rfl, h3⟩)⟩
    · exact ⟨h1, .inl ⟨ys, h2, h3⟩⟩
    · exact ⟨h1, .inr ⟨ys, h2, h3⟩⟩
theorem ballB_c (B : Nat) (w : World) (b : Nat) (hT : Tab32 w) (hB0 : 0 < B) (hB : B ≤ w.heap.size) : Calls Tryd.prog 66 #[.int .u32 (b : Int)] w fun e w' => ∃ k0, e = .returned (.func (.func 90) #[] #[ptr k0]) ∧ BitsAt B k0 b w' ∧ Ext w w' := by
  go_enter Tryd.func66, Tryd.ntmps66
  repeat' (first | go_skip | go_guarded | go_step)
  go_ret
  have f := (Ext.refl w).alloc (Nat.le_refl _) (.cells #[.int .u32 (b : Int)] TBits)
  exact ⟨w.heap.size, rfl, ⟨heap_newG w _, hT.ext f, hB0, hB⟩, f⟩
end Go.Proofs.YtclcgelbcbnekaaDoor
