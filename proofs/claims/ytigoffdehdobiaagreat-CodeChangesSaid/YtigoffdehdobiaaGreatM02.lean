/- Texts joined. -/
import Derived.Test.YtigoffdehdobiaaGreatGa
import Derived.OwnWalkIn
import Derived.RangeFuncLeaves
import Derived.Test.YtigoffdehdobiaaGreatM01
import Derived.Test.YtigoffdehdobiaaGreatRows
import Derived.Deep.LoopGhost
import Derived.Deep.DeepCutAuto
import Derived.Deep.Cut
set_option linter.unusedVariables false
set_option linter.unusedSimpArgs false
/- What stays beside an iterator that keeps its state in cells: by the types of the blocks. No program. -/
namespace Go.QS
open Go Go.RowKit

/-- All objects that q tells stay. -/
structure KeepQ (q : Nat → Obj → Prop) (w w' : World) : Prop where
  os : w'.os = w.os
  tape : w'.tape = w.tape
  output : w'.output = w.output
  size : w.heap.size ≤ w'.heap.size
  blk : ∀ k o, w.heap[k]? = some o → q k o → w'.heap[k]? = some o

def inT (τ : TypeId → Prop) (o : Obj) : Prop := ∃ A T f, o = .cells A T f ∧ τ T
/-- What an iterator's own steps keep: all but its own blocks, that lie at or beyond B, of types τ. -/
abbrev StT (B : Nat) (τ : TypeId → Prop) : World → World → Prop := KeepQ fun k o => k < B ∨ ¬ inT τ o
/-- What a round keeps: what lay ahead of B, and the iterator's own blocks. -/
abbrev KpT (B : Nat) (τ : TypeId → Prop) : World → World → Prop := KeepQ fun k o => k < B ∨ inT τ o

section
variable {q : Nat → Obj → Prop} {w w' a b c : World} {B : Nat} {τ : TypeId → Prop}
theorem KeepQ.of_ext (h : Ext w w') : KeepQ q w w' := ⟨h.os, h.tape, h.output, h.size, fun k _ hk _ => (h.block k (heap_lt hk)).trans hk⟩
theorem KeepQ.refl (w : World) : KeepQ q w w := .of_ext (Ext.refl w)
theorem KeepQ.trans (h : KeepQ q a b) (k : KeepQ q b c) : KeepQ q a c :=
  ⟨k.os.trans h.os, k.tape.trans h.tape, k.output.trans h.output, Nat.le_trans h.size k.size, fun i o hi hq => k.blk i o (h.blk i o hi hq) hq⟩
theorem KeepQ.mono {q' : Nat → Obj → Prop} (h : KeepQ q w w') (hq : ∀ k o, q' k o → q k o) : KeepQ q' w w' := ⟨h.os, h.tape, h.output, h.size, fun k o hk h' => h.blk k o hk (hq k o h')⟩
/-- What lay ahead of B lies as it lay. -/
theorem KeepQ.ext (h : KeepQ q w w') (hq : ∀ k o, k < B → q k o) {W : World} (he : Ext W w) (hB : W.heap.size ≤ B) : Ext W w' :=
  ⟨h.os.trans he.os, h.tape.trans he.tape, h.output.trans he.output, Nat.le_trans he.size h.size, fun k hk => by
    obtain ⟨o, ho⟩ : ∃ o, w.heap[k]? = some o := ⟨_, Array.getElem?_eq_getElem (Nat.lt_of_lt_of_le hk he.size)⟩
    exact (h.blk k o ho (hq k o (by omega))).trans (ho.symm.trans (he.block k hk))⟩
theorem stT_ext (h : StT B τ w w') {W : World} (he : Ext W w) (hB : W.heap.size ≤ B) : Ext W w' := h.ext (fun _ _ hk => .inl hk) he hB
theorem kpT_ext (h : KpT B τ w w') {W : World} (he : Ext W w) (hB : W.heap.size ≤ B) : Ext W w' := h.ext (fun _ _ hk => .inl hk) he hB
/-- A block of another type stays beside an iterator. -/
theorem stT_heap (h : StT B τ w w') {g : Nat} {A : Array Value} {T : TypeId} {f : Nat × Nat} (hg : w.heap[g]? = some (.cells A T f)) (hT : ¬ τ T) : w'.heap[g]? = some (.cells A T f) :=
  h.blk g _ hg (.inr (by rintro ⟨A', T', f', e, h'⟩; cases e; exact hT h'))
theorem stT_other (h : StT B τ w w') {g : Nat} {o : Obj} (hg : w.heap[g]? = some o) (ho : o.isCells = false) : w'.heap[g]? = some o :=
  h.blk g _ hg (.inr (by rintro ⟨A', T', f', e, h'⟩; subst e; cases ho))
theorem kpT_heap (h : KpT B τ w w') {g : Nat} {A : Array Value} {T : TypeId} {f : Nat × Nat} (hg : w.heap[g]? = some (.cells A T f)) (hT : τ T) : w'.heap[g]? = some (.cells A T f) :=
  h.blk g _ hg (.inr ⟨A, T, f, rfl, hT⟩)
/-- An iterator's step: blocks of its own types alone turn. -/
theorem stT_of (h1 : w'.os = w.os) (h2 : w'.tape = w.tape) (h3 : w'.output = w.output) (h4 : w.heap.size ≤ w'.heap.size)
    (h : ∀ k, k < w.heap.size → (B ≤ k ∧ ∃ o, w.heap[k]? = some o ∧ inT τ o) ∨ w'.heap[k]? = w.heap[k]?) : StT B τ w w' :=
  ⟨h1, h2, h3, h4, fun k o hk hq => by
    rcases h k (heap_lt hk) with ⟨hB, o', ho, hi⟩ | e
    · rw [hk] at ho; cases ho
      rcases hq with hq | hq
      · omega
      · exact absurd hi hq
    · exact e.trans hk⟩
theorem kpT_set (W : World) {g : Nat} (j : Nat) (v : Value) (hB : B ≤ g) (hg : ∀ o, W.heap[g]? = some o → ¬ inT τ o) : KpT B τ W (W.setCell ⟨g, j, none⟩ v) :=
  ⟨rfl, rfl, rfl, by simp [World.setCell], fun k o hk hq => by
    by_cases e : k = g
    · subst e
      rcases hq with hq | hq
      · omega
      · exact absurd hq (hg o hk)
    · exact (Below.heap_setCell W _ v k e).trans hk⟩
theorem not_inT {A : Array Value} {T : TypeId} {f : Nat × Nat} (hT : ¬ τ T) : ¬ inT τ (.cells A T f) := by rintro ⟨A', T', f', e, h'⟩; cases e; exact hT h'
theorem kpT_box (W : World) {g : Nat} {A : Array Value} {T : TypeId} {f : Nat × Nat} (hg : W.heap[g]? = some (.cells A T f)) (j : Nat) (v : Value) (hB : B ≤ g) (hT : ¬ τ T) : KpT B τ W (W.setCell ⟨g, j, none⟩ v) :=
  kpT_set W j v hB (fun o ho => by rw [hg] at ho; cases ho; exact not_inT hT)
theorem kpT_grown {row : Option Nat} (h : w.grownBy w' row) (hr : ∀ k, row = some k → B ≤ k ∧ ∀ o, w.heap[k]? = some o → ¬ inT τ o) : KpT B τ w w' :=
  ⟨h.os, h.tape, h.output, h.size, fun k o hk hq => by
    by_cases e : some k = row
    · obtain ⟨h1, h2⟩ := hr k e.symm
      rcases hq with hq | hq
      · omega
      · exact absurd hq (h2 o hk)
    · exact (h.block k (heap_lt hk) e).trans hk⟩
theorem kpT_t {A B' C : World} (h : KpT B τ A B') (k : KpT B τ B' C) : KpT B τ A C := h.trans k
theorem kpT_b {W0 : World} (hB : B ≤ W0.heap.size) (W : World) (l : Nat) (o o' : Obj) (hl : W0.heap.size ≤ l) (h : W.heap[l]? = some o) (hc : o.isCells = false) (_ : o.isWalk = false) : KpT B τ W (W.putObj l o') :=
  kpT_grown (grownBy_putObj' W l o') (fun k e => by cases e; exact ⟨by omega, fun o1 ho => by rw [h] at ho; cases ho; rintro ⟨A, T, f, e, _⟩; subst e; cases hc⟩)

/-- A row of one's own stays where its block does. -/
theorem row_of_heap {base n : Nat} {e : TypeId} {k : Nat} {v : Value} {xs : List Value} (h : w.ownsRow base e k v n xs) (hk : ∀ g A f, v.ownBlock = some g → w.heap[g]? = some (.cells A e f) → w'.heap[g]? = some (.cells A e f)) : w'.ownsRow base e k v n xs := by
  refine ⟨h.1, ?_⟩
  rcases h.2 with h1 | ⟨g, cap, cur, rfl, h2, h3, h4⟩
  · exact .inl h1
  · exact .inr ⟨g, cap, cur, rfl, h2, hk g _ _ rfl h3, h4⟩
theorem row_stT {base n : Nat} {e : TypeId} {k : Nat} {v : Value} {xs : List Value} (h : w.ownsRow base e k v n xs) (hs : StT B τ w w') (he : ¬ τ e) : w'.ownsRow base e k v n xs :=
  row_of_heap h fun _ _ _ _ hg => stT_heap hs hg he
theorem row_kpT {base n : Nat} {e : TypeId} {k : Nat} {v : Value} {xs : List Value} (h : w.ownsRow base e k v n xs) (hs : KpT B τ w w') (he : τ e) : w'.ownsRow base e k v n xs :=
  row_of_heap h fun _ _ _ _ hg => kpT_heap hs hg he
theorem row_is {base n : Nat} {e : TypeId} {k : Nat} {v : Value} {xs : List Value} (h : w.ownsRow base e k v n xs) {g : Nat} (hg : v.ownBlock = some g) : base ≤ g ∧ ∃ A f, w.heap[g]? = some (.cells A e f) := by
  rcases h.2 with ⟨rfl, _⟩ | ⟨g', cap, cur, rfl, h2, h3, h4⟩
  · cases hg
  · cases hg; exact ⟨h2, _, _, h3⟩

theorem heap_newG (w : World) (o : Obj) : (w.alloc o).heap[w.heap.size]? = some o := by
  have := World.alloc_heap_new w o
  exact this
theorem cellG {g : Nat} {cs : Array Value} {T : TypeId} {f : Nat × Nat} (h : w.heap[g]? = some (.cells cs T f)) (j : Nat) : w.cell? ⟨g, j, none⟩ = cs[j]? := by simp [World.cell?, h]
theorem freeG {g : Nat} {cs : Array Value} {T : TypeId} (h : w.heap[g]? = some (.cells cs T (0, 0))) (j : Nat) : w.frozen? ⟨g, j, none⟩ = false := by simp [World.frozen?, h]
theorem box_extG {g : Nat} {o : Obj} (h : w.heap[g]? = some o) (f : Ext w w') : w'.heap[g]? = some o := (f.block g (heap_lt h)).trans h
theorem row_extG {base n : Nat} {e : TypeId} {k : Nat} {v : Value} {xs : List Value} (h : w.ownsRow base e k v n xs) (f : Ext w w') : w'.ownsRow base e k v n xs :=
  row_of_heap h fun _ _ _ _ hg => box_extG hg f

/-- What is cells abides the turn of what is none. -/
theorem heap_own {W W' : World} {row : Option Nat} {g : Nat} {A : Array Value} {T : TypeId} {f : Nat × Nat} (hs : W.heap[g]? = some (.cells A T f)) (hg : W.grownBy W' row) (hr : ∀ r, row = some r → ∃ o : Obj, W.heap[r]? = some o ∧ o.isCells = false) : W'.heap[g]? = some (.cells A T f) := by
  refine (hg.block g (heap_lt hs) ?_).trans hs
  intro e
  obtain ⟨o, ho, hc⟩ := hr g e.symm
  rw [hs] at ho; cases ho; cases hc
theorem row_own {W W' : World} {row : Option Nat} {base n : Nat} {e : TypeId} {k : Nat} {v : Value} {xs : List Value} (hs : W.ownsRow base e k v n xs) (hg : W.grownBy W' row) (hr : ∀ r, row = some r → ∃ o : Obj, W.heap[r]? = some o ∧ o.isCells = false) : W'.ownsRow base e k v n xs :=
  row_of_heap hs fun _ _ _ _ h => heap_own h hg hr
theorem ext_own {W0 W W' : World} {row : Option Nat} {B' : Nat} (hs : Ext W0 W) (hg : W.grownBy W' row) (hB : W0.heap.size ≤ B') (hr : ∀ r, row = some r → B' ≤ r) : Ext W0 W' :=
  hs.grown hg hs.size fun k e => Nat.le_trans hB (hr k e)
end
/-- Append of a source that reads as cells, onto a row of the call's own: inside a fence. -/
theorem wpListIn_app {F : Fence} {fn : Nat} {P : Program} {w : World} {ops : Array Oper} {rest : List Oper} {o : Oper} {a : Act} {Q : Exit → Act → World → Prop} (hgd : o.guard = none) (s x : Operand) (t : TypeId)
    (ho : o.op = .call { callee := .builtin .append, args := #[s, x], argTypes := #[t, t] })
    (base : Nat) (e : TypeId) (size bytes : Nat) (ht : P.underlying t = some (.slice e)) (hi : ∃ i z, P.info? e = some i ∧ i.zero = some z ∧ i.size = size ∧ i.bytes = bytes ∧ z.cells.size = size) (hsz : 0 < size)
    (v : Value) (n : Nat) (xs : List Value) (hs : a.eval s = v) (hown : w.ownsRow base e size v n xs)
    (A : Option Addr) (m c : Nat) (news : List Value) (hx : a.eval x = .slice A m c) (hl : news.length = m * size) (hr : Seg w A news) (h1 : ∀ u ∈ news, u.oneCell' = true)
    (h63 : n + m ≤ maxLen) (hbytes : (n + m) * bytes ≤ 140737488355328) (hbase : base ≤ w.heap.size)
    (h : ∀ v' w', w'.ownsRow base e size v' (n + m) (xs ++ news) → w.grownBy w' v.ownBlock → (v'.ownBlock = v.ownBlock ∨ v'.ownBlock = some w.heap.size) → wpListIn F fn P ops Q rest (a.put o.dst v') w') : wpListIn F fn P ops Q (o :: rest) a w := by
  refine wpListIn_plain hgd fun K hK' => ?_
  obtain ⟨i, z, hi, hz, hsize, hby, hzs⟩ := hi
  obtain ⟨v', w', hrun, h2, h3, h4⟩ := run_app (P := P) w base t o.type e i z size bytes ht hi hz hsize hby hzs hsz v n xs hown A m c news hl hr h1 h63 hbytes hbase
  unfold Oper.wpIn
  refine ⟨?_, ?_⟩
  · simp [Oper.about, ho, resolve, Target.leads, Sem.run_pure]
  · rw [Oper.semAt_plain F _ _ (by rw [ho]; intro c hc'; cases hc')]
    simp [execOp, ho, resolve, invoke, builtin, hs, hx, hrun, Result.andThen]
    exact hK' _ _ (h v' w' h2 h3 h4)
/-! A function whose body holds a range over a function, walked as any other. -/
abbrev postM (P : Program) (fn : Func) (R : Ending → World → Prop) : Exit → Act → World → Prop := bodyPostM Fence.wide 5 P fn R
theorem calls_of_wp_marks {P : Program} {f : FuncId} {fn : Func} {c : Code} {args : Array Value} {w : World} {R : Ending → World → Prop}
    (hf : P.funcs[f]? = some fn) (hb : fn.body = some c)
    (h : c.wp P (postM P fn R) { tmps := args ++ Array.replicate (fn.ntmps - args.size) undef, defers := [] } w) : Calls P f args w R :=
  (callsIn_wide (n := 5)).1 (callsIn_of_wp_marks hf hb trivial ((wpIn_wide (n := 5)).2 h) rfl)
theorem postM_ret0 {P : Program} {fn : Func} {R : Ending → World → Prop} {a : Act} {w : World} {v : Value} (h : (results fn a.tmps).run P w = .ok v w) (hd : a.defers = []) (hr : R (.returned v) w) : postM P fn R .ret a w := by
  show LeavesInM _ _ _ _ _ _ a.defers _ _
  rw [hd]
  exact ⟨v, h, hr⟩
theorem postM_ret1 {P : Program} {fn : Func} {R : Ending → World → Prop} {a : Act} {w : World} {v : Value} {D : Nat} (h : (results fn a.tmps).run P (w.putObj D (.deferred none)) = .ok v (w.putObj D (.deferred none))) (hd : a.defers = [{ target := .collected D, args := #[] }]) (hK : w.heap[D]? = some (.deferred (some [])))
    (hr : R (.returned v) (w.putObj D (.deferred none))) : postM P fn R .ret a w := by
  show LeavesInM _ _ _ _ _ _ a.defers _ _
  rw [hd]
  exact ⟨by simp, .inl ⟨_, _, rfl, run_takeDeferred hK, ⟨v, h, hr⟩⟩⟩
theorem results_box1 {P : Program} {fn : Func} {p : Tmp} {ty : TypeId} (h : fn.results = #[.cell p ty]) (tmps : Array Value) (w : World) (g : Nat) (v : Value) (T : TypeId) (f : Nat × Nat) (d : TypeDesc)
    (hp : tmps.getD p undef = .pointer (some ⟨g, 0, none⟩)) (hg : w.heap[g]? = some (.cells #[v] T f)) (hu : P.underlying ty = some d) (hd : (match d with | .struct _ | .array _ _ => true | _ => false) = false) :
    (results fn tmps).run P w = .ok v w := by
  have hp' : tmps[p]?.getD undef = .pointer (some ⟨g, 0, none⟩) := by simpa using hp
  have hagg : (isAgg ty).run P w = .ok false w := by
    unfold isAgg
    rw [Sem.run_bind, run_underlying hu w]
    cases d <;> simp_all
  have hc : w.cell? ⟨g, 0, none⟩ = some v := by rw [cellG hg]; rfl
  simp [results, h, hp', asAddr, loadVar, hagg, hc, go_sem]
end Go.QS
/- What is read: bytes, the first error: in memory; contracts of Err, Left, Fail, take. -/
namespace Go.QS
open Go.RowKit
/-- All stays but one block. -/
structure One (g : Nat) (w w' : World) : Prop where
  os : w'.os = w.os
  tape : w'.tape = w.tape
  output : w'.output = w.output
  size : w.heap.size ≤ w'.heap.size
  block : ∀ k, k < w.heap.size → k ≠ g → w'.heap[k]? = w.heap[k]?
section
variable {g : Nat} {w w' a b c W : World}
theorem One.of_ext (f : Ext w w') : One g w w' := ⟨f.os, f.tape, f.output, f.size, fun k hk _ => f.block k hk⟩
theorem One.refl (w : World) : One g w w := .of_ext (Ext.refl w)
theorem One.trans (h : One g a b) (k : One g b c) : One g a c := ⟨k.os.trans h.os, k.tape.trans h.tape, k.output.trans h.output, Nat.le_trans h.size k.size, fun j hj hg => (k.block j (Nat.lt_of_lt_of_le hj h.size) hg).trans (h.block j hj hg)⟩
theorem One.setCell (h : One g a w) (i : Nat) (u : Value) : One g a (w.setCell ⟨g, i, none⟩ u) := ⟨h.os, h.tape, h.output, by simpa using h.size, fun k hk hg => (Below.heap_setCell w ⟨g, i, none⟩ u k hg).trans (h.block k hk hg)⟩
theorem One.ext (h : One g w w') (f : Ext W w) (hg : W.heap.size ≤ g) : Ext W w' := ⟨h.os.trans f.os, h.tape.trans f.tape, h.output.trans f.output, Nat.le_trans f.size h.size, fun k hk => (h.block k (Nat.lt_of_lt_of_le hk f.size) (by omega)).trans (f.block k hk)⟩
theorem One.heap (h : One g w w') {k : Nat} {o : Obj} (hk : w.heap[k]? = some o) (hg : k ≠ g) : w'.heap[k]? = some o := (h.block k (heap_lt hk) hg).trans hk
/-- A slice whose block is another one stays. -/
theorem Seg.one {V : Nat → Prop} {A : Option Addr} {xs : List Value} (h : Seg w A xs) (k : One g w w') (hg : ∀ a, A = some a → a.block ≠ g ∧ V a.block) : Seg w' A xs := by
  intro hne
  obtain ⟨b, o, hA, hc⟩ := h hne
  refine ⟨b, o, hA, fun j u hu => ?_⟩
  have h1 := hc j u hu
  exact (World.cell?_of_block (w := w) (k.block b (World.block_lt_of_cell? w _ h1) (hg _ hA).1)).trans h1
end

/-- p[i:] of a slice of bytes. -/
theorem run_fromB {P : Program} {t e : TypeId} (ht : P.underlying t = some (.slice e)) (hi : ∃ i z, P.info? e = some i ∧ i.zero = some z ∧ i.size = 1 ∧ i.bytes = 1 ∧ z.cells.size = 1) (A : Option Addr) {n c i : Nat} (hin : i ≤ n) (hnc : n ≤ c) :
    ∃ A2, (∀ w, (Instr.slice t (.slice A n c) (some (.int .i64 (i : Int))) none none).run P w = .ok (.slice A2 (n - i) (c - i)) w) ∧
      (∀ (w : World) (xs : List Value), xs.length = n → Seg w A xs → Seg w A2 (xs.drop i)) ∧ (∀ a2, A2 = some a2 → ∃ a, A = some a ∧ a.block = a2.block) := by
  obtain ⟨inf, z, hi, hz, hs, hb, hzs⟩ := hi
  refine ⟨if c = i then A else A.map (·.add i), fun w => ?_, fun w xs hl hs => ?_, fun a2 h => ?_⟩
  · have h1 : (0 : Int) ≤ (i : Int) := by omega
    have h2 : (i : Int) ≤ (n : Int) := by omega
    simp [Instr.slice, Instr.sliceBounds, Instr.sliceBound, asIntOf, run_underlying ht, sizeOf, typeInfo, hi, hs, hin]
  · by_cases h : c = i
    · have : xs.drop i = [] := List.drop_eq_nil_of_le (by omega)
      rw [this]; exact Seg.nil _ _
    · rw [if_neg h]
      intro hne
      obtain ⟨b, o, hA, hc⟩ := hs (fun e => hne (by simp [e]))
      subst hA
      obtain ⟨b', o', hA', hc'⟩ := Seg.drop (w := w) (b := b) (o := o) hs i hne
      cases hA'
      exact ⟨b, o + i, by simp [Addr.add_lit], hc'⟩
  · by_cases hc : c = i
    · rw [if_pos hc] at h; exact ⟨_, h, rfl⟩
    · rw [if_neg hc] at h
      cases A with
      | none => cases h
      | some a =>
        rw [Option.map_some] at h
        cases h
        refine ⟨a, rfl, ?_⟩
        unfold Addr.add
        split <;> rfl
end Go.QS
namespace Go.Proofs.YtigoffdehdobiaaGreat
open Go.RowKit Go.QS
set_option linter.unusedVariables false

abbrev InT : TypeId := 90
theorem infoU8 : ∃ i z, Tryz.prog.info? 5 = some i ∧ i.zero = some z ∧ i.size = 1 ∧ i.bytes = 1 ∧ z.cells.size = 1 := info_of (z := .int .u8 0) (by kernel_rfl) rfl

/-- Bytes that are left, and the first error. -/
structure InAt (V : Nat → Prop) (g : Nat) (w : World) (l : List UInt8) (e : Nat) : Prop where
  ex : ∃ A c, w.heap[g]? = some (.cells #[.slice A l.length c, .int .i64 (e : Int)] InT (0, 0)) ∧ l.length ≤ c ∧ c ≤ maxLen ∧ Seg w A (encB l) ∧ ∀ a, A = some a → a.block ≠ g ∧ V a.block
theorem InAt.ext {V : Nat → Prop} {g : Nat} {w w' : World} {l : List UInt8} {e : Nat} (h : InAt V g w l e) (f : Ext w w') : InAt V g w' l e := by
  obtain ⟨A, c, h1, h2, h3, h4, h5⟩ := h.ex
  exact ⟨A, c, box_extG h1 f, h2, h3, h4.below f, h5⟩

abbrev St2 := List UInt8 × Nat
def sFail (k : Nat) (s : St2) : St2 := if s.2 = 0 then (s.1, k) else s
def sTake (n : Nat) (s : St2) : List UInt8 × St2 := if s.2 = 0 then (if s.1.length < n then ([], s.1, 9) else (s.1.take n, s.1.drop n, 0)) else ([], s)

set_option maxRecDepth 100000 in
theorem err_c {V : Nat → Prop} {g : Nat} {w : World} {l : List UInt8} {e : Nat} (h : InAt V g w l e) : Calls Tryz.prog 30 #[ptr g] w fun x w' => x = .returned (.int .i64 (e : Int)) ∧ w = w' := by
  obtain ⟨A, c, h1, h2, h3, h4, h5⟩ := h.ex
  have c1 : w.cell? ⟨g, 1, none⟩ = some (.int .i64 (e : Int)) := by rw [cellG h1]; rfl
  clear h h4 h5 h1
  go_enter Tryz.func30, Tryz.ntmps30
  repeat' (first | go_skip | go_guarded | go_step)
  go_ret
  exact ⟨rfl, rfl⟩
set_option maxRecDepth 100000 in
theorem left_c {V : Nat → Prop} {g : Nat} {w : World} {l : List UInt8} {e : Nat} (h : InAt V g w l e) : Calls Tryz.prog 29 #[ptr g] w fun x w' => x = .returned (.int .i64 (l.length : Int)) ∧ w = w' := by
  obtain ⟨A, c, h1, h2, h3, h4, h5⟩ := h.ex
  have c1 : w.cell? ⟨g, 0, none⟩ = some (.slice A l.length c) := by rw [cellG h1]; rfl
  clear h h4 h5 h1
  go_enter Tryz.func29, Tryz.ntmps29
  repeat' (first | go_skip | go_guarded | go_step)
  go_ret
  exact ⟨rfl, rfl⟩
set_option maxRecDepth 100000 in
theorem fail_c {V : Nat → Prop} {g : Nat} {w : World} {l : List UInt8} {e : Nat} (h : InAt V g w l e) (k : Nat) : Calls Tryz.prog 20 #[ptr g, .int .i64 (k : Int)] w fun x w' => x = .returned (.tuple #[]) ∧ InAt V g w' l (sFail k (l, e)).2 ∧ One g w w' := by
  obtain ⟨A, c, h1, h2, h3, h4, h5⟩ := h.ex
  have c1 : w.cell? ⟨g, 1, none⟩ = some (.int .i64 (e : Int)) := by rw [cellG h1]; rfl
  have f1 := freeG h1 1
  have hl := heap_lt h1
  have HH := Lib.hid (And.intro h1 (And.intro h4 (And.intro h5 h)))
  clear h h4 h5 h1
  unfold sFail
  by_cases he : e = 0
  · subst he
    have d1 : decide ((0 : Nat) = 0) = true := rfl
    go_enter Tryz.func20, Tryz.ntmps20
    repeat' (first | go_skip | go_guarded | go_step)
    (try simp only [Exit.inBlock, Exit.then])
    first | refine bodyPost_ret (results_none rfl _ _ _) rfl ?_ | refine bodyPost_end (results_none rfl _ _ _) rfl ?_
    have hO : One g w (w.setCell ⟨g, 1, none⟩ (.int .i64 (k : Int))) := (One.refl w).setCell 1 _
    exact ⟨rfl, ⟨A, c, heap_set HH.out.1 1 _, h2, h3, HH.out.2.1.one hO HH.out.2.2.1, HH.out.2.2.1⟩, hO⟩
  · have hd : ¬ (e : Int) = 0 := by omega
    have d1 : ((e : Int) == 0) = false := by rw [beq_eq_false_iff_ne]; exact hd
    rw [if_neg he]
    go_enter Tryz.func20, Tryz.ntmps20
    repeat' (first | go_skip | go_guarded | go_step)
    (try simp only [Exit.inBlock, Exit.then])
    first | refine bodyPost_ret (results_none rfl _ _ _) rfl ?_ | refine bodyPost_end (results_none rfl _ _ _) rfl ?_
    exact ⟨rfl, HH.out.2.2.2, One.refl w⟩
end Go.Proofs.YtigoffdehdobiaaGreat
