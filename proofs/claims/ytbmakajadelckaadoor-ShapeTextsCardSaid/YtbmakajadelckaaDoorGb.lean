/- What stays beside an iterator that keeps its state in cells: by the types of the blocks. No program. -/
import Derived.Test.YtbmakajadelckaaDoorGa
import Derived.OwnWalkIn
import Derived.RangeFuncLeaves
set_option linter.unusedVariables false
set_option linter.unusedSimpArgs false
namespace Go.QS
open Go Go.RowKit

/-- All objects that q tells stay. -/
structure KeepQ (q : Nat → Obj → Prop) (w w' : World) : Prop where
  os : w'.os = w.os
  tape : w'.tape = w.tape
  output : w'.output = w.output
  size : w.heap.size ≤ w'.heap.size
  blk : ∀ k o, w.heap[k]? = some o → q k o → w'.heap[k]? = some o

def inT (τ : TypeId → Prop) (o : Obj) : Prop := ∃ A T f, o = .cells A T f ∧ τ T
/-- What an iterator's own steps keep: all but its own blocks, that lie at or beyond B, of types τ. -/
abbrev StT (B : Nat) (τ : TypeId → Prop) : World → World → Prop := KeepQ fun k o => k < B ∨ ¬ inT τ o
/-- What a round keeps: what lay ahead of B, and the iterator's own blocks. -/
abbrev KpT (B : Nat) (τ : TypeId → Prop) : World → World → Prop := KeepQ fun k o => k < B ∨ inT τ o

section
variable {q : Nat → Obj → Prop} {w w' a b c : World} {B : Nat} {τ : TypeId → Prop}
theorem KeepQ.of_ext (h : Ext w w') : KeepQ q w w' := ⟨h.os, h.tape, h.output, h.size, fun k _ hk _ => (h.block k (heap_lt hk)).trans hk⟩
theorem KeepQ.refl (w : World) : KeepQ q w w := .of_ext (Ext.refl w)
theorem KeepQ.trans (h : KeepQ q a b) (k : KeepQ q b c) : KeepQ q a c :=
  ⟨k.os.trans h.os, k.tape.trans h.tape, k.output.trans h.output, Nat.le_trans h.size k.size, fun i o hi hq => k.blk i o (h.blk i o hi hq) hq⟩
theorem KeepQ.mono {q' : Nat → Obj → Prop} (h : KeepQ q w w') (hq : ∀ k o, q' k o → q k o) : KeepQ q' w w' := ⟨h.os, h.tape, h.output, h.size, fun k o hk h' => h.blk k o hk (hq k o h')⟩
/-- What lay ahead of B lies as it lay. -/
theorem KeepQ.ext (h : KeepQ q w w') (hq : ∀ k o, k < B → q k o) {W : World} (he : Ext W w) (hB : W.heap.size ≤ B) : Ext W w' :=
  ⟨h.os.trans he.os, h.tape.trans he.tape, h.output.trans he.output, Nat.le_trans he.size h.size, fun k hk => by
    obtain ⟨o, ho⟩ : ∃ o, w.heap[k]? = some o := ⟨_, Array.getElem?_eq_getElem (Nat.lt_of_lt_of_le hk he.size)⟩
    exact (h.blk k o ho (hq k o (by omega))).trans (ho.symm.trans (he.block k hk))⟩
theorem stT_ext (h : StT B τ w w') {W : World} (he : Ext W w) (hB : W.heap.size ≤ B) : Ext W w' := h.ext (fun _ _ hk => .inl hk) he hB
theorem kpT_ext (h : KpT B τ w w') {W : World} (he : Ext W w) (hB : W.heap.size ≤ B) : Ext W w' := h.ext (fun _ _ hk => .inl hk) he hB
/-- A block of another type stays beside an iterator. -/
theorem stT_heap (h : StT B τ w w') {g : Nat} {A : Array Value} {T : TypeId} {f : Nat × Nat} (hg : w.heap[g]? = some (.cells A T f)) (hT : ¬ τ T) : w'.heap[g]? = some (.cells A T f) :=
  h.blk g _ hg (.inr (by rintro ⟨A', T', f', e, h'⟩; cases e; exact hT h'))
theorem stT_other (h : StT B τ w w') {g : Nat} {o : Obj} (hg : w.heap[g]? = some o) (ho : o.isCells = false) : w'.heap[g]? = some o :=
  h.blk g _ hg (.inr (by rintro ⟨A', T', f', e, h'⟩; subst e; cases ho))
theorem kpT_heap (h : KpT B τ w w') {g : Nat} {A : Array Value} {T : TypeId} {f : Nat × Nat} (hg : w.heap[g]? = some (.cells A T f)) (hT : τ T) : w'.heap[g]? = some (.cells A T f) :=
  h.blk g _ hg (.inr ⟨A, T, f, rfl, hT⟩)
/-- An iterator's step: blocks of its own types alone turn. -/
theorem stT_of (h1 : w'.os = w.os) (h2 : w'.tape = w.tape) (h3 : w'.output = w.output) (h4 : w.heap.size ≤ w'.heap.size)
    (h : ∀ k, k < w.heap.size → (B ≤ k ∧ ∃ o, w.heap[k]? = some o ∧ inT τ o) ∨ w'.heap[k]? = w.heap[k]?) : StT B τ w w' :=
  ⟨h1, h2, h3, h4, fun k o hk hq => by
    rcases h k (heap_lt hk) with ⟨hB, o', ho, hi⟩ | e
    · rw [hk] at ho; cases ho
      rcases hq with hq | hq
      · omega
      · exact absurd hi hq
    · exact e.trans hk⟩
theorem kpT_set (W : World) {g : Nat} (j : Nat) (v : Value) (hB : B ≤ g) (hg : ∀ o, W.heap[g]? = some o → ¬ inT τ o) : KpT B τ W (W.setCell ⟨g, j, none⟩ v) :=
  ⟨rfl, rfl, rfl, by simp [World.setCell], fun k o hk hq => by
    by_cases e : k = g
    · subst e
      rcases hq with hq | hq
      · omega
      · exact absurd hq (hg o hk)
    · exact (Below.heap_setCell W _ v k e).trans hk⟩
theorem not_inT {A : Array Value} {T : TypeId} {f : Nat × Nat} (hT : ¬ τ T) : ¬ inT τ (.cells A T f) := by rintro ⟨A', T', f', e, h'⟩; cases e; exact hT h'
theorem kpT_box (W : World) {g : Nat} {A : Array Value} {T : TypeId} {f : Nat × Nat} (hg : W.heap[g]? = some (.cells A T f)) (j : Nat) (v : Value) (hB : B ≤ g) (hT : ¬ τ T) : KpT B τ W (W.setCell ⟨g, j, none⟩ v) :=
  kpT_set W j v hB (fun o ho => by rw [hg] at ho; cases ho; exact not_inT hT)
theorem kpT_grown {row : Option Nat} (h : w.grownBy w' row) (hr : ∀ k, row = some k → B ≤ k ∧ ∀ o, w.heap[k]? = some o → ¬ inT τ o) : KpT B τ w w' :=
  ⟨h.os, h.tape, h.output, h.size, fun k o hk hq => by
    by_cases e : some k = row
    · obtain ⟨h1, h2⟩ := hr k e.symm
      rcases hq with hq | hq
      · omega
      · exact absurd hq (h2 o hk)
    · exact (h.block k (heap_lt hk) e).trans hk⟩
theorem kpT_t {A B' C : World} (h : KpT B τ A B') (k : KpT B τ B' C) : KpT B τ A C := h.trans k
theorem kpT_b {W0 : World} (hB : B ≤ W0.heap.size) (W : World) (l : Nat) (o o' : Obj) (hl : W0.heap.size ≤ l) (h : W.heap[l]? = some o) (hc : o.isCells = false) (_ : o.isWalk = false) : KpT B τ W (W.putObj l o') :=
  kpT_grown (grownBy_putObj' W l o') (fun k e => by cases e; exact ⟨by omega, fun o1 ho => by rw [h] at ho; cases ho; rintro ⟨A, T, f, e, _⟩; subst e; cases hc⟩)

/-- A row of one's own stays where its block does. -/
theorem row_of_heap {base n : Nat} {e : TypeId} {k : Nat} {v : Value} {xs : List Value} (h : w.ownsRow base e k v n xs) (hk : ∀ g A f, v.ownBlock = some g → w.heap[g]? = some (.cells A e f) → w'.heap[g]? = some (.cells A e f)) : w'.ownsRow base e k v n xs := by
  refine ⟨h.1, ?_⟩
  rcases h.2 with h1 | ⟨g, cap, cur, rfl, h2, h3, h4⟩
  · exact .inl h1
  · exact .inr ⟨g, cap, cur, rfl, h2, hk g _ _ rfl h3, h4⟩
theorem row_stT {base n : Nat} {e : TypeId} {k : Nat} {v : Value} {xs : List Value} (h : w.ownsRow base e k v n xs) (hs : StT B τ w w') (he : ¬ τ e) : w'.ownsRow base e k v n xs :=
  row_of_heap h fun _ _ _ _ hg => stT_heap hs hg he
theorem row_kpT {base n : Nat} {e : TypeId} {k : Nat} {v : Value} {xs : List Value} (h : w.ownsRow base e k v n xs) (hs : KpT B τ w w') (he : τ e) : w'.ownsRow base e k v n xs :=
  row_of_heap h fun _ _ _ _ hg => kpT_heap hs hg he
theorem row_is {base n : Nat} {e : TypeId} {k : Nat} {v : Value} {xs : List Value} (h : w.ownsRow base e k v n xs) {g : Nat} (hg : v.ownBlock = some g) : base ≤ g ∧ ∃ A f, w.heap[g]? = some (.cells A e f) := by
  rcases h.2 with ⟨rfl, _⟩ | ⟨g', cap, cur, rfl, h2, h3, h4⟩
  · cases hg
  · cases hg; exact ⟨h2, _, _, h3⟩

theorem heap_newG (w : World) (o : Obj) : (w.alloc o).heap[w.heap.size]? = some o := by
  have := World.alloc_heap_new w o
  exact this
theorem cellG {g : Nat} {cs : Array Value} {T : TypeId} {f : Nat × Nat} (h : w.heap[g]? = some (.cells cs T f)) (j : Nat) : w.cell? ⟨g, j, none⟩ = cs[j]? := by simp [World.cell?, h]
theorem freeG {g : Nat} {cs : Array Value} {T : TypeId} (h : w.heap[g]? = some (.cells cs T (0, 0))) (j : Nat) : w.frozen? ⟨g, j, none⟩ = false := by simp [World.frozen?, h]
theorem box_extG {g : Nat} {o : Obj} (h : w.heap[g]? = some o) (f : Ext w w') : w'.heap[g]? = some o := (f.block g (heap_lt h)).trans h
theorem row_extG {base n : Nat} {e : TypeId} {k : Nat} {v : Value} {xs : List Value} (h : w.ownsRow base e k v n xs) (f : Ext w w') : w'.ownsRow base e k v n xs :=
  row_of_heap h fun _ _ _ _ hg => box_extG hg f

/-- What is cells abides the turn of what is none. -/
theorem heap_own {W W' : World} {row : Option Nat} {g : Nat} {A : Array Value} {T : TypeId} {f : Nat × Nat} (hs : W.heap[g]? = some (.cells A T f)) (hg : W.grownBy W' row) (hr : ∀ r, row = some r → ∃ o : Obj, W.heap[r]? = some o ∧ o.isCells = false) : W'.heap[g]? = some (.cells A T f) := by
  refine (hg.block g (heap_lt hs) ?_).trans hs
  intro e
  obtain ⟨o, ho, hc⟩ := hr g e.symm
  rw [hs] at ho; cases ho; cases hc
theorem row_own {W W' : World} {row : Option Nat} {base n : Nat} {e : TypeId} {k : Nat} {v : Value} {xs : List Value} (hs : W.ownsRow base e k v n xs) (hg : W.grownBy W' row) (hr : ∀ r, row = some r → ∃ o : Obj, W.heap[r]? = some o ∧ o.isCells = false) : W'.ownsRow base e k v n xs :=
  row_of_heap hs fun _ _ _ _ h => heap_own h hg hr
theorem ext_own {W0 W W' : World} {row : Option Nat} {B' : Nat} (hs : Ext W0 W) (hg : W.grownBy W' row) (hB : W0.heap.size ≤ B') (hr : ∀ r, row = some r → B' ≤ r) : Ext W0 W' :=
  hs.grown hg hs.size fun k e => Nat.le_trans hB (hr k e)
end
/-- Append of a source that reads as cells, onto a row of the call's own: inside a fence. -/
theorem wpListIn_app {F : Fence} {fn : Nat} {P : Program} {w : World} {ops : Array Oper} {rest : List Oper} {o : Oper} {a : Act} {Q : Exit → Act → World → Prop} (hgd : o.guard = none) (s x : Operand) (t : TypeId)
    (ho : o.op = .call { callee := .builtin .append, args := #[s, x], argTypes := #[t, t] })
    (base : Nat) (e : TypeId) (size bytes : Nat) (ht : P.underlying t = some (.slice e)) (hi : ∃ i z, P.info? e = some i ∧ i.zero = some z ∧ i.size = size ∧ i.bytes = bytes ∧ z.cells.size = size) (hsz : 0 < size)
    (v : Value) (n : Nat) (xs : List Value) (hs : a.eval s = v) (hown : w.ownsRow base e size v n xs)
    (A : Option Addr) (m c : Nat) (news : List Value) (hx : a.eval x = .slice A m c) (hl : news.length = m * size) (hr : Seg w A news) (h1 : ∀ u ∈ news, u.oneCell' = true)
    (h63 : n + m ≤ maxLen) (hbytes : (n + m) * bytes ≤ 140737488355328) (hbase : base ≤ w.heap.size)
    (h : ∀ v' w', w'.ownsRow base e size v' (n + m) (xs ++ news) → w.grownBy w' v.ownBlock → (v'.ownBlock = v.ownBlock ∨ v'.ownBlock = some w.heap.size) → wpListIn F fn P ops Q rest (a.put o.dst v') w') : wpListIn F fn P ops Q (o :: rest) a w := by
  refine wpListIn_plain hgd fun K hK' => ?_
  obtain ⟨i, z, hi, hz, hsize, hby, hzs⟩ := hi
  obtain ⟨v', w', hrun, h2, h3, h4⟩ := run_app (P := P) w base t o.type e i z size bytes ht hi hz hsize hby hzs hsz v n xs hown A m c news hl hr h1 h63 hbytes hbase
  unfold Oper.wpIn
  refine ⟨?_, ?_⟩
  · simp [Oper.about, ho, resolve, Target.leads, Sem.run_pure]
  · rw [Oper.semAt_plain F _ _ (by rw [ho]; intro c hc'; cases hc')]
    simp [execOp, ho, resolve, invoke, builtin, hs, hx, hrun, Result.andThen]
    exact hK' _ _ (h v' w' h2 h3 h4)
/-! A function whose body holds a range over a function, walked as any other. -/
abbrev postM (P : Program) (fn : Func) (R : Ending → World → Prop) : Exit → Act → World → Prop := bodyPostM Fence.wide 5 P fn R
theorem calls_of_wp_marks {P : Program} {f : FuncId} {fn : Func} {c : Code} {args : Array Value} {w : World} {R : Ending → World → Prop}
    (hf : P.funcs[f]? = some fn) (hb : fn.body = some c)
    (h : c.wp P (postM P fn R) { tmps := args ++ Array.replicate (fn.ntmps - args.size) undef, defers := [] } w) : Calls P f args w R :=
  (callsIn_wide (n := 5)).1 (callsIn_of_wp_marks hf hb trivial ((wpIn_wide (n := 5)).2 h) rfl)
theorem postM_ret0 {P : Program} {fn : Func} {R : Ending → World → Prop} {a : Act} {w : World} {v : Value} (h : (results fn a.tmps).run P w = .ok v w) (hd : a.defers = []) (hr : R (.returned v) w) : postM P fn R .ret a w := by
  show LeavesInM _ _ _ _ _ _ a.defers _ _
  rw [hd]
  exact ⟨v, h, hr⟩
theorem postM_ret1 {P : Program} {fn : Func} {R : Ending → World → Prop} {a : Act} {w : World} {v : Value} {D : Nat} (h : (results fn a.tmps).run P (w.putObj D (.deferred none)) = .ok v (w.putObj D (.deferred none))) (hd : a.defers = [{ target := .collected D, args := #[] }]) (hK : w.heap[D]? = some (.deferred (some [])))
    (hr : R (.returned v) (w.putObj D (.deferred none))) : postM P fn R .ret a w := by
  show LeavesInM _ _ _ _ _ _ a.defers _ _
  rw [hd]
  exact ⟨by simp, .inl ⟨_, _, rfl, run_takeDeferred hK, ⟨v, h, hr⟩⟩⟩
theorem results_box1 {P : Program} {fn : Func} {p : Tmp} {ty : TypeId} (h : fn.results = #[.cell p ty]) (tmps : Array Value) (w : World) (g : Nat) (v : Value) (T : TypeId) (f : Nat × Nat) (d : TypeDesc)
    (hp : tmps.getD p undef = .pointer (some ⟨g, 0, none⟩)) (hg : w.heap[g]? = some (.cells #[v] T f)) (hu : P.underlying ty = some d) (hd : (match d with | .struct _ | .array _ _ => true | _ => false) = false) :
    (results fn tmps).run P w = .ok v w := by
  have hp' : tmps[p]?.getD undef = .pointer (some ⟨g, 0, none⟩) := by simpa using hp
  have hagg : (isAgg ty).run P w = .ok false w := by
    unfold isAgg
    rw [Sem.run_bind, run_underlying hu w]
    cases d <;> simp_all
  have hc : w.cell? ⟨g, 0, none⟩ = some v := by rw [cellG hg]; rfl
  simp [results, h, hp', asAddr, loadVar, hagg, hc, go_sem]
end Go.QS
