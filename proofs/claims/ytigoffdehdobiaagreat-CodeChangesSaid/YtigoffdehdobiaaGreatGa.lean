/- A range over a function whose iterator keeps its state in cells of its own: what the iterator's own steps may turn is a relation St, which the caller's invariants abide. After the kit's own law (there only walks' objects may turn). No program. -/
import Derived.RangeFuncNested
import Derived.Test.YtigoffdehdobiaaGreatNd
set_option linter.unusedVariables false
set_option linter.unusedSimpArgs false
namespace Go.QS
open Go Go.RowKit

/-- An iterator's contract: what the iterator itself does between two rounds is St; what a round keeps is Kp; Pre is what holds when it is called. -/
def SeqR {α : Type} (F : Fence) (n : Nat) (P : Program) (g : Nat) (lb : Array Value) (encs : α → Array Value) (St Kp : World → World → Prop) (S Sp : List α → Prop) (N : Nat) (Pre : World → Prop) : Prop :=
  ∀ (l : Nat) (J Jx : List α → World → Prop) (W : World), Pre W → (∀ s A B, J s A → St A B → J s B) → (∀ s A B, Jx s A → St A B → Jx s B) →
    (∀ pre x W1, J pre W1 → pre.length < N → YieldAt F (n - 1) P l (encs x) W1 fun e W' =>
      (e = .returned (.bool true) ∧ J (pre ++ [x]) W' ∧ Kp W1 W') ∨ (e = .returned (.bool false) ∧ Jx (pre ++ [x]) W')) →
    J [] W →
    CallsIn F n P g (#[.func (.yield l) #[] #[]] ++ lb) W fun e W' => (∃ v, e = .returned v) ∧ ((∃ xs, S xs ∧ J xs W') ∨ (∃ pre, Sp pre ∧ Jx pre W'))

theorem SeqR.pre {α : Type} {F : Fence} {n : Nat} {P : Program} {g : Nat} {lb : Array Value} {encs : α → Array Value} {St Kp : World → World → Prop} {S Sp : List α → Prop} {N : Nat} {Pre Pre' : World → Prop} (h : SeqR F n P g lb encs St Kp S Sp N Pre) (hp : ∀ W, Pre' W → Pre W) : SeqR F n P g lb encs St Kp S Sp N Pre' :=
  fun l J Jx W hW => h l J Jx W (hp W hW)

section
variable {F : Fence} {n : Nat} {P : Program}

/-- The statement over such an iterator. Bk: the law's own steps (a block that is no cells turns, at or beyond B) are kept by I, Ix, Ax, and count as kept by Kp. -/
theorem wpIn_rangeFunc_R {α : Type} {g : Operand} {ps : Array Tmp} {assign body : Code} {Q : Exit → Act → World → Prop} {a : Act} {w : World}
    (hro : F.round = none) (h1 : 1 ≤ n) {gf : Nat} {lb : Array Value} (hg : a.eval g = .func (.func gf) #[] lb) (hFg : F.fn gf) (eg : ∀ args w, (callFunc gf args).run P w = .ok (.enter gf args) w)
    {encs : α → Array Value} {St Kp : World → World → Prop} {S Sp : List α → Prop} {N : Nat} {Pre : World → Prop} (hseq : SeqR F (n - 1) P gf lb encs St Kp S Sp N Pre)
    (hSt : ∀ {A B : World} (k : Nat) (o : Obj), St A B → w.heap.size ≤ k → A.heap[k]? = some o → o.isCells = false → B.heap[k]? = some o)
    (hKt : ∀ {A B C : World}, Kp A B → Kp B C → Kp A C) (hKb : ∀ (W : World) (l : Nat) (o o' : Obj), w.heap.size ≤ l → W.heap[l]? = some o → o.isCells = false → o.isWalk = false → Kp W (W.putObj l o'))
    (hPre : ∀ r, Pre ((w.alloc (.deferred (some []))).alloc (.loop r))) (hps : ∀ x, (encs x).size = ps.size)
    (I : List α → World → Prop) (Ix : Code → List α → World → Prop) (hI : OwnFrom w.heap.size I) (hIx : ∀ c, OwnFrom w.heap.size (Ix c))
    (hIs : ∀ s A B, I s A → St A B → I s B) (hIxs : ∀ c s A B, Ix c s A → St A B → Ix c s B) (h0 : I [] w) (Ax : α → Act → World → Prop) (hAx : ∀ x a', OwnFrom w.heap.size (fun (_ : Unit) W => Ax x a' W))
    (hassign : ∀ (l : Nat) (pre : List α) (x : α) (W : World) (K : Act → World → Prop), I pre W → (∀ a' W', KeepsFrom w.heap.size W W' → Kp W W' → I pre W' → Ax x a' W' → K a' W') →
      assign.wpIn (F.inRound l) (n - 1 - 1) P (Exit.then K (fun _ _ _ => False)) { tmps := (ps.zip (encs x)).foldl (fun t (p, v) => t.setIfInBounds p v) a.tmps, defers := [] } W)
    (hbody : ∀ (l : Nat) (pre : List α) (x : α) (a' : Act) (W : World), w.heap.size ≤ l → (∃ r, W.heap[l]? = some (.loop r)) → I pre W → Ax x a' W → pre.length < N → body.wpIn (F.inRound l) (n - 1 - 1) P (ownPostG w.heap.size Kp I Ix (pre ++ [x]) W) a' W)
    (hdone : ∀ (D : Nat) (xs : List α) (W : World), w.heap.size ≤ D → S xs → I xs W → W.heap[D]? = some (.deferred (some [])) → Q .normal { a with defers := { target := .collected D, args := #[] } :: a.defers } W)
    (hstop : ∀ (D : Nat) (c : Code) (pre : List α) (W : World), w.heap.size ≤ D → Sp pre → Ix c pre W → W.heap[D]? = some (.deferred (some [])) → c.wpIn F n P Q { a with defers := { target := .collected D, args := #[] } :: a.defers } W) :
    (Code.rangeFunc g ps assign body).wpIn F n P Q a w := by
  refine wpIn_rangeFunc ?_
  intro fn hfn
  rw [hro]
  obtain ⟨rec, hrec⟩ : ∃ rec : LoopState → Option Code → Loop, rec = fun st pe => { state := st, pending := pe, fn, tmps := a.tmps, params := ps, assign, body, defers := w.heap.size } := ⟨_, rfl⟩
  have hPre1 := hPre (rec .ready none)
  obtain ⟨W1, hW1⟩ : ∃ W1, (w.alloc (.deferred (some []))).alloc (.loop (rec .ready none)) = W1 := ⟨_, rfl⟩
  rw [hW1] at hPre1
  have hL1 : W1.heap[w.heap.size + 1]? = some (.loop (rec .ready none)) := by
    rw [← hW1]; have := World.alloc_heap_new (w.alloc (.deferred (some []))) (.loop (rec .ready none)); rwa [World.size_alloc] at this
  have hK1 : W1.heap[w.heap.size]? = some (.deferred (some [])) := by
    rw [← hW1]; exact (Below.heap_alloc _ _ _ (by simp)).trans (World.alloc_heap_new w _)
  have hI1 : I [] W1 := by rw [← hW1]; exact hI.alloc _ (hI.alloc _ h0)
  refine ⟨w.heap.size + 1, [{ target := .collected w.heap.size, args := #[] }], W1, { target := .fn (.func gf) lb, args := #[.func (.yield (w.heap.size + 1)) #[] #[]] }, W1, gf,
    #[.func (.yield (w.heap.size + 1)) #[] #[]] ++ lb, W1, ?_, ?_, ?_, ?_, fun _ => h1, ?_⟩
  · rw [← hW1, hrec]; exact run_enterLoop_outer _ _ _ _ _
  · simp only [resolve, hg]
    simp [go_sem]
  · intro f' hf'; simp [Target.leads] at hf'; subst hf'; exact hFg
  · simp [invoke, go_sem, eg]
  · refine (hseq (w.heap.size + 1)
      (fun pre W => I pre W ∧ W.heap[w.heap.size + 1]? = some (.loop (rec .ready none)) ∧ W.heap[w.heap.size]? = some (.deferred (some [])))
      (fun pre W => ∃ c, Ix c pre W ∧ W.heap[w.heap.size + 1]? = some (.loop (rec .done (some c))) ∧ W.heap[w.heap.size]? = some (.deferred (some [])))
      W1 hPre1
      (fun s A B hs hst => ⟨hIs s A B hs.1 hst, hSt _ _ hst (by omega) hs.2.1 rfl, hSt _ _ hst (Nat.le_refl _) hs.2.2 rfl⟩)
      (fun s A B hs hst => by
        obtain ⟨c, hc, hl, hk⟩ := hs
        exact ⟨c, hIxs c s A B hc hst, hSt _ _ hst (by omega) hl rfl, hSt _ _ hst (Nat.le_refl _) hk rfl⟩)
      ?_ ⟨hI1, hL1, hK1⟩).mono ?_
    · rintro pre x W ⟨hi, hl, hk⟩ hlen
      have hlt : w.heap.size + 1 < W.heap.size := (Array.getElem?_eq_some_iff.1 hl).1
      have hy := run_yield (P := P) (args := encs x) hl (by rw [hrec]; exact hps x)
      rw [hrec] at hy
      refine ⟨fn, _, assign, body, hy, roundIn_of_wpIn hfn (hassign _ pre x W _ hi ?_)⟩
      clear hy
      intro a' Wa hkfa hkpa hia hax
      replace hl := hkfa.same _ _ (by omega) hl rfl
      replace hk := hkfa.same _ _ (Nat.le_refl _) hk rfl
      replace hlt : w.heap.size + 1 < Wa.heap.size := (Array.getElem?_eq_some_iff.1 hl).1
      replace hi := hia
      clear hia
      revert hkpa hkfa
      generalize W = Wb
      intro hkfa hkpa
      obtain ⟨W, rfl⟩ : ∃ W, W = Wa := ⟨_, rfl⟩
      refine ⟨_, run_beginRound hl (by rw [hrec]), ?_⟩
      have hl2 : (W.putObj (w.heap.size + 1) (.loop { rec .ready none with state := .busy })).heap[w.heap.size + 1]? = some (.loop { rec .ready none with state := .busy }) := World.putObj_heap_same hlt
      have hk2 : (W.putObj (w.heap.size + 1) (.loop { rec .ready none with state := .busy })).heap[w.heap.size]? = some (.deferred (some [])) := (World.putObj_heap_other (by omega)).trans hk
      have hw2 : Kp W (W.putObj (w.heap.size + 1) (.loop { rec .ready none with state := .busy })) := hKb _ _ _ _ (by omega) hl rfl rfl
      refine wpIn_mono (hbody _ pre x a' _ (by omega) ⟨_, hl2⟩ (hI.putObj _ hi (by omega) hl rfl) ((hAx x a').putObj (s := ()) _ hax (by omega) hl rfl) hlen) ?_
      have fin : ∀ (jump : Option Code) (W3 : World), KeepsFrom w.heap.size (W.putObj (w.heap.size + 1) (.loop { rec .ready none with state := .busy })) W3 →
          (Instr.endRound (w.heap.size + 1) jump).run P W3 = .ok (.bool jump.isNone) (W3.putObj (w.heap.size + 1) (.loop (rec (if jump.isNone then .ready else .done) jump))) ∧
          W3.heap[w.heap.size + 1]? = some (.loop { rec .ready none with state := .busy }) ∧
          (W3.putObj (w.heap.size + 1) (.loop (rec (if jump.isNone then .ready else .done) jump))).heap[w.heap.size + 1]? = some (.loop (rec (if jump.isNone then .ready else .done) jump)) ∧
          (W3.putObj (w.heap.size + 1) (.loop (rec (if jump.isNone then .ready else .done) jump))).heap[w.heap.size]? = some (.deferred (some [])) := fun jump W3 hk3 => by
        have hl3 := hk3.same _ _ (by omega) hl2 rfl
        have := run_endRound (P := P) jump hl3
        rw [hrec] at this ⊢
        exact ⟨this, by rw [hrec] at hl3; exact hl3, World.putObj_heap_same (Array.getElem?_eq_some_iff.1 hl3).1, (World.putObj_heap_other (by omega)).trans (hk3.same _ _ (Nat.le_refl _) hk2 rfl)⟩
      rintro e a3 W3 hp
      cases e with
      | normal =>
        obtain ⟨hk3, hkp3, hi3⟩ := hp
        obtain ⟨hr, hl3, hl4, hk4⟩ := fin none W3 hk3
        exact ⟨_, _, hr, .inl ⟨rfl, ⟨hI.putObj _ hi3 (by omega) hl3 rfl, hl4, hk4⟩, hKt hkpa (hKt (hKt hw2 hkp3) (hKb _ _ _ _ (by omega) hl3 rfl rfl))⟩⟩
      | ret =>
        obtain ⟨hk3, hi3⟩ := hp
        obtain ⟨hr, hl3, hl4, hk4⟩ := fin (some .ret) W3 hk3
        exact ⟨_, _, hr, .inr ⟨rfl, .ret, (hIx _).putObj _ hi3 (by omega) hl3 rfl, hl4, hk4⟩⟩
      | exit id =>
        obtain ⟨hk3, hi3⟩ := hp
        obtain ⟨hr, hl3, hl4, hk4⟩ := fin (some (.exit id)) W3 hk3
        exact ⟨_, _, hr, .inr ⟨rfl, .exit id, (hIx _).putObj _ hi3 (by omega) hl3 rfl, hl4, hk4⟩⟩
      | goto t =>
        obtain ⟨hk3, hi3⟩ := hp
        obtain ⟨hr, hl3, hl4, hk4⟩ := fin (some (.goto t)) W3 hk3
        exact ⟨_, _, hr, .inr ⟨rfl, .goto t, (hIx _).putObj _ hi3 (by omega) hl3 rfl, hl4, hk4⟩⟩
      | panic ch => exact hp.elim
      | outgrown => exact hp.elim
    · rintro e W2 ⟨⟨v, rfl⟩, (⟨xs, hS, hi, hl, hk⟩ | ⟨pre, hSp, c, hi, hl, hk⟩)⟩
      · exact ⟨none, _, by have := run_endLoop (P := P) hl (by rw [hrec]; simp); rw [hrec] at this; exact this, hdone _ xs _ (Nat.le_refl _) hS (hI.putObj _ hi (by omega) hl rfl) ((World.putObj_heap_other (by omega)).trans hk)⟩
      · exact ⟨some c, _, by have := run_endLoop (P := P) hl (by rw [hrec]; simp); rw [hrec] at this; exact this, hstop _ c pre _ (Nat.le_refl _) hSp ((hIx c).putObj _ hi (by omega) hl rfl) ((World.putObj_heap_other (by omega)).trans hk)⟩
/-- The same, where what a round's frame is may name the loop's own temporaries. -/
theorem wpIn_rangeFunc_RT {α : Type} {g : Operand} {ps : Array Tmp} {assign body : Code} {Q : Exit → Act → World → Prop} {a : Act} {w : World}
    (hro : F.round = none) (h1 : 1 ≤ n) {gf : Nat} {lb : Array Value} (hg : a.eval g = .func (.func gf) #[] lb) (hFg : F.fn gf) (eg : ∀ args w, (callFunc gf args).run P w = .ok (.enter gf args) w)
    {encs : α → Array Value} {St Kp : World → World → Prop} {S Sp : List α → Prop} {N : Nat} {Pre : World → Prop} (hseq : SeqR F (n - 1) P gf lb encs St Kp S Sp N Pre)
    (hSt : ∀ {A B : World} (k : Nat) (o : Obj), St A B → w.heap.size ≤ k → A.heap[k]? = some o → o.isCells = false → B.heap[k]? = some o)
    (hKt : ∀ {A B C : World}, Kp A B → Kp B C → Kp A C) (hKb : ∀ (W : World) (l : Nat) (o o' : Obj), w.heap.size ≤ l → W.heap[l]? = some o → o.isCells = false → o.isWalk = false → Kp W (W.putObj l o'))
    (hPre : ∀ r, Pre ((w.alloc (.deferred (some []))).alloc (.loop r))) (hps : ∀ x, (encs x).size = ps.size)
    (I : List α → World → Prop) (Ix : Code → List α → World → Prop) (hI : OwnFrom w.heap.size I) (hIx : ∀ c, OwnFrom w.heap.size (Ix c))
    (hIs : ∀ s A B, I s A → St A B → I s B) (hIxs : ∀ c s A B, Ix c s A → St A B → Ix c s B) (h0 : I [] w) (Ax : Array Value → α → Act → World → Prop) (hAx : ∀ x a', OwnFrom w.heap.size (fun (_ : Unit) W => Ax a.tmps x a' W))
    (hassign : ∀ (l : Nat) (pre : List α) (x : α) (W : World) (K : Act → World → Prop), I pre W → (∀ a' W', KeepsFrom w.heap.size W W' → Kp W W' → I pre W' → Ax a.tmps x a' W' → K a' W') →
      assign.wpIn (F.inRound l) (n - 1 - 1) P (Exit.then K (fun _ _ _ => False)) { tmps := (ps.zip (encs x)).foldl (fun t (p, v) => t.setIfInBounds p v) a.tmps, defers := [] } W)
    (hbody : ∀ (l : Nat) (pre : List α) (x : α) (a' : Act) (W : World), w.heap.size ≤ l → (∃ r, W.heap[l]? = some (.loop r)) → I pre W → Ax a.tmps x a' W → pre.length < N → body.wpIn (F.inRound l) (n - 1 - 1) P (ownPostG w.heap.size Kp I Ix (pre ++ [x]) W) a' W)
    (hdone : ∀ (D : Nat) (xs : List α) (W : World), w.heap.size ≤ D → S xs → I xs W → W.heap[D]? = some (.deferred (some [])) → Q .normal { a with defers := { target := .collected D, args := #[] } :: a.defers } W)
    (hstop : ∀ (D : Nat) (c : Code) (pre : List α) (W : World), w.heap.size ≤ D → Sp pre → Ix c pre W → W.heap[D]? = some (.deferred (some [])) → c.wpIn F n P Q { a with defers := { target := .collected D, args := #[] } :: a.defers } W) :
    (Code.rangeFunc g ps assign body).wpIn F n P Q a w := 
  wpIn_rangeFunc_R hro h1 hg hFg eg hseq hSt hKt hKb hPre hps I Ix hI hIx hIs hIxs h0 (Ax a.tmps) hAx hassign hbody hdone hstop
end

/-- What an iterator may turn: blocks at or beyond B that hold cells of such types. -/
structure TurnT (B : Nat) (τ : TypeId → Prop) (w w' : World) : Prop where
  os : w'.os = w.os
  tape : w'.tape = w.tape
  output : w'.output = w.output
  size : w.heap.size ≤ w'.heap.size
  block : ∀ k, k < w.heap.size → w'.heap[k]? = w.heap[k]? ∨ (B ≤ k ∧ ∃ A T f, w.heap[k]? = some (.cells A T f) ∧ τ T ∧ ∃ A', w'.heap[k]? = some (.cells A' T f))
section
variable {B : Nat} {τ : TypeId → Prop} {w w' a b c : World}
theorem TurnT.of_ext (h : Ext w w') : TurnT B τ w w' := ⟨h.os, h.tape, h.output, h.size, fun k hk => .inl (h.block k hk)⟩
theorem TurnT.refl (w : World) : TurnT B τ w w := .of_ext (Ext.refl w)
theorem TurnT.trans (h : TurnT B τ a b) (k : TurnT B τ b c) : TurnT B τ a c :=
  ⟨k.os.trans h.os, k.tape.trans h.tape, k.output.trans h.output, Nat.le_trans h.size k.size, fun i hi => by
    rcases k.block i (Nat.lt_of_lt_of_le hi h.size) with e | ⟨h1, A, T, f, h2, h3, A', h4⟩
    · rcases h.block i hi with e' | ⟨h1, A, T, f, h2, h3, A', h4⟩
      · exact .inl (e.trans e')
      · exact .inr ⟨h1, A, T, f, h2, h3, A', e.trans h4⟩
    · rcases h.block i hi with e' | ⟨g1, A1, T1, f1, g2, g3, A1', g4⟩
      · exact .inr ⟨h1, A, T, f, e'.symm.trans h2, h3, A', h4⟩
      · rw [h2] at g4; cases g4
        exact .inr ⟨g1, A1, T, f, g2, g3, A', h4⟩⟩
theorem TurnT.setCell (W : World) {g : Nat} {A : Array Value} {T : TypeId} {f : Nat × Nat} (hB : B ≤ g) (hg : W.heap[g]? = some (.cells A T f)) (hT : τ T) (j : Nat) (u : Value) : TurnT B τ W (W.setCell ⟨g, j, none⟩ u) :=
  ⟨rfl, rfl, rfl, by simp [World.setCell], fun k hk => by
    by_cases e : k = g
    · subst e; exact .inr ⟨hB, A, T, f, hg, hT, _, heap_set hg j u⟩
    · exact .inl (Below.heap_setCell W _ u k e)⟩
theorem TurnT.drew (h : TurnT B τ a w) : TurnT B τ a w.drew := ⟨h.os, h.tape, h.output, h.size, h.block⟩
theorem TurnT.drewN (h : TurnT B τ a w) (n : Nat) : TurnT B τ a (w.drewN n) := h.trans (.of_ext (below_drewN (Ext.refl _) n))
theorem TurnT.heap (h : TurnT B τ w w') {g : Nat} {A : Array Value} {T : TypeId} {f : Nat × Nat} (hg : w.heap[g]? = some (.cells A T f)) (hT : ¬ (B ≤ g ∧ τ T)) : w'.heap[g]? = some (.cells A T f) := by
  rcases h.block g (heap_lt hg) with e | ⟨h1, A', T', f', h2, h3, _⟩
  · exact e.trans hg
  · rw [hg] at h2; cases h2; exact absurd ⟨h1, h3⟩ hT
theorem TurnT.other (h : TurnT B τ w w') {g : Nat} {o : Obj} (hg : w.heap[g]? = some o) (ho : o.isCells = false) : w'.heap[g]? = some o := by
  rcases h.block g (heap_lt hg) with e | ⟨h1, A', T', f', h2, h3, _⟩
  · exact e.trans hg
  · rw [hg] at h2; cases h2; cases ho
/-- What lay ahead of B lies as it lay. -/
theorem TurnT.ext (h : TurnT B τ w w') (he : Ext a w) (hB : a.heap.size ≤ B) : Ext a w' :=
  ⟨h.os.trans he.os, h.tape.trans he.tape, h.output.trans he.output, Nat.le_trans he.size h.size, fun k hk => by
    rcases h.block k (Nat.lt_of_lt_of_le hk he.size) with e | ⟨h1, _⟩
    · exact e.trans (he.block k hk)
    · omega⟩
theorem TurnT.mono {B' : Nat} {τ' : TypeId → Prop} (h : TurnT B τ w w') (hB : B' ≤ B) (hT : ∀ t, τ t → τ' t) : TurnT B' τ' w w' :=
  ⟨h.os, h.tape, h.output, h.size, fun k hk => by
    rcases h.block k hk with e | ⟨h1, A, T, f, h2, h3, h4⟩
    · exact .inl e
    · exact .inr ⟨Nat.le_trans hB h1, A, T, f, h2, hT _ h3, h4⟩⟩
end
end Go.QS
