/- Texts joined. -/
import Derived.RangeFuncNested
import Derived.Test.YtclcgelbcbnekaaDoorM04
import Derived.OwnWalkIn
import Derived.RangeFuncLeaves
import Derived.Sort.QuietIn
import Derived.Sort.CutIn
set_option linter.unusedVariables false
set_option linter.unusedSimpArgs false
/- A range over a function whose iterator keeps its state in cells of its own: what the iterator's own steps may turn is a relation St, which the caller's invariants abide. After the kit's own law (there only walks' objects may turn). No program. -/
namespace Go.QS
open Go Go.RowKit

/-- An iterator's contract: what the iterator itself does between two rounds is St; what a round keeps is Kp; Pre is what holds when it is called. -/
def SeqR {α : Type} (F : Fence) (n : Nat) (P : Program) (g : Nat) (lb : Array Value) (encs : α → Array Value) (St Kp : World → World → Prop) (S Sp : List α → Prop) (N : Nat) (Pre : World → Prop) : Prop :=
  ∀ (l : Nat) (J Jx : List α → World → Prop) (W : World), Pre W → (∀ s A B, J s A → St A B → J s B) → (∀ s A B, Jx s A → St A B → Jx s B) →
    (∀ pre x W1, J pre W1 → pre.length < N → YieldAt F (n - 1) P l (encs x) W1 fun e W' =>
      (e = .returned (.bool true) ∧ J (pre ++ [x]) W' ∧ Kp W1 W') ∨ (e = .returned (.bool false) ∧ Jx (pre ++ [x]) W')) →
    J [] W →
    CallsIn F n P g (#[.func (.yield l) #[] #[]] ++ lb) W fun e W' => (∃ v, e = .returned v) ∧ ((∃ xs, S xs ∧ J xs W') ∨ (∃ pre, Sp pre ∧ Jx pre W'))

theorem SeqR.pre {α : Type} {F : Fence} {n : Nat} {P : Program} {g : Nat} {lb : Array Value} {encs : α → Array Value} {St Kp : World → World → Prop} {S Sp : List α → Prop} {N : Nat} {Pre Pre' : World → Prop} (h : SeqR F n P g lb encs St Kp S Sp N Pre) (hp : ∀ W, Pre' W → Pre W) : SeqR F n P g lb encs St Kp S Sp N Pre' :=
  fun l J Jx W hW => h l J Jx W (hp W hW)

section
variable {F : Fence} {n : Nat} {P : Program}

/-- The statement over such an iterator. Bk: the law's own steps (a block that is no cells turns, at or beyond B) are kept by I, Ix, Ax, and count as kept by Kp. -/
theorem wpIn_rangeFunc_R {α : Type} {g : Operand} {ps : Array Tmp} {assign body : Code} {Q : Exit → Act → World → Prop} {a : Act} {w : World}
    (hro : F.round = none) (h1 : 1 ≤ n) {gf : Nat} {lb : Array Value} (hg : a.eval g = .func (.func gf) #[] lb) (hFg : F.fn gf) (eg : ∀ args w, (callFunc gf args).run P w = .ok (.enter gf args) w)
    {encs : α → Array Value} {St Kp : World → World → Prop} {S Sp : List α → Prop} {N : Nat} {Pre : World → Prop} (hseq : SeqR F (n - 1) P gf lb encs St Kp S Sp N Pre)
    (hSt : ∀ {A B : World} (k : Nat) (o : Obj), St A B → w.heap.size ≤ k → A.heap[k]? = some o → o.isCells = false → B.heap[k]? = some o)
    (hKt : ∀ {A B C : World}, Kp A B → Kp B C → Kp A C) (hKb : ∀ (W : World) (l : Nat) (o o' : Obj), w.heap.size ≤ l → W.heap[l]? = some o → o.isCells = false → o.isWalk = false → Kp W (W.putObj l o'))
    (hPre : ∀ r, Pre ((w.alloc (.deferred (some []))).alloc (.loop r))) (hps : ∀ x, (encs x).size = ps.size)
    (I : List α → World → Prop) (Ix : Code → List α → World → Prop) (hI : OwnFrom w.heap.size I) (hIx : ∀ c, OwnFrom w.heap.size (Ix c))
    (hIs : ∀ s A B, I s A → St A B → I s B) (hIxs : ∀ c s A B, Ix c s A → St A B → Ix c s B) (h0 : I [] w) (Ax : α → Act → World → Prop) (hAx : ∀ x a', OwnFrom w.heap.size (fun (_ : Unit) W => Ax x a' W))
    (hassign : ∀ (l : Nat) (pre : List α) (x : α) (W : World) (K : Act → World → Prop), I pre W → (∀ a' W', KeepsFrom w.heap.size W W' → Kp W W' → I pre W' → Ax x a' W' → K a' W') →
      assign.wpIn (F.inRound l) (n - 1 - 1) P (Exit.then K (fun _ _ _ => False)) { tmps := (ps.zip (encs x)).foldl (fun t (p, v) => t.setIfInBounds p v) a.tmps, defers := [] } W)
    (hbody : ∀ (l : Nat) (pre : List α) (x : α) (a' : Act) (W : World), w.heap.size ≤ l → (∃ r, W.heap[l]? = some (.loop r)) → I pre W → Ax x a' W → pre.length < N → body.wpIn (F.inRound l) (n - 1 - 1) P (ownPostG w.heap.size Kp I Ix (pre ++ [x]) W) a' W)
    (hdone : ∀ (D : Nat) (xs : List α) (W : World), w.heap.size ≤ D → S xs → I xs W → W.heap[D]? = some (.deferred (some [])) → Q .normal { a with defers := { target := .collected D, args := #[] } :: a.defers } W)
    (hstop : ∀ (D : Nat) (c : Code) (pre : List α) (W : World), w.heap.size ≤ D → Sp pre → Ix c pre W → W.heap[D]? = some (.deferred (some [])) → c.wpIn F n P Q { a with defers := { target := .collected D, args := #[] } :: a.defers } W) :
    (Code.rangeFunc g ps assign body).wpIn F n P Q a w := by
  refine wpIn_rangeFunc ?_
  intro fn hfn
  rw [hro]
  obtain ⟨rec, hrec⟩ : ∃ rec : LoopState → Option Code → Loop, rec = fun st pe => { state := st, pending := pe, fn, tmps := a.tmps, params := ps, assign, body, defers := w.heap.size } := ⟨_, rfl⟩
  have hPre1 := hPre (rec .ready none)
  obtain ⟨W1, hW1⟩ : ∃ W1, (w.alloc (.deferred (some []))).alloc (.loop (rec .ready none)) = W1 := ⟨_, rfl⟩
  rw [hW1] at hPre1
  have hL1 : W1.heap[w.heap.size + 1]? = some (.loop (rec .ready none)) := by
    rw [← hW1]; have := World.alloc_heap_new (w.alloc (.deferred (some []))) (.loop (rec .ready none)); rwa [World.size_alloc] at this
  have hK1 : W1.heap[w.heap.size]? = some (.deferred (some [])) := by
    rw [← hW1]; exact (Below.heap_alloc _ _ _ (by simp)).trans (World.alloc_heap_new w _)
  have hI1 : I [] W1 := by rw [← hW1]; exact hI.alloc _ (hI.alloc _ h0)
  refine ⟨w.heap.size + 1, [{ target := .collected w.heap.size, args := #[] }], W1, { target := .fn (.func gf) lb, args := #[.func (.yield (w.heap.size + 1)) #[] #[]] }, W1, gf,
    #[.func (.yield (w.heap.size + 1)) #[] #[]] ++ lb, W1, ?_, ?_, ?_, ?_, fun _ => h1, ?_⟩
  · rw [← hW1, hrec]; exact run_enterLoop_outer _ _ _ _ _
  · simp only [resolve, hg]
    simp [go_sem]
  · intro f' hf'; simp [Target.leads] at hf'; subst hf'; exact hFg
  · simp [invoke, go_sem, eg]
  · refine (hseq (w.heap.size + 1)
      (fun pre W => I pre W ∧ W.heap[w.heap.size + 1]? = some (.loop (rec .ready none)) ∧ W.heap[w.heap.size]? = some (.deferred (some [])))
      (fun pre W => ∃ c, Ix c pre W ∧ W.heap[w.heap.size + 1]? = some (.loop (rec .done (some c))) ∧ W.heap[w.heap.size]? = some (.deferred (some [])))
      W1 hPre1
      (fun s A B hs hst => ⟨hIs s A B hs.1 hst, hSt _ _ hst (by omega) hs.2.1 rfl, hSt _ _ hst (Nat.le_refl _) hs.2.2 rfl⟩)
      (fun s A B hs hst => by
        obtain ⟨c, hc, hl, hk⟩ := hs
        exact ⟨c, hIxs c s A B hc hst, hSt _ _ hst (by omega) hl rfl, hSt _ _ hst (Nat.le_refl _) hk rfl⟩)
      ?_ ⟨hI1, hL1, hK1⟩).mono ?_
    · rintro pre x W ⟨hi, hl, hk⟩ hlen
      have hlt : w.heap.size + 1 < W.heap.size := (Array.getElem?_eq_some_iff.1 hl).1
      have hy := run_yield (P := P) (args := encs x) hl (by rw [hrec]; exact hps x)
      rw [hrec] at hy
      refine ⟨fn, _, assign, body, hy, roundIn_of_wpIn hfn (hassign _ pre x W _ hi ?_)⟩
      clear hy
      intro a' Wa hkfa hkpa hia hax
      replace hl := hkfa.same _ _ (by omega) hl rfl
      replace hk := hkfa.same _ _ (Nat.le_refl _) hk rfl
      replace hlt : w.heap.size + 1 < Wa.heap.size := (Array.getElem?_eq_some_iff.1 hl).1
      replace hi := hia
      clear hia
      revert hkpa hkfa
      generalize W = Wb
      intro hkfa hkpa
      obtain ⟨W, rfl⟩ : ∃ W, W = Wa := ⟨_, rfl⟩
      refine ⟨_, run_beginRound hl (by rw [hrec]), ?_⟩
      have hl2 : (W.putObj (w.heap.size + 1) (.loop { rec .ready none with state := .busy })).heap[w.heap.size + 1]? = some (.loop { rec .ready none with state := .busy }) := World.putObj_heap_same hlt
      have hk2 : (W.putObj (w.heap.size + 1) (.loop { rec .ready none with state := .busy })).heap[w.heap.size]? = some (.deferred (some [])) := (World.putObj_heap_other (by omega)).trans hk
      have hw2 : Kp W (W.putObj (w.heap.size + 1) (.loop { rec .ready none with state := .busy })) := hKb _ _ _ _ (by omega) hl rfl rfl
      refine wpIn_mono (hbody _ pre x a' _ (by omega) ⟨_, hl2⟩ (hI.putObj _ hi (by omega) hl rfl) ((hAx x a').putObj (s := ()) _ hax (by omega) hl rfl) hlen) ?_
      have fin : ∀ (jump : Option Code) (W3 : World), KeepsFrom w.heap.size (W.putObj (w.heap.size + 1) (.loop { rec .ready none with state := .busy })) W3 →
          (Instr.endRound (w.heap.size + 1) jump).run P W3 = .ok (.bool jump.isNone) (W3.putObj (w.heap.size + 1) (.loop (rec (if jump.isNone then .ready else .done) jump))) ∧
          W3.heap[w.heap.size + 1]? = some (.loop { rec .ready none with state := .busy }) ∧
          (W3.putObj (w.heap.size + 1) (.loop (rec (if jump.isNone then .ready else .done) jump))).heap[w.heap.size + 1]? = some (.loop (rec (if jump.isNone then .ready else .done) jump)) ∧
          (W3.putObj (w.heap.size + 1) (.loop (rec (if jump.isNone then .ready else .done) jump))).heap[w.heap.size]? = some (.deferred (some [])) := fun jump W3 hk3 => by
        have hl3 := hk3.same _ _ (by omega) hl2 rfl
        have := run_endRound (P := P) jump hl3
        rw [hrec] at this ⊢
        exact ⟨this, by rw [hrec] at hl3; exact hl3, World.putObj_heap_same (Array.getElem?_eq_some_iff.1 hl3).1, (World.putObj_heap_other (by omega)).trans (hk3.same _ _ (Nat.le_refl _) hk2 rfl)⟩
      rintro e a3 W3 hp
      cases e with
      | normal =>
        obtain ⟨hk3, hkp3, hi3⟩ := hp
        obtain ⟨hr, hl3, hl4, hk4⟩ := fin none W3 hk3
        exact ⟨_, _, hr, .inl ⟨rfl, ⟨hI.putObj _ hi3 (by omega) hl3 rfl, hl4, hk4⟩, hKt hkpa (hKt (hKt hw2 hkp3) (hKb _ _ _ _ (by omega) hl3 rfl rfl))⟩⟩
      | ret =>
        obtain ⟨hk3, hi3⟩ := hp
        obtain ⟨hr, hl3, hl4, hk4⟩ := fin (some .ret) W3 hk3
        exact ⟨_, _, hr, .inr ⟨rfl, .ret, (hIx _).putObj _ hi3 (by omega) hl3 rfl, hl4, hk4⟩⟩
      | exit id =>
        obtain ⟨hk3, hi3⟩ := hp
        obtain ⟨hr, hl3, hl4, hk4⟩ := fin (some (.exit id)) W3 hk3
        exact ⟨_, _, hr, .inr ⟨rfl, .exit id, (hIx _).putObj _ hi3 (by omega) hl3 rfl, hl4, hk4⟩⟩
      | goto t =>
        obtain ⟨hk3, hi3⟩ := hp
        obtain ⟨hr, hl3, hl4, hk4⟩ := fin (some (.goto t)) W3 hk3
        exact ⟨_, _, hr, .inr ⟨rfl, .goto t, (hIx _).putObj _ hi3 (by omega) hl3 rfl, hl4, hk4⟩⟩
      | panic ch => exact hp.elim
      | outgrown => exact hp.elim
    · rintro e W2 ⟨⟨v, rfl⟩, (⟨xs, hS, hi, hl, hk⟩ | ⟨pre, hSp, c, hi, hl, hk⟩)⟩
      · exact ⟨none, _, by have := run_endLoop (P := P) hl (by rw [hrec]; simp); rw [hrec] at this; exact this, hdone _ xs _ (Nat.le_refl _) hS (hI.putObj _ hi (by omega) hl rfl) ((World.putObj_heap_other (by omega)).trans hk)⟩
      · exact ⟨some c, _, by have := run_endLoop (P := P) hl (by rw [hrec]; simp); rw [hrec] at this; exact this, hstop _ c pre _ (Nat.le_refl _) hSp ((hIx c).putObj _ hi (by omega) hl rfl) ((World.putObj_heap_other (by omega)).trans hk)⟩
/-- The same, where what a round's frame is may name the loop's own temporaries. -/
theorem wpIn_rangeFunc_RT {α : Type} {g : Operand} {ps : Array Tmp} {assign body : Code} {Q : Exit → Act → World → Prop} {a : Act} {w : World}
    (hro : F.round = none) (h1 : 1 ≤ n) {gf : Nat} {lb : Array Value} (hg : a.eval g = .func (.func gf) #[] lb) (hFg : F.fn gf) (eg : ∀ args w, (callFunc gf args).run P w = .ok (.enter gf args) w)
    {encs : α → Array Value} {St Kp : World → World → Prop} {S Sp : List α → Prop} {N : Nat} {Pre : World → Prop} (hseq : SeqR F (n - 1) P gf lb encs St Kp S Sp N Pre)
    (hSt : ∀ {A B : World} (k : Nat) (o : Obj), St A B → w.heap.size ≤ k → A.heap[k]? = some o → o.isCells = false → B.heap[k]? = some o)
    (hKt : ∀ {A B C : World}, Kp A B → Kp B C → Kp A C) (hKb : ∀ (W : World) (l : Nat) (o o' : Obj), w.heap.size ≤ l → W.heap[l]? = some o → o.isCells = false → o.isWalk = false → Kp W (W.putObj l o'))
    (hPre : ∀ r, Pre ((w.alloc (.deferred (some []))).alloc (.loop r))) (hps : ∀ x, (encs x).size = ps.size)
    (I : List α → World → Prop) (Ix : Code → List α → World → Prop) (hI : OwnFrom w.heap.size I) (hIx : ∀ c, OwnFrom w.heap.size (Ix c))
    (hIs : ∀ s A B, I s A → St A B → I s B) (hIxs : ∀ c s A B, Ix c s A → St A B → Ix c s B) (h0 : I [] w) (Ax : Array Value → α → Act → World → Prop) (hAx : ∀ x a', OwnFrom w.heap.size (fun (_ : Unit) W => Ax a.tmps x a' W))
    (hassign : ∀ (l : Nat) (pre : List α) (x : α) (W : World) (K : Act → World → Prop), I pre W → (∀ a' W', KeepsFrom w.heap.size W W' → Kp W W' → I pre W' → Ax a.tmps x a' W' → K a' W') →
      assign.wpIn (F.inRound l) (n - 1 - 1) P (Exit.then K (fun _ _ _ => False)) { tmps := (ps.zip (encs x)).foldl (fun t (p, v) => t.setIfInBounds p v) a.tmps, defers := [] } W)
    (hbody : ∀ (l : Nat) (pre : List α) (x : α) (a' : Act) (W : World), w.heap.size ≤ l → (∃ r, W.heap[l]? = some (.loop r)) → I pre W → Ax a.tmps x a' W → pre.length < N → body.wpIn (F.inRound l) (n - 1 - 1) P (ownPostG w.heap.size Kp I Ix (pre ++ [x]) W) a' W)
    (hdone : ∀ (D : Nat) (xs : List α) (W : World), w.heap.size ≤ D → S xs → I xs W → W.heap[D]? = some (.deferred (some [])) → Q .normal { a with defers := { target := .collected D, args := #[] } :: a.defers } W)
    (hstop : ∀ (D : Nat) (c : Code) (pre : List α) (W : World), w.heap.size ≤ D → Sp pre → Ix c pre W → W.heap[D]? = some (.deferred (some [])) → c.wpIn F n P Q { a with defers := { target := .collected D, args := #[] } :: a.defers } W) :
    (Code.rangeFunc g ps assign body).wpIn F n P Q a w := 
  wpIn_rangeFunc_R hro h1 hg hFg eg hseq hSt hKt hKb hPre hps I Ix hI hIx hIs hIxs h0 (Ax a.tmps) hAx hassign hbody hdone hstop
end

/-- What an iterator may turn: blocks at or beyond B that hold cells of such types. -/
structure TurnT (B : Nat) (τ : TypeId → Prop) (w w' : World) : Prop where
  os : w'.os = w.os
  tape : w'.tape = w.tape
  output : w'.output = w.output
  size : w.heap.size ≤ w'.heap.size
  block : ∀ k, k < w.heap.size → w'.heap[k]? = w.heap[k]? ∨ (B ≤ k ∧ ∃ A T f, w.heap[k]? = some (.cells A T f) ∧ τ T ∧ ∃ A', w'.heap[k]? = some (.cells A' T f))
section
variable {B : Nat} {τ : TypeId → Prop} {w w' a b c : World}
theorem TurnT.of_ext (h : Ext w w') : TurnT B τ w w' := ⟨h.os, h.tape, h.output, h.size, fun k hk => .inl (h.block k hk)⟩
theorem TurnT.refl (w : World) : TurnT B τ w w := .of_ext (Ext.refl w)
theorem TurnT.trans (h : TurnT B τ a b) (k : TurnT B τ b c) : TurnT B τ a c :=
  ⟨k.os.trans h.os, k.tape.trans h.tape, k.output.trans h.output, Nat.le_trans h.size k.size, fun i hi => by
    rcases k.block i (Nat.lt_of_lt_of_le hi h.size) with e | ⟨h1, A, T, f, h2, h3, A', h4⟩
    · rcases h.block i hi with e' | ⟨h1, A, T, f, h2, h3, A', h4⟩
      · exact .inl (e.trans e')
      · exact .inr ⟨h1, A, T, f, h2, h3, A', e.trans h4⟩
    · rcases h.block i hi with e' | ⟨g1, A1, T1, f1, g2, g3, A1', g4⟩
      · exact .inr ⟨h1, A, T, f, e'.symm.trans h2, h3, A', h4⟩
      · rw [h2] at g4; cases g4
        exact .inr ⟨g1, A1, T, f, g2, g3, A', h4⟩⟩
theorem TurnT.setCell (W : World) {g : Nat} {A : Array Value} {T : TypeId} {f : Nat × Nat} (hB : B ≤ g) (hg : W.heap[g]? = some (.cells A T f)) (hT : τ T) (j : Nat) (u : Value) : TurnT B τ W (W.setCell ⟨g, j, none⟩ u) :=
  ⟨rfl, rfl, rfl, by simp [World.setCell], fun k hk => by
    by_cases e : k = g
    · subst e; exact .inr ⟨hB, A, T, f, hg, hT, _, heap_set hg j u⟩
    · exact .inl (Below.heap_setCell W _ u k e)⟩
theorem TurnT.drew (h : TurnT B τ a w) : TurnT B τ a w.drew := ⟨h.os, h.tape, h.output, h.size, h.block⟩
theorem TurnT.drewN (h : TurnT B τ a w) (n : Nat) : TurnT B τ a (w.drewN n) := h.trans (.of_ext (below_drewN (Ext.refl _) n))
theorem TurnT.heap (h : TurnT B τ w w') {g : Nat} {A : Array Value} {T : TypeId} {f : Nat × Nat} (hg : w.heap[g]? = some (.cells A T f)) (hT : ¬ (B ≤ g ∧ τ T)) : w'.heap[g]? = some (.cells A T f) := by
  rcases h.block g (heap_lt hg) with e | ⟨h1, A', T', f', h2, h3, _⟩
  · exact e.trans hg
  · rw [hg] at h2; cases h2; exact absurd ⟨h1, h3⟩ hT
theorem TurnT.other (h : TurnT B τ w w') {g : Nat} {o : Obj} (hg : w.heap[g]? = some o) (ho : o.isCells = false) : w'.heap[g]? = some o := by
  rcases h.block g (heap_lt hg) with e | ⟨h1, A', T', f', h2, h3, _⟩
  · exact e.trans hg
  · rw [hg] at h2; cases h2; cases ho
/-- What lay ahead of B lies as it lay. -/
theorem TurnT.ext (h : TurnT B τ w w') (he : Ext a w) (hB : a.heap.size ≤ B) : Ext a w' :=
  ⟨h.os.trans he.os, h.tape.trans he.tape, h.output.trans he.output, Nat.le_trans he.size h.size, fun k hk => by
    rcases h.block k (Nat.lt_of_lt_of_le hk he.size) with e | ⟨h1, _⟩
    · exact e.trans (he.block k hk)
    · omega⟩
theorem TurnT.mono {B' : Nat} {τ' : TypeId → Prop} (h : TurnT B τ w w') (hB : B' ≤ B) (hT : ∀ t, τ t → τ' t) : TurnT B' τ' w w' :=
  ⟨h.os, h.tape, h.output, h.size, fun k hk => by
    rcases h.block k hk with e | ⟨h1, A, T, f, h2, h3, h4⟩
    · exact .inl e
    · exact .inr ⟨Nat.le_trans hB h1, A, T, f, h2, hT _ h3, h4⟩⟩
end
end Go.QS
/- What stays beside an iterator that keeps its state in cells: by the types of the blocks. No program. -/
namespace Go.QS
open Go Go.RowKit

/-- All objects that q tells stay. -/
structure KeepQ (q : Nat → Obj → Prop) (w w' : World) : Prop where
  os : w'.os = w.os
  tape : w'.tape = w.tape
  output : w'.output = w.output
  size : w.heap.size ≤ w'.heap.size
  blk : ∀ k o, w.heap[k]? = some o → q k o → w'.heap[k]? = some o

def inT (τ : TypeId → Prop) (o : Obj) : Prop := ∃ A T f, o = .cells A T f ∧ τ T
/-- What an iterator's own steps keep: all but its own blocks, that lie at or beyond B, of types τ. -/
abbrev StT (B : Nat) (τ : TypeId → Prop) : World → World → Prop := KeepQ fun k o => k < B ∨ ¬ inT τ o
/-- What a round keeps: what lay ahead of B, and the iterator's own blocks. -/
abbrev KpT (B : Nat) (τ : TypeId → Prop) : World → World → Prop := KeepQ fun k o => k < B ∨ inT τ o

section
variable {q : Nat → Obj → Prop} {w w' a b c : World} {B : Nat} {τ : TypeId → Prop}
theorem KeepQ.of_ext (h : Ext w w') : KeepQ q w w' := ⟨h.os, h.tape, h.output, h.size, fun k _ hk _ => (h.block k (heap_lt hk)).trans hk⟩
theorem KeepQ.refl (w : World) : KeepQ q w w := .of_ext (Ext.refl w)
theorem KeepQ.trans (h : KeepQ q a b) (k : KeepQ q b c) : KeepQ q a c :=
  ⟨k.os.trans h.os, k.tape.trans h.tape, k.output.trans h.output, Nat.le_trans h.size k.size, fun i o hi hq => k.blk i o (h.blk i o hi hq) hq⟩
theorem KeepQ.mono {q' : Nat → Obj → Prop} (h : KeepQ q w w') (hq : ∀ k o, q' k o → q k o) : KeepQ q' w w' := ⟨h.os, h.tape, h.output, h.size, fun k o hk h' => h.blk k o hk (hq k o h')⟩
/-- What lay ahead of B lies as it lay. -/
theorem KeepQ.ext (h : KeepQ q w w') (hq : ∀ k o, k < B → q k o) {W : World} (he : Ext W w) (hB : W.heap.size ≤ B) : Ext W w' :=
  ⟨h.os.trans he.os, h.tape.trans he.tape, h.output.trans he.output, Nat.le_trans he.size h.size, fun k hk => by
    obtain ⟨o, ho⟩ : ∃ o, w.heap[k]? = some o := ⟨_, Array.getElem?_eq_getElem (Nat.lt_of_lt_of_le hk he.size)⟩
    exact (h.blk k o ho (hq k o (by omega))).trans (ho.symm.trans (he.block k hk))⟩
theorem stT_ext (h : StT B τ w w') {W : World} (he : Ext W w) (hB : W.heap.size ≤ B) : Ext W w' := h.ext (fun _ _ hk => .inl hk) he hB
theorem kpT_ext (h : KpT B τ w w') {W : World} (he : Ext W w) (hB : W.heap.size ≤ B) : Ext W w' := h.ext (fun _ _ hk => .inl hk) he hB
/-- A block of another type stays beside an iterator. -/
theorem stT_heap (h : StT B τ w w') {g : Nat} {A : Array Value} {T : TypeId} {f : Nat × Nat} (hg : w.heap[g]? = some (.cells A T f)) (hT : ¬ τ T) : w'.heap[g]? = some (.cells A T f) :=
  h.blk g _ hg (.inr (by rintro ⟨A', T', f', e, h'⟩; cases e; exact hT h'))
theorem stT_other (h : StT B τ w w') {g : Nat} {o : Obj} (hg : w.heap[g]? = some o) (ho : o.isCells = false) : w'.heap[g]? = some o :=
  h.blk g _ hg (.inr (by rintro ⟨A', T', f', e, h'⟩; subst e; cases ho))
theorem kpT_heap (h : KpT B τ w w') {g : Nat} {A : Array Value} {T : TypeId} {f : Nat × Nat} (hg : w.heap[g]? = some (.cells A T f)) (hT : τ T) : w'.heap[g]? = some (.cells A T f) :=
  h.blk g _ hg (.inr ⟨A, T, f, rfl, hT⟩)
/-- An iterator's step: blocks of its own types alone turn. -/
theorem stT_of (h1 : w'.os = w.os) (h2 : w'.tape = w.tape) (h3 : w'.output = w.output) (h4 : w.heap.size ≤ w'.heap.size)
    (h : ∀ k, k < w.heap.size → (B ≤ k ∧ ∃ o, w.heap[k]? = some o ∧ inT τ o) ∨ w'.heap[k]? = w.heap[k]?) : StT B τ w w' :=
  ⟨h1, h2, h3, h4, fun k o hk hq => by
    rcases h k (heap_lt hk) with ⟨hB, o', ho, hi⟩ | e
    · rw [hk] at ho; cases ho
      rcases hq with hq | hq
      · omega
      · exact absurd hi hq
    · exact e.trans hk⟩
theorem kpT_set (W : World) {g : Nat} (j : Nat) (v : Value) (hB : B ≤ g) (hg : ∀ o, W.heap[g]? = some o → ¬ inT τ o) : KpT B τ W (W.setCell ⟨g, j, none⟩ v) :=
  ⟨rfl, rfl, rfl, by simp [World.setCell], fun k o hk hq => by
    by_cases e : k = g
    · subst e
      rcases hq with hq | hq
      · omega
      · exact absurd hq (hg o hk)
    · exact (Below.heap_setCell W _ v k e).trans hk⟩
theorem not_inT {A : Array Value} {T : TypeId} {f : Nat × Nat} (hT : ¬ τ T) : ¬ inT τ (.cells A T f) := by rintro ⟨A', T', f', e, h'⟩; cases e; exact hT h'
theorem kpT_box (W : World) {g : Nat} {A : Array Value} {T : TypeId} {f : Nat × Nat} (hg : W.heap[g]? = some (.cells A T f)) (j : Nat) (v : Value) (hB : B ≤ g) (hT : ¬ τ T) : KpT B τ W (W.setCell ⟨g, j, none⟩ v) :=
  kpT_set W j v hB (fun o ho => by rw [hg] at ho; cases ho; exact not_inT hT)
theorem kpT_grown {row : Option Nat} (h : w.grownBy w' row) (hr : ∀ k, row = some k → B ≤ k ∧ ∀ o, w.heap[k]? = some o → ¬ inT τ o) : KpT B τ w w' :=
  ⟨h.os, h.tape, h.output, h.size, fun k o hk hq => by
    by_cases e : some k = row
    · obtain ⟨h1, h2⟩ := hr k e.symm
      rcases hq with hq | hq
      · omega
      · exact absurd hq (h2 o hk)
    · exact (h.block k (heap_lt hk) e).trans hk⟩
theorem kpT_t {A B' C : World} (h : KpT B τ A B') (k : KpT B τ B' C) : KpT B τ A C := h.trans k
theorem kpT_b {W0 : World} (hB : B ≤ W0.heap.size) (W : World) (l : Nat) (o o' : Obj) (hl : W0.heap.size ≤ l) (h : W.heap[l]? = some o) (hc : o.isCells = false) (_ : o.isWalk = false) : KpT B τ W (W.putObj l o') :=
  kpT_grown (grownBy_putObj' W l o') (fun k e => by cases e; exact ⟨by omega, fun o1 ho => by rw [h] at ho; cases ho; rintro ⟨A, T, f, e, _⟩; subst e; cases hc⟩)

/-- A row of one's own stays where its block does. -/
theorem row_of_heap {base n : Nat} {e : TypeId} {k : Nat} {v : Value} {xs : List Value} (h : w.ownsRow base e k v n xs) (hk : ∀ g A f, v.ownBlock = some g → w.heap[g]? = some (.cells A e f) → w'.heap[g]? = some (.cells A e f)) : w'.ownsRow base e k v n xs := by
  refine ⟨h.1, ?_⟩
  rcases h.2 with h1 | ⟨g, cap, cur, rfl, h2, h3, h4⟩
  · exact .inl h1
  · exact .inr ⟨g, cap, cur, rfl, h2, hk g _ _ rfl h3, h4⟩
theorem row_stT {base n : Nat} {e : TypeId} {k : Nat} {v : Value} {xs : List Value} (h : w.ownsRow base e k v n xs) (hs : StT B τ w w') (he : ¬ τ e) : w'.ownsRow base e k v n xs :=
  row_of_heap h fun _ _ _ _ hg => stT_heap hs hg he
theorem row_kpT {base n : Nat} {e : TypeId} {k : Nat} {v : Value} {xs : List Value} (h : w.ownsRow base e k v n xs) (hs : KpT B τ w w') (he : τ e) : w'.ownsRow base e k v n xs :=
  row_of_heap h fun _ _ _ _ hg => kpT_heap hs hg he
theorem row_is {base n : Nat} {e : TypeId} {k : Nat} {v : Value} {xs : List Value} (h : w.ownsRow base e k v n xs) {g : Nat} (hg : v.ownBlock = some g) : base ≤ g ∧ ∃ A f, w.heap[g]? = some (.cells A e f) := by
  rcases h.2 with ⟨rfl, _⟩ | ⟨g', cap, cur, rfl, h2, h3, h4⟩
  · cases hg
  · cases hg; exact ⟨h2, _, _, h3⟩

theorem heap_newG (w : World) (o : Obj) : (w.alloc o).heap[w.heap.size]? = some o := by
  have := World.alloc_heap_new w o
  exact this
theorem cellG {g : Nat} {cs : Array Value} {T : TypeId} {f : Nat × Nat} (h : w.heap[g]? = some (.cells cs T f)) (j : Nat) : w.cell? ⟨g, j, none⟩ = cs[j]? := by simp [World.cell?, h]
theorem freeG {g : Nat} {cs : Array Value} {T : TypeId} (h : w.heap[g]? = some (.cells cs T (0, 0))) (j : Nat) : w.frozen? ⟨g, j, none⟩ = false := by simp [World.frozen?, h]
theorem box_extG {g : Nat} {o : Obj} (h : w.heap[g]? = some o) (f : Ext w w') : w'.heap[g]? = some o := (f.block g (heap_lt h)).trans h
theorem row_extG {base n : Nat} {e : TypeId} {k : Nat} {v : Value} {xs : List Value} (h : w.ownsRow base e k v n xs) (f : Ext w w') : w'.ownsRow base e k v n xs :=
  row_of_heap h fun _ _ _ _ hg => box_extG hg f

/-- What is cells abides the turn of what is none. -/
theorem heap_own {W W' : World} {row : Option Nat} {g : Nat} {A : Array Value} {T : TypeId} {f : Nat × Nat} (hs : W.heap[g]? = some (.cells A T f)) (hg : W.grownBy W' row) (hr : ∀ r, row = some r → ∃ o : Obj, W.heap[r]? = some o ∧ o.isCells = false) : W'.heap[g]? = some (.cells A T f) := by
  refine (hg.block g (heap_lt hs) ?_).trans hs
  intro e
  obtain ⟨o, ho, hc⟩ := hr g e.symm
  rw [hs] at ho; cases ho; cases hc
theorem row_own {W W' : World} {row : Option Nat} {base n : Nat} {e : TypeId} {k : Nat} {v : Value} {xs : List Value} (hs : W.ownsRow base e k v n xs) (hg : W.grownBy W' row) (hr : ∀ r, row = some r → ∃ o : Obj, W.heap[r]? = some o ∧ o.isCells = false) : W'.ownsRow base e k v n xs :=
  row_of_heap hs fun _ _ _ _ h => heap_own h hg hr
theorem ext_own {W0 W W' : World} {row : Option Nat} {B' : Nat} (hs : Ext W0 W) (hg : W.grownBy W' row) (hB : W0.heap.size ≤ B') (hr : ∀ r, row = some r → B' ≤ r) : Ext W0 W' :=
  hs.grown hg hs.size fun k e => Nat.le_trans hB (hr k e)
end
/-- Append of a source that reads as cells, onto a row of the call's own: inside a fence. -/
theorem wpListIn_app {F : Fence} {fn : Nat} {P : Program} {w : World} {ops : Array Oper} {rest : List Oper} {o : Oper} {a : Act} {Q : Exit → Act → World → Prop} (hgd : o.guard = none) (s x : Operand) (t : TypeId)
    (ho : o.op = .call { callee := .builtin .append, args := #[s, x], argTypes := #[t, t] })
    (base : Nat) (e : TypeId) (size bytes : Nat) (ht : P.underlying t = some (.slice e)) (hi : ∃ i z, P.info? e = some i ∧ i.zero = some z ∧ i.size = size ∧ i.bytes = bytes ∧ z.cells.size = size) (hsz : 0 < size)
    (v : Value) (n : Nat) (xs : List Value) (hs : a.eval s = v) (hown : w.ownsRow base e size v n xs)
    (A : Option Addr) (m c : Nat) (news : List Value) (hx : a.eval x = .slice A m c) (hl : news.length = m * size) (hr : Seg w A news) (h1 : ∀ u ∈ news, u.oneCell' = true)
    (h63 : n + m ≤ maxLen) (hbytes : (n + m) * bytes ≤ 140737488355328) (hbase : base ≤ w.heap.size)
    (h : ∀ v' w', w'.ownsRow base e size v' (n + m) (xs ++ news) → w.grownBy w' v.ownBlock → (v'.ownBlock = v.ownBlock ∨ v'.ownBlock = some w.heap.size) → wpListIn F fn P ops Q rest (a.put o.dst v') w') : wpListIn F fn P ops Q (o :: rest) a w := by
  refine wpListIn_plain hgd fun K hK' => ?_
  obtain ⟨i, z, hi, hz, hsize, hby, hzs⟩ := hi
  obtain ⟨v', w', hrun, h2, h3, h4⟩ := run_app (P := P) w base t o.type e i z size bytes ht hi hz hsize hby hzs hsz v n xs hown A m c news hl hr h1 h63 hbytes hbase
  unfold Oper.wpIn
  refine ⟨?_, ?_⟩
  · simp [Oper.about, ho, resolve, Target.leads, Sem.run_pure]
  · rw [Oper.semAt_plain F _ _ (by rw [ho]; intro c hc'; cases hc')]
    simp [execOp, ho, resolve, invoke, builtin, hs, hx, hrun, Result.andThen]
    exact hK' _ _ (h v' w' h2 h3 h4)
/-! A function whose body holds a range over a function, walked as any other. -/
abbrev postM (P : Program) (fn : Func) (R : Ending → World → Prop) : Exit → Act → World → Prop := bodyPostM Fence.wide 5 P fn R
theorem calls_of_wp_marks {P : Program} {f : FuncId} {fn : Func} {c : Code} {args : Array Value} {w : World} {R : Ending → World → Prop}
    (hf : P.funcs[f]? = some fn) (hb : fn.body = some c)
    (h : c.wp P (postM P fn R) { tmps := args ++ Array.replicate (fn.ntmps - args.size) undef, defers := [] } w) : Calls P f args w R :=
  (callsIn_wide (n := 5)).1 (callsIn_of_wp_marks hf hb trivial ((wpIn_wide (n := 5)).2 h) rfl)
theorem postM_ret0 {P : Program} {fn : Func} {R : Ending → World → Prop} {a : Act} {w : World} {v : Value} (h : (results fn a.tmps).run P w = .ok v w) (hd : a.defers = []) (hr : R (.returned v) w) : postM P fn R .ret a w := by
  show LeavesInM _ _ _ _ _ _ a.defers _ _
  rw [hd]
  exact ⟨v, h, hr⟩
theorem postM_ret1 {P : Program} {fn : Func} {R : Ending → World → Prop} {a : Act} {w : World} {v : Value} {D : Nat} (h : (results fn a.tmps).run P (w.putObj D (.deferred none)) = .ok v (w.putObj D (.deferred none))) (hd : a.defers = [{ target := .collected D, args := #[] }]) (hK : w.heap[D]? = some (.deferred (some [])))
    (hr : R (.returned v) (w.putObj D (.deferred none))) : postM P fn R .ret a w := by
  show LeavesInM _ _ _ _ _ _ a.defers _ _
  rw [hd]
  exact ⟨by simp, .inl ⟨_, _, rfl, run_takeDeferred hK, ⟨v, h, hr⟩⟩⟩
theorem results_box1 {P : Program} {fn : Func} {p : Tmp} {ty : TypeId} (h : fn.results = #[.cell p ty]) (tmps : Array Value) (w : World) (g : Nat) (v : Value) (T : TypeId) (f : Nat × Nat) (d : TypeDesc)
    (hp : tmps.getD p undef = .pointer (some ⟨g, 0, none⟩)) (hg : w.heap[g]? = some (.cells #[v] T f)) (hu : P.underlying ty = some d) (hd : (match d with | .struct _ | .array _ _ => true | _ => false) = false) :
    (results fn tmps).run P w = .ok v w := by
  have hp' : tmps[p]?.getD undef = .pointer (some ⟨g, 0, none⟩) := by simpa using hp
  have hagg : (isAgg ty).run P w = .ok false w := by
    unfold isAgg
    rw [Sem.run_bind, run_underlying hu w]
    cases d <;> simp_all
  have hc : w.cell? ⟨g, 0, none⟩ = some v := by rw [cellG hg]; rfl
  simp [results, h, hp', asAddr, loadVar, hagg, hc, go_sem]
end Go.QS
/- A region that draws its order, within a round of a range over a function: the quiet walk serves there too. No program. -/
namespace Go.QS
open Go Go.RowKit

def noDefer (ops : Array Oper) : Bool := ops.toList.all fun o => match o.op with | .defer _ => false | _ => true
section
variable {F : Fence} {n : Nat} {P : Program} {ops : Array Oper} {Q : Exit → Act → World → Prop}
theorem wpIn_inRound {o : Oper} (hro : F.round = none) (hd : ∀ c, o.op ≠ .defer c) {a : Act} {w : World} {K : Act → World → Prop} (l : Nat) (h : o.wpIn F n P a w K Q) : o.wpIn (F.inRound l) n P a w K Q := by
  unfold Oper.wpIn at h ⊢
  rw [Oper.semAt_plain F _ _ hd] at h
  rw [Oper.semAt_plain (F.inRound l) _ _ hd]
  exact h
theorem wpOpIn_inRound (hro : F.round = none) (hd : noDefer ops = true) (l : Nat) {i : Nat} {a : Act} {w : World} {K : Act → World → Prop} (h : wpOpIn F n P ops Q i K a w) : wpOpIn (F.inRound l) n P ops Q i K a w := by
  unfold wpOpIn at h ⊢
  cases ho : ops[i]? with
  | none => simpa [ho] using h
  | some o =>
    simp only [ho] at h ⊢
    have hn : ∀ c, o.op ≠ .defer c := by
      have hm : o ∈ ops.toList := by
        have := (Array.getElem?_eq_some_iff.1 ho)
        obtain ⟨h1, rfl⟩ := this
        simp
      have := (List.all_eq_true.1 hd) o hm
      intro c hc
      rw [hc] at this
      cases this
    split
    · rename_i hw; rw [if_pos hw] at h; exact wpIn_inRound hro hn l h
    · rename_i hw; rw [if_neg hw] at h; exact h
theorem wpAnyIn_inRound {md : Region.Mode} (hro : F.round = none) (hd : noDefer ops = true) (l : Nat) : ∀ (fuel : Nat) (listed : Array Bool) (a : Act) (w : World), wpAnyIn F n P md ops Q fuel listed a w → wpAnyIn (F.inRound l) n P md ops Q fuel listed a w
  | 0, _, _, _, h => h
  | fuel + 1, _, _, _, h => ⟨h.1, fun i hi => wpOpIn_inRound hro hd l (wpOpIn_mono (fun a w => wpAnyIn_inRound hro hd l fuel _ a w) (h.2 i hi))⟩

theorem wpIn_region_quiet_round {id : Nat} {a : Act} {w : World} {l : List Oper} (r : Nat) (hro : F.round = none) (hm : P.follows .mixedOrders = true) (hB : Region.lexB .any l.toArray = true) (hd : noDefer l.toArray = true)
    (h : wpQuietIn F n P l.toArray (fun w' => ∃ n, w' = w.drewN n) (fun a' => ∀ w', (∃ n, w' = w.drewN n) → Q .normal a' w') l a) : (Code.region id l.toArray true).wpIn (F.inRound r) n P Q a w := by
  simp only [Region.lexB, Bool.and_eq_true] at hB
  refine wpIn_region_any hm (wpAnyIn_inRound hro hd r _ _ _ _ (wpAnyIn_of_quiet (C := fun w' => ∃ n, w' = w.drewN n) (Q := fun a' => ∀ w', (∃ n, w' = w.drewN n) → Q .normal a' w') hro (fun _ w' hw' h => h w' hw') _ _ _ _ ⟨1, rfl⟩ ?_))
  have := wpAnyQIn_lex (F := F) (n := n) (C := fun w' => ∃ n, w' = w.drewN n) (md := .any) hB.1 l 0 (Array.replicate l.toArray.size false) a (by simp) (by simpa using hB.2) h
  simpa using this
end
end Go.QS
