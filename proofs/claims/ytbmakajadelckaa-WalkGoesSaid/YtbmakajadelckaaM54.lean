/- Texts joined. -/
import Derived.Test.YtbmakajadelckaaM27
import Derived.Sort.Row
import Derived.Sort.QuietIn
import Derived.Sort.CutIn
set_option linter.unusedVariables false
set_option linter.unusedSimpArgs false
/- What a round keeps beside an iterator that keeps its state in cells: all cells but the body's own blocks, which a predicate on the world tells. No program. -/
namespace Go.QS
open Go Go.RowKit

/-- All that lay ahead of B stays, all cells stay but the blocks of Bx; these turn to new blocks alone. -/
structure KpO (B : Nat) (Bx : World → Nat → Prop) (w w' : World) : Prop where
  os : w'.os = w.os
  tape : w'.tape = w.tape
  output : w'.output = w.output
  size : w.heap.size ≤ w'.heap.size
  old : ∀ k o, k < B → w.heap[k]? = some o → w'.heap[k]? = some o
  blk : ∀ k A T f, w.heap[k]? = some (.cells A T f) → ¬ Bx w k → w'.heap[k]? = some (.cells A T f)
  bx : ∀ k, Bx w' k → Bx w k ∨ w.heap.size ≤ k
  lt : (∀ k, Bx w k → k < w.heap.size) → ∀ k, Bx w' k → k < w'.heap.size

section
variable {B : Nat} {Bx : World → Nat → Prop} {a b c w w' : World}
theorem KpO.trans (h : KpO B Bx a b) (k : KpO B Bx b c) : KpO B Bx a c :=
  ⟨k.os.trans h.os, k.tape.trans h.tape, k.output.trans h.output, Nat.le_trans h.size k.size, fun i o hi ho => k.old i o hi (h.old i o hi ho),
   fun i A T f hi hn => k.blk i A T f (h.blk i A T f hi hn) fun hb => (h.bx i hb).elim hn fun hs => by have := heap_lt hi; omega,
   fun i hi => (k.bx i hi).elim (fun hb => h.bx i hb) fun hs => .inr (Nat.le_trans h.size hs), fun hl => k.lt (h.lt hl)⟩
theorem kpO_t {A B' C : World} (h : KpO B Bx A B') (k : KpO B Bx B' C) : KpO B Bx A C := h.trans k
theorem KpO.ext (h : KpO B Bx w w') {W : World} (he : Ext W w) (hB : W.heap.size ≤ B) : Ext W w' :=
  ⟨h.os.trans he.os, h.tape.trans he.tape, h.output.trans he.output, Nat.le_trans he.size h.size, fun k hk => by
    obtain ⟨o, ho⟩ : ∃ o, w.heap[k]? = some o := ⟨_, Array.getElem?_eq_getElem (Nat.lt_of_lt_of_le hk he.size)⟩
    exact (h.old k o (by omega) ho).trans (ho.symm.trans (he.block k hk))⟩
theorem kpO_b {W0 : World} (hB : B ≤ W0.heap.size) (hbx : ∀ (W : World) (l : Nat) (o o' : Obj), W0.heap.size ≤ l → W.heap[l]? = some o → o.isCells = false → ∀ k, Bx (W.putObj l o') k → Bx W k) (W : World) (l : Nat) (o o' : Obj) (hl : W0.heap.size ≤ l) (h : W.heap[l]? = some o) (hc : o.isCells = false) (_ : o.isWalk = false) : KpO B Bx W (W.putObj l o') := by
  have hg := grownBy_putObj' W l o'
  refine ⟨hg.os, hg.tape, hg.output, hg.size, fun k o1 hk ho => (hg.block k (heap_lt ho) (fun e => by cases e; omega)).trans ho, fun k A T f hk hn => (hg.block k (heap_lt hk) (fun e => ?_)).trans hk, fun k hk => .inl (hbx W l o o' hl h hc k hk), fun hlt k hk => Nat.lt_of_lt_of_le (hlt k (hbx W l o o' hl h hc k hk)) hg.size⟩
  cases e
  rw [h] at hk; cases hk; cases hc
/-- A store into one block of Bx; new blocks. -/
theorem KpO.of_ext (h : Ext w w') (hbx : ∀ k, Bx w' k → Bx w k ∨ (w.heap.size ≤ k ∧ k < w'.heap.size)) : KpO B Bx w w' :=
  ⟨h.os, h.tape, h.output, h.size, fun k o _ ho => (h.block k (heap_lt ho)).trans ho, fun k A T f hk _ => (h.block k (heap_lt hk)).trans hk, fun k hk => (hbx k hk).imp id And.left, fun hl k hk => (hbx k hk).elim (fun hb => Nat.lt_of_lt_of_le (hl k hb) h.size) And.right⟩
theorem KpO.of_grown {row : Option Nat} (h : w.grownBy w' row) (hr : ∀ k, row = some k → B ≤ k ∧ Bx w k) (hbx : ∀ k, Bx w' k → Bx w k ∨ (w.heap.size ≤ k ∧ k < w'.heap.size)) : KpO B Bx w w' :=
  ⟨h.os, h.tape, h.output, h.size, fun k o hk ho => (h.block k (heap_lt ho) (fun e => by have := (hr k e.symm).1; omega)).trans ho, fun k A T f hk hn => (h.block k (heap_lt hk) (fun e => hn (hr k e.symm).2)).trans hk,
   fun k hk => (hbx k hk).imp id And.left, fun hl k hk => (hbx k hk).elim (fun hb => Nat.lt_of_lt_of_le (hl k hb) h.size) And.right⟩
theorem KpO.of_set {g j : Nat} {v : Value} (hg : g < w.heap.size) (hB : B ≤ g) (hb : Bx w g) (hbx : ∀ k, Bx (w.setCell ⟨g, j, none⟩ v) k → Bx w k) : KpO B Bx w (w.setCell ⟨g, j, none⟩ v) :=
  ⟨rfl, rfl, rfl, by simp [World.setCell], fun k o hk ho => (Below.heap_setCell w _ v k (fun (e : k = g) => by omega)).trans ho, fun k A T f hk hn => (Below.heap_setCell w _ v k (fun (e : k = g) => hn (by rw [e]; exact hb))).trans hk,
   fun k hk => .inl (hbx k hk), fun hl k hk => by have := hl k (hbx k hk); simpa [World.setCell] using this⟩
/-- A row of one's own stays beside a round. -/
theorem row_kpO {base n : Nat} {e : TypeId} {k : Nat} {v : Value} {xs : List Value} (h : w.ownsRow base e k v n xs) (hs : KpO B Bx w w') (he : ∀ g, v.ownBlock = some g → ¬ Bx w g) : w'.ownsRow base e k v n xs :=
  row_of_heap h fun _ _ _ ho hg => hs.blk _ _ _ _ hg (he _ ho)
theorem cell_kpO {g j : Nat} {u : Value} (hu : w.cell? ⟨g, j, none⟩ = some u) (hs : KpO B Bx w w') (he : ¬ Bx w g) : w'.cell? ⟨g, j, none⟩ = some u := by
  obtain ⟨A, T, f, h1, h2⟩ := Sort.cells_of_cell? hu
  have := hs.blk _ _ _ _ h1 he
  simp [World.cell?, this, h2]
/-- A slice stays where the blocks that it reads do. -/
theorem sl_kpO {k n : Nat} {v : Value} {xs : List Value} (h : Sl w k v n xs) (hs : KpO B Bx w w') (he : ∀ g, v.ownBlock = some g → ¬ Bx w g) : Sl w' k v n xs := by
  obtain ⟨A, C, rfl, h1, h2, h3, h4⟩ := h
  refine ⟨A, C, rfl, h1, h2, h3, fun hne => ?_⟩
  obtain ⟨b, o, rfl, hc⟩ := h4 hne
  exact ⟨b, o, rfl, fun j u hu => cell_kpO (hc j u hu) hs (he b rfl)⟩
end
end Go.QS
/- A region that draws its order, within a round of a range over a function: the quiet walk serves there too. No program. -/
namespace Go.QS
open Go Go.RowKit

def noDefer (ops : Array Oper) : Bool := ops.toList.all fun o => match o.op with | .defer _ => false | _ => true
section
variable {F : Fence} {n : Nat} {P : Program} {ops : Array Oper} {Q : Exit → Act → World → Prop}
theorem wpIn_inRound {o : Oper} (hro : F.round = none) (hd : ∀ c, o.op ≠ .defer c) {a : Act} {w : World} {K : Act → World → Prop} (l : Nat) (h : o.wpIn F n P a w K Q) : o.wpIn (F.inRound l) n P a w K Q := by
  unfold Oper.wpIn at h ⊢
  rw [Oper.semAt_plain F _ _ hd] at h
  rw [Oper.semAt_plain (F.inRound l) _ _ hd]
  exact h
theorem wpOpIn_inRound (hro : F.round = none) (hd : noDefer ops = true) (l : Nat) {i : Nat} {a : Act} {w : World} {K : Act → World → Prop} (h : wpOpIn F n P ops Q i K a w) : wpOpIn (F.inRound l) n P ops Q i K a w := by
  unfold wpOpIn at h ⊢
  cases ho : ops[i]? with
  | none => simpa [ho] using h
  | some o =>
    simp only [ho] at h ⊢
    have hn : ∀ c, o.op ≠ .defer c := by
      have hm : o ∈ ops.toList := by
        have := (Array.getElem?_eq_some_iff.1 ho)
        obtain ⟨h1, rfl⟩ := this
        simp
      have := (List.all_eq_true.1 hd) o hm
      intro c hc
      rw [hc] at this
      cases this
    split
    · rename_i hw; rw [if_pos hw] at h; exact wpIn_inRound hro hn l h
    · rename_i hw; rw [if_neg hw] at h; exact h
theorem wpAnyIn_inRound {md : Region.Mode} (hro : F.round = none) (hd : noDefer ops = true) (l : Nat) : ∀ (fuel : Nat) (listed : Array Bool) (a : Act) (w : World), wpAnyIn F n P md ops Q fuel listed a w → wpAnyIn (F.inRound l) n P md ops Q fuel listed a w
  | 0, _, _, _, h => h
  | fuel + 1, _, _, _, h => ⟨h.1, fun i hi => wpOpIn_inRound hro hd l (wpOpIn_mono (fun a w => wpAnyIn_inRound hro hd l fuel _ a w) (h.2 i hi))⟩

theorem wpIn_region_quiet_round {id : Nat} {a : Act} {w : World} {l : List Oper} (r : Nat) (hro : F.round = none) (hm : P.follows .mixedOrders = true) (hB : Region.lexB .any l.toArray = true) (hd : noDefer l.toArray = true)
    (h : wpQuietIn F n P l.toArray (fun w' => ∃ n, w' = w.drewN n) (fun a' => ∀ w', (∃ n, w' = w.drewN n) → Q .normal a' w') l a) : (Code.region id l.toArray true).wpIn (F.inRound r) n P Q a w := by
  simp only [Region.lexB, Bool.and_eq_true] at hB
  refine wpIn_region_any hm (wpAnyIn_inRound hro hd r _ _ _ _ (wpAnyIn_of_quiet (C := fun w' => ∃ n, w' = w.drewN n) (Q := fun a' => ∀ w', (∃ n, w' = w.drewN n) → Q .normal a' w') hro (fun _ w' hw' h => h w' hw') _ _ _ _ ⟨1, rfl⟩ ?_))
  have := wpAnyQIn_lex (F := F) (n := n) (C := fun w' => ∃ n, w' = w.drewN n) (md := .any) hB.1 l 0 (Array.replicate l.toArray.size false) a (by simp) (by simpa using hB.2) h
  simpa using this
end
end Go.QS
