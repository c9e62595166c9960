/- The document's trie: what its cells hold, chunk by chunk (plain). -/
import Derived.Test.YtkfiinmoecibcaaM21
set_option linter.unusedVariables false
set_option linter.unusedSimpArgs false
namespace Go.Proofs.Ytkfiinmoecibcaa
open Go.RowKit Go.QS Go.QS.Nk
set_option linter.unusedVariables false

/-- Tries' blocks alone turn, below B. -/
abbrev KeepT (B : Nat) (w W : World) : Prop := Only (fun k => k < B ∧ ∃ A, w.heap[k]? = some (.cells A TT (0, 0))) w W
/-- Behind chunk c nothing has been put down. -/
structure Zs (A : Array Value) (c : Nat) : Prop where
  size : A.size = 130
  bk : A[0]? = some (.bool false)
  sl : A[1]? = some (.slice none 0 0)
  is : ∀ k, c ≤ k → k < 32 → A[2 + k]? = some (.int .i64 0)
  p1 : ∀ k, c ≤ k → k < 32 → A[34 + k * 2]? = some (str [])
  p2 : ∀ k, c ≤ k → k < 32 → A[34 + k * 2 + 1]? = some (str [])
  kd : ∀ k, c ≤ k → k < 32 → A[98 + k]? = some nil0
theorem all32 {f : Nat → Bool} (h : (List.range 32).all f = true) (k : Nat) (hk : k < 32) : f k = true := List.all_eq_true.1 h k (List.mem_range.2 hk)
def isZ : Option Value → Bool
  | some (.int .i64 (.ofNat 0)) => true
  | _ => false
def isS : Option Value → Bool
  | some (.string b) => b.size == 0
  | _ => false
def isN : Option Value → Bool
  | some (.pointer none) => true
  | _ => false
theorem isZ_eq {o : Option Value} (h : isZ o = true) : o = some (.int .i64 0) := by
  unfold isZ at h
  split at h
  · rfl
  · cases h
theorem isS_eq {o : Option Value} (h : isS o = true) : o = some (str []) := by
  unfold isS at h
  split at h
  · rename_i b
    have h0 : b.size = 0 := by simpa using h
    have : b = bs [] := by
      obtain ⟨d⟩ := b
      have : d = #[] := Array.eq_empty_of_size_eq_zero h0
      rw [this]; rfl
    rw [this]
  · cases h
theorem isN_eq {o : Option Value} (h : isN o = true) : o = some nil0 := by
  unfold isN at h
  split at h
  · rfl
  · cases h
theorem zs0 : Zs Try.zeroCells129 0 :=
  ⟨by kernel_rfl, by kernel_rfl, by kernel_rfl,
   fun k _ hk => isZ_eq (all32 (f := fun k => isZ (Try.zeroCells129[2 + k]?)) (by kernel_rfl) k hk),
   fun k _ hk => isS_eq (all32 (f := fun k => isS (Try.zeroCells129[34 + k * 2]?)) (by kernel_rfl) k hk),
   fun k _ hk => isS_eq (all32 (f := fun k => isS (Try.zeroCells129[34 + k * 2 + 1]?)) (by kernel_rfl) k hk),
   fun k _ hk => isN_eq (all32 (f := fun k => isN (Try.zeroCells129[98 + k]?)) (by kernel_rfl) k hk)⟩
section
variable {A : Array Value} {c k : Nat} {R : Nat → List Pr → Prop}
abbrev setP (A : Array Value) (k : Nat) (p : Pr) : Array Value := ((A.setIfInBounds (2 + k) (.int .i64 1)).setIfInBounds (34 + k * 2) (str p.1)).setIfInBounds (34 + k * 2 + 1) (str p.2)
abbrev setK (A : Array Value) (k : Nat) (q : Nat) : Array Value := (A.setIfInBounds (2 + k) (.int .i64 2)).setIfInBounds (98 + k) (ptr q)
theorem setP_ne (p : Pr) {j : Nat} (h1 : j ≠ 2 + k) (h2 : j ≠ 34 + k * 2) (h3 : j ≠ 34 + k * 2 + 1) : (setP A k p)[j]? = A[j]? := by
  rw [Array.getElem?_setIfInBounds_ne (Ne.symm h3), Array.getElem?_setIfInBounds_ne (Ne.symm h2), Array.getElem?_setIfInBounds_ne (Ne.symm h1)]
theorem setK_ne (q : Nat) {j : Nat} (h1 : j ≠ 2 + k) (h2 : j ≠ 98 + k) : (setK A k q)[j]? = A[j]? := by
  rw [Array.getElem?_setIfInBounds_ne (Ne.symm h2), Array.getElem?_setIfInBounds_ne (Ne.symm h1)]
theorem Zs.next (h : Zs A c) : Zs A (c + 1) := ⟨h.size, h.bk, h.sl, fun k hk h32 => h.is k (by omega) h32, fun k hk h32 => h.p1 k (by omega) h32, fun k hk h32 => h.p2 k (by omega) h32, fun k hk h32 => h.kd k (by omega) h32⟩
theorem Zs.setP (h : Zs A c) (hc : c < 32) (p : Pr) : Zs (setP A c p) (c + 1) :=
  ⟨by simp [h.size], by rw [setP_ne p (by omega) (by omega) (by omega)]; exact h.bk, by rw [setP_ne p (by omega) (by omega) (by omega)]; exact h.sl,
   fun k hk h32 => by rw [setP_ne p (by omega) (by omega) (by omega)]; exact h.is k (by omega) h32,
   fun k hk h32 => by rw [setP_ne p (by omega) (by omega) (by omega)]; exact h.p1 k (by omega) h32,
   fun k hk h32 => by rw [setP_ne p (by omega) (by omega) (by omega)]; exact h.p2 k (by omega) h32,
   fun k hk h32 => by rw [setP_ne p (by omega) (by omega) (by omega)]; exact h.kd k (by omega) h32⟩
theorem Zs.setK (h : Zs A c) (hc : c < 32) (q : Nat) : Zs (setK A c q) (c + 1) :=
  ⟨by simp [h.size], by rw [setK_ne q (by omega) (by omega)]; exact h.bk, by rw [setK_ne q (by omega) (by omega)]; exact h.sl,
   fun k hk h32 => by rw [setK_ne q (by omega) (by omega)]; exact h.is k (by omega) h32,
   fun k hk h32 => by rw [setK_ne q (by omega) (by omega)]; exact h.p1 k (by omega) h32,
   fun k hk h32 => by rw [setK_ne q (by omega) (by omega)]; exact h.p2 k (by omega) h32,
   fun k hk h32 => by rw [setK_ne q (by omega) (by omega)]; exact h.kd k (by omega) h32⟩
theorem ent_pr (h : Zs A c) (hc : c < 32) (p : Pr) : EntOk R (setP A c p) c [p] := by
  have hs := h.size
  refine .inr (.inl ⟨p, rfl, ?_, ?_, ?_⟩)
  · rw [Array.getElem?_setIfInBounds_ne (by omega), Array.getElem?_setIfInBounds_ne (by omega), Array.getElem?_setIfInBounds_self_of_lt (by omega)]
  · rw [show 34 + 2 * c = 34 + c * 2 by omega, Array.getElem?_setIfInBounds_ne (by omega), Array.getElem?_setIfInBounds_self_of_lt (by simp; omega)]
  · rw [show 35 + 2 * c = 34 + c * 2 + 1 by omega, Array.getElem?_setIfInBounds_self_of_lt (by simp; omega)]
theorem ent_kid (h : Zs A c) (hc : c < 32) {q : Nat} {x : List Pr} (hx : 2 ≤ x.length) (hR : R q x) : EntOk R (setK A c q) c x := by
  have hs := h.size
  refine .inr (.inr ⟨hx, q, ?_, ?_, hR⟩)
  · rw [Array.getElem?_setIfInBounds_ne (by omega), Array.getElem?_setIfInBounds_self_of_lt (by omega)]
  · rw [Array.getElem?_setIfInBounds_self_of_lt (by simp; omega)]
theorem ents_pr {f : Nat → List Pr} (h : Zs A c) (hc : c < 32) (hE : ∀ k, k < c → EntOk R A k (f k)) {p : Pr} (hp : f c = [p]) : ∀ k, k < c + 1 → EntOk R (setP A c p) k (f k) := fun k hk => by
  by_cases e : k = c
  · subst e; rw [hp]; exact ent_pr h hc p
  · exact (hE k (by omega)).other (c := c) hc (by omega) e (fun j h1 h2 h3 h4 => setP_ne p (by omega) (by omega) (by omega))
theorem ents_kid {f : Nat → List Pr} (h : Zs A c) (hc : c < 32) (hE : ∀ k, k < c → EntOk R A k (f k)) {q : Nat} (hx : 2 ≤ (f c).length) (hR : R q (f c)) : ∀ k, k < c + 1 → EntOk R (setK A c q) k (f k) := fun k hk => by
  by_cases e : k = c
  · subst e; exact ent_kid h hc hx hR
  · exact (hE k (by omega)).other (c := c) hc (by omega) e (fun j h1 h2 h3 h4 => setK_ne q (by omega) (by omega))
theorem ents_no {f : Nat → List Pr} (h : Zs A c) (hc : c < 32) (hE : ∀ k, k < c → EntOk R A k (f k)) (hx : f c = []) : ∀ k, k < c + 1 → EntOk R A k (f k) := fun k hk => by
  by_cases e : k = c
  · subst e; exact .inl ⟨hx, h.is k (Nat.le_refl _) hc⟩
  · exact hE k (by omega)
end
theorem part_take {H : List UInt8 → Nat} {lv c i : Nat} {l : List Pr} {p : Pr} (hp : l[i]? = some p) : Go.QS.part H lv c (l.take (i + 1)) = Go.QS.part H lv c (l.take i) ++ (if chk (H p.1) lv = c then [p] else []) := by
  rw [take_snoc hp]
  unfold Go.QS.part
  rw [List.filter_append]
  by_cases h : chk (H p.1) lv = c <;> simp [h]
theorem keepT_ext {B : Nat} {a b W : World} (h : KeepT B b W) (f : Ext a b) (hB : B ≤ a.heap.size) : KeepT B a W :=
  ⟨h.os.trans f.os, h.tape.trans f.tape, h.output.trans f.output, Nat.le_trans f.size h.size, fun k hk hn => by
    refine (h.block k (Nat.lt_of_lt_of_le hk f.size) (fun hs => hn ⟨hs.1, ?_⟩)).trans (f.block k hk)
    obtain ⟨A, hA⟩ := hs.2
    exact ⟨A, (f.block k hk).symm.trans hA⟩⟩
theorem keepT_mono {B B' : Nat} {a W : World} (h : KeepT B a W) (hB : B ≤ B') : KeepT B' a W := h.mono (fun i _ hi => ⟨by omega, hi.2⟩)
theorem keepT_set {B q : Nat} {a b W : World} {A : Array Value} (h : KeepT B b W) (f : Only (fun k => k = q) a b) (hq : q < B) (hqa : a.heap[q]? = some (.cells A TT (0, 0))) : KeepT B a W :=
  ⟨h.os.trans f.os, h.tape.trans f.tape, h.output.trans f.output, Nat.le_trans f.size h.size, fun k hk hn => by
    by_cases e : k = q
    · subst e; exact absurd ⟨hq, A, hqa⟩ hn
    · refine (h.block k (Nat.lt_of_lt_of_le hk f.size) (fun hs => hn ⟨hs.1, ?_⟩)).trans (f.block k hk e)
      obtain ⟨A, hA⟩ := hs.2
      exact ⟨A, (f.block k hk e).symm.trans hA⟩⟩
theorem keepT_row {B : Nat} {a W : World} (h : KeepT B a W) {b n : Nat} {v : Value} {l : List Pr} (ho : a.ownsRow b RP 2 v n (flat l)) : PS W v l := by
  refine PS.of_own (h.own ho (fun k hk hs => ?_))
  obtain ⟨_, A, hA⟩ := hs
  exact own_block_ne ho hA (by decide) hk
end Go.Proofs.Ytkfiinmoecibcaa
