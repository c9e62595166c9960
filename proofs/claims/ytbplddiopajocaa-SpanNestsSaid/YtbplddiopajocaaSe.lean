/- Cursors as plain data and in memory. -/
import Derived.Test.YtbplddiopajocaaSd
set_option linter.unusedVariables false
set_option linter.unusedSimpArgs false
namespace Go.Proofs.Ytbplddiopajocaa
open Go.RowKit Go.QS
set_option linter.unusedVariables false

abbrev CT : TypeId := 99
/-- A work: a node, the bytes that lead to it, only its own? -/
abbrev Wn := RT × List UInt8 × Bool
def Wks (W0 : World) (cs : List Wk) (st : List Wn) : Prop := cs.length = st.length ∧ ∀ (i : Nat) (c : Wk) (s : Wn), cs[i]? = some c → st[i]? = some s → Rep NT W0 c.1 s.1 ∧ c.2 = s.2
theorem Wks.nil (W0 : World) : Wks W0 [] [] := ⟨rfl, fun i c s h => by simp at h⟩
theorem Wks.append {W0 : World} {a c : List Wk} {b d : List Wn} (h : Wks W0 a b) (k : Wks W0 c d) : Wks W0 (a ++ c) (b ++ d) := by
  refine ⟨by simp [h.1, k.1], fun i x y hx hy => ?_⟩
  have hl := h.1
  rcases Nat.lt_or_ge i a.length with hi | hi
  · rw [List.getElem?_append_left hi] at hx
    rw [List.getElem?_append_left (by omega)] at hy
    exact h.2 i x y hx hy
  · rw [List.getElem?_append_right hi] at hx
    rw [List.getElem?_append_right (by omega), ← hl] at hy
    exact k.2 _ x y hx hy
theorem Wks.one {W0 : World} {c : Wk} {s : Wn} (h : Rep NT W0 c.1 s.1) (e : c.2 = s.2) : Wks W0 [c] [s] := by
  refine ⟨rfl, fun i x y hx hy => ?_⟩
  match i with
  | 0 => simp at hx hy; subst hx hy; exact ⟨h, e⟩
  | i + 1 => simp at hx
theorem Wks.reverse {W0 : World} {a : List Wk} {b : List Wn} (h : Wks W0 a b) : Wks W0 a.reverse b.reverse := by
  refine ⟨by simp [h.1], fun i x y hx hy => ?_⟩
  have hi : i < a.length := by have := (List.getElem?_eq_some_iff.1 hx).1; simpa using this
  rw [List.getElem?_reverse hi] at hx
  rw [List.getElem?_reverse (by have := h.1; omega), ← h.1] at hy
  exact h.2 _ x y hx hy
theorem Wks.snoc {W0 : World} {a : List Wk} {b : List Wn} (h : Wks W0 a b) (hne : a ≠ []) : ∃ a' c b' s, a = a' ++ [c] ∧ b = b' ++ [s] ∧ Wks W0 a' b' ∧ Rep NT W0 c.1 s.1 ∧ c.2 = s.2 := by
  have hl := h.1
  have hb : b ≠ [] := by intro e; rw [e] at hl; exact hne (List.eq_nil_of_length_eq_zero (by simpa using hl))
  have ha' := List.dropLast_concat_getLast hne
  have hb' := List.dropLast_concat_getLast hb
  have hda : a.dropLast.length = a.length - 1 := List.length_dropLast
  have hdb : b.dropLast.length = b.length - 1 := List.length_dropLast
  have hpos := List.length_pos_iff.2 hne
  refine ⟨_, _, _, _, ha'.symm, hb'.symm, ⟨by omega, fun i x y hx hy => ?_⟩, ?_⟩
  · have hi := (List.getElem?_eq_some_iff.1 hx).1
    refine h.2 i x y ?_ ?_
    · rw [← ha', List.getElem?_append_left hi]; exact hx
    · rw [← hb', List.getElem?_append_left (by omega)]; exact hy
  · refine h.2 (a.length - 1) _ _ ?_ ?_
    · rw [List.getLast_eq_getElem]; exact List.getElem?_eq_getElem _
    · rw [List.getLast_eq_getElem, hl]; exact List.getElem?_eq_getElem _
theorem Wks.ext {W0 W1 : World} {a : List Wk} {b : List Wn} (h : Wks W0 a b) (f : Ext W0 W1) : Wks W1 a b := ⟨h.1, fun i x y hx hy => ⟨(h.2 i x y hx hy).1.ext f, (h.2 i x y hx hy).2⟩⟩
theorem Wks.kids {W0 : World} {ps : List Nat} {ks : List RT} (h : Reps NT W0 ps ks) (key : List UInt8) : Wks W0 (ps.map fun p => (p, key, false)) (ks.map fun k => (k, key, false)) := by
  refine ⟨by simp [h.1], fun i x y hx hy => ?_⟩
  rw [List.getElem?_map] at hx hy
  obtain ⟨p, hp, rfl⟩ := Option.map_eq_some_iff.1 hx
  obtain ⟨k, hk, rfl⟩ := Option.map_eq_some_iff.1 hy
  exact ⟨h.2 i p k hp hk, rfl⟩

/-- What a node lays on the stack. -/
def pushed (s : Sp) (back : Bool) (e : Wn) : List Wn :=
  if s.past (e.2.1 ++ e.1.lab) then []
  else if back then (e.1, e.2.1, true) :: e.1.kids.map (fun k => (k, e.2.1 ++ e.1.lab, false))
  else ((e.1, e.2.1, true) :: e.1.kids.map (fun k => (k, e.2.1 ++ e.1.lab, false))).reverse

/-- A cursor in memory. -/
structure CurAt (W0 w : World) (c : Nat) (V : Value) (cs : List Wk) (st : List Wn) (s : Sp) (back : Bool) : Prop where
  cell : w.heap[c]? = some (.cells #[V, str s.f, str s.t, .bool s.o, .bool back] CT (0, 0))
  row : w.ownsRow (c + 1) WT 3 V cs.length (flatW cs)
  wks : Wks W0 cs st
  ext : Ext W0 w
  le : W0.heap.size ≤ c

/-- All stays but two blocks. -/
structure Two (c : Nat) (rb : Option Nat) (w w' : World) : Prop where
  os : w'.os = w.os
  tape : w'.tape = w.tape
  output : w'.output = w.output
  size : w.heap.size ≤ w'.heap.size
  block : ∀ k, k < w.heap.size → k ≠ c → some k ≠ rb → w'.heap[k]? = w.heap[k]?

theorem Two.ext {c : Nat} {rb : Option Nat} {w w' : World} (f : Ext w w') : Two c rb w w' := ⟨f.os, f.tape, f.output, f.size, fun k hk _ _ => f.block k hk⟩
theorem Two.refl (c : Nat) (rb : Option Nat) (w : World) : Two c rb w w := Two.ext (Ext.refl w)
/-- A row is the old one, or new. -/
def Newer (w : World) (rb rb' : Option Nat) : Prop := rb' = rb ∨ ∀ b, rb' = some b → w.heap.size ≤ b
theorem Two.trans {c : Nat} {rb rb' : Option Nat} {a b d : World} (h : Two c rb a b) (k : Two c rb' b d) (n : Newer a rb rb') : Two c rb a d := by
  refine ⟨k.os.trans h.os, k.tape.trans h.tape, k.output.trans h.output, Nat.le_trans h.size k.size, fun j hj h1 h2 => ?_⟩
  refine (k.block j (Nat.lt_of_lt_of_le hj h.size) h1 ?_).trans (h.block j hj h1 h2)
  rcases n with rfl | n
  · exact h2
  · intro e
    have := n j e.symm
    omega
theorem Newer.trans {a b : World} {r1 r2 r3 : Option Nat} (h : Newer a r1 r2) (k : Newer b r2 r3) (hs : a.heap.size ≤ b.heap.size) : Newer a r1 r3 := by
  rcases k with rfl | k
  · exact h
  · exact .inr fun x hx => Nat.le_trans hs (k x hx)
theorem Newer.refl (w : World) (r : Option Nat) : Newer w r r := .inl rfl
theorem Two.grown {c : Nat} {rb : Option Nat} {w w' : World} (h : w.grownBy w' rb) : Two c rb w w' := ⟨h.os, h.tape, h.output, h.size, fun k hk _ h2 => h.block k hk h2⟩
theorem Two.setCell {c : Nat} {rb : Option Nat} {a w : World} (h : Two c rb a w) (i : Nat) (u : Value) : Two c rb a (w.setCell ⟨c, i, none⟩ u) := by
  refine ⟨h.os, h.tape, h.output, by simpa using h.size, fun k hk h1 h2 => (Below.heap_setCell w ⟨c, i, none⟩ u k h1).trans (h.block k hk h1 h2)⟩
theorem Two.below {c B : Nat} {rb : Option Nat} {w w' W : World} (h : Two c rb w w') (hc : B ≤ c) (hr : ∀ b, rb = some b → B ≤ b) (f : Below B W w) (hB : B ≤ w.heap.size) : Below B W w' :=
  ⟨h.os.trans f.os, h.tape.trans f.tape, h.output.trans f.output, Nat.le_trans f.size h.size, fun k hk => (h.block k (by omega) (by omega) (fun e => by have := hr k e.symm; omega)).trans (f.block k hk)⟩
theorem CurAt.keep {W0 w w' : World} {c : Nat} {V : Value} {cs : List Wk} {st : List Wn} {s : Sp} {back : Bool} (h : CurAt W0 w c V cs st s back) (f : Ext w w') : CurAt W0 w' c V cs st s back :=
  ⟨box_ext h.cell f, row_ext h.row f, h.wks, Ext.trans h.ext f, h.le⟩

theorem cat_run (a b key : List UInt8) (hk : key = a ++ b) (h : key.length ≤ 9223372036854775807) (w : World) : (binOp .add 9 (str a) (str b)).run Try.prog w = .ok (str key) w := by
  have h2 : bs a ++ bs b = bs key := by rw [bs_append, hk]
  simp [go_sem, h2]
  rw [hk, List.length_append] at h
  omega
end Go.Proofs.Ytbplddiopajocaa
