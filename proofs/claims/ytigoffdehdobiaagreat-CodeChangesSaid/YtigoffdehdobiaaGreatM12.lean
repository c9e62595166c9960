/- Texts joined. -/
import Derived.Test.YtigoffdehdobiaaGreatM11
import Derived.BigRegion
import Derived.Shelf.SlicesQ.Reverse
import Derived.Lib.RowBridge
set_option linter.unusedVariables false
set_option linter.unusedSimpArgs false
/- Contracts: the least above all that begin so; the span of a beginning. -/
namespace Go.Proofs.YtigoffdehdobiaaGreat
open Go.RowKit Go.QS
set_option linter.unusedVariables false

/-- Without the greatest bytes at its end. -/
def trim (s : List UInt8) : Nat := (s.reverse.dropWhile fun b => b == 255).length
def abv (s : List UInt8) : List UInt8 × Bool :=
  match s[trim s - 1]? with
  | some x => if trim s = 0 then ([], false) else (s.take (trim s - 1) ++ [x + 1], true)
  | none => ([], false)

theorem trim_snoc (s : List UInt8) (x : UInt8) : trim (s ++ [x]) = if x = 255 then trim s else s.length + 1 := by
  unfold trim
  rw [List.reverse_append, List.reverse_singleton, List.singleton_append, List.dropWhile_cons]
  by_cases h : x = 255
  · simp [h]
  · simp [h]
theorem trim_le (s : List UInt8) : trim s ≤ s.length := by
  have := (List.dropWhile_sublist (l := s.reverse) fun b => b == 255).length_le
  simpa [trim] using this
theorem trim_at {s : List UInt8} : ∀ {n : Nat}, n ≤ s.length → (∀ j x, n ≤ j → s[j]? = some x → x = 255) → (∀ x, 0 < n → s[n - 1]? = some x → x ≠ 255) → trim s = n := by
  induction s using snoc_ind with
  | h0 => intro n hn _ _; simp at hn; subst hn; rfl
  | h1 s x ih =>
    intro n hn h1 h2
    rw [trim_snoc]
    by_cases hx : x = 255
    · rw [if_pos hx]
      have hns : n ≤ s.length := by
        rcases Nat.lt_or_ge s.length n with h | h
        · have : n = s.length + 1 := by simp at hn; omega
          subst this
          exact absurd hx (h2 x (by omega) (by simp))
        · exact h
      refine ih hns (fun j y hj hy => h1 j y hj ?_) (fun y hn0 hy => h2 y hn0 ?_)
      · rw [List.getElem?_append_left (List.getElem?_eq_some_iff.1 hy).1]; exact hy
      · rw [List.getElem?_append_left (List.getElem?_eq_some_iff.1 hy).1]; exact hy
    · rw [if_neg hx]
      rcases Nat.lt_or_ge s.length n with h | h
      · simp at hn; omega
      · exact absurd (h1 s.length x h (by simp)) hx

/-- The span of a beginning. -/
def Sp.pfx (p : List UInt8) : Sp := ⟨p, (abv p).1, !(abv p).2⟩

end Go.Proofs.YtigoffdehdobiaaGreat
/- Contract: slices.Reverse at the works of a cursor. -/
namespace Go.Proofs.YtigoffdehdobiaaGreat
open Go.RowKit Go.QS Go.Shelf Go.Sort
set_option linter.unusedVariables false

def revRen : Go.Shelf.Ren := ⟨fun | 35 => 161 | x => x, fun | 0 => 0 | 3 => 3 | 4 => 4 | 22 => 206 | 23 => 210 | x => x, fun x => x⟩

theorem revLay : SlLaysE0.n35 Tryz.prog revRen := {
  mixed := by kernel_rfl
  f35 := ⟨Tryz.f161.name, by decide, by kernel_rfl⟩
  t0 := Tryz.underlying0
  a0 := Tryz.isAgg0
  z0 := Tryz.sizeOf0
  v0 := Tryz.zeroValue0
  t3 := Tryz.underlying3
  a3 := Tryz.isAgg3
  z3 := Tryz.sizeOf3
  v3 := Tryz.zeroValue3
  t4 := Tryz.underlying4
  a4 := Tryz.isAgg4
  z4 := Tryz.sizeOf4
  v4 := Tryz.zeroValue4
  t22 := Tryz.underlying206
  a22 := Tryz.isAgg206
  z22 := Tryz.sizeOf206
  v22 := Tryz.zeroValue206 }

/-- A work in memory: a node, the bytes that lead to it, only its own? -/
abbrev Wk := Nat × List UInt8 × Bool
def encW (x : Wk) : List Value := [ptr x.1, str x.2.1, .bool x.2.2]
def flatW (l : List Wk) : List Value := l.flatMap encW
theorem flatW_length (l : List Wk) : (flatW l).length = l.length * 3 := by
  induction l with
  | nil => rfl
  | cons p l ih => simp only [flatW, List.flatMap_cons, List.length_append, List.length_cons] at ih ⊢; rw [ih]; simp [encW]; omega
theorem flatW_append (a b : List Wk) : flatW (a ++ b) = flatW a ++ flatW b := by simp [flatW]
theorem flatW_cons (p : Wk) (l : List Wk) : flatW (p :: l) = encW p ++ flatW l := by simp [flatW]
theorem flatW_one (l : List Wk) : ∀ u ∈ flatW l, u.oneCell' = true := by
  intro u hu
  obtain ⟨p, _, hp⟩ := List.mem_flatMap.1 hu
  simp [encW] at hp
  rcases hp with rfl | rfl | rfl <;> rfl
theorem flatW_get {l : List Wk} {i : Nat} {p : Wk} (h : l[i]? = some p) (r : Nat) (hr : r < 3) : (flatW l)[i * 3 + r]? = (encW p)[r]? := by
  induction l generalizing i with
  | nil => cases h
  | cons q l ih =>
    rw [flatW_cons]
    have h3 : (encW q).length = 3 := rfl
    cases i with
    | zero =>
      cases h
      rw [Nat.zero_mul, Nat.zero_add, List.getElem?_append_left (by omega)]
    | succ i =>
      rw [List.getElem?_append_right (by omega), h3, show (i + 1) * 3 + r - 3 = i * 3 + r by omega]
      exact ih h
theorem flatK_W (l : List Wk) : (flatK encW 3 l.toArray).toList = flatW l := by
  refine List.ext_getElem? fun j => ?_
  rcases Nat.lt_or_ge j (l.length * 3) with h | h
  · have hd : j / 3 < l.length := by omega
    have hm := Nat.mod_lt j (show 3 > 0 by decide)
    have := flatW_get (List.getElem?_eq_getElem hd) (j % 3) hm
    rw [show j / 3 * 3 + j % 3 = j by omega] at this
    rw [this, Array.getElem?_toList, Array.getElem?_eq_getElem (by simpa using h)]
    have h2 := get_flatK encW 3 l.toArray j (by simpa using h)
    rw [getElem!_pos (flatK encW 3 l.toArray) j (by simpa using h)] at h2
    rw [h2]
    have e1 : l.toArray[j / 3]! = l[j / 3] := by rw [getElem!_pos l.toArray (j / 3) (by simpa using hd)]; simp
    rw [e1, getElem!_pos (encW l[j / 3]) (j % 3) (show j % 3 < (encW l[j / 3]).length from hm), List.getElem?_eq_getElem]
  · rw [List.getElem?_eq_none (by simpa using h), List.getElem?_eq_none (by rw [flatW_length]; exact h)]

abbrev WT : TypeId := 210

theorem rev_c (base : Nat) (w : World) (v : Value) (l : List Wk) (h : w.ownsRow base WT 3 v l.length (flatW l)) (h9 : l.length ≤ 1000000000) (hne : l ≠ []) :
    Calls Tryz.prog 161 #[v] w fun e w' => e = .returned (.tuple #[]) ∧ w'.ownsRow base WT 3 v l.length (flatW l.reverse) ∧ w.grownBy w' v.ownBlock := by
  rcases h.2 with ⟨rfl, h0⟩ | ⟨g, cap, cur, rfl, hg, hh, hnc, hcm, hsz, htk⟩
  · exact absurd (List.eq_nil_of_length_eq_zero h0) hne
  · have hH : HoldsK encW 3 w g 0 l.toArray := by
      intro j hj
      have hj' : j < l.length * 3 := by simpa using hj
      refine ⟨?_, by simp [World.frozen?, hh]⟩
      rw [Nat.zero_add, seg_of_heap hh, ← Array.getElem?_toList]
      have e1 : (flatW l)[j]? = cur.toList[j]? := by rw [← htk, List.getElem?_take_of_lt hj']
      rw [← e1, ← flatK_W, Array.getElem?_toList, Array.getElem?_eq_getElem hj, getElem!_pos (flatK encW 3 l.toArray) j hj]; rfl
    have hc := AnyQ.slices_Reverse revLay 3 Tryz.isAgg210 Tryz.sizeOf210 encW (fun _ => rfl) (fun x u hu => by simp [encW] at hu; rcases hu with rfl | rfl | rfl <;> rfl) g 0 cap l.toArray w hH (by simp; omega)
    change Calls Tryz.prog 161 #[.slice (some ⟨g, 0, none⟩) l.toArray.size cap] w _ at hc
    rw [show l.toArray.size = l.length by simp] at hc
    refine hc.mono ?_
    rintro e w' ⟨rfl, n, rfl⟩
    have hw : putRowK encW 3 (Sort.ahead w n) g 0 l.toArray.reverse = (w.drewN n).setCells g 0 (flatW l.reverse) := by
      have := Lib.putRow_eq_setCells id w g 0 (flatK encW 3 l.toArray) (flatW l.reverse) n hH (by rw [flatW_length]; simp)
      rw [List.map_id] at this
      rw [← this]
      unfold putRowK
      congr 1
      rw [show l.toArray.reverse = l.reverse.toArray by simp, ← flatK_W]
    rw [hw]
    obtain ⟨c1, k1, k2, k3⟩ := heap_setCells g WT (0, 0) (flatW l.reverse) 0 (w.drewN n) cur hh (by rw [flatW_length]; simp; omega)
    refine ⟨rfl, ⟨by rw [flatW_length]; simp, .inr ⟨g, cap, c1, rfl, hg, k1, hnc, hcm, by omega, ?_⟩⟩, World.grownBy.trans (grown_ext' (below_drewN (Ext.refl w) n)) (grown_setCells g _ _ _)⟩
    rw [k3, List.take_zero, List.nil_append, List.take_append_of_le_length (by rw [flatW_length]; simp), List.take_of_length_le (by rw [flatW_length]; simp)]
end Go.Proofs.YtigoffdehdobiaaGreat
/- Cursors as plain data and in memory. -/
namespace Go.Proofs.YtigoffdehdobiaaGreat
open Go.RowKit Go.QS
set_option linter.unusedVariables false

abbrev CT : TypeId := 208
/-- A work: a node, the bytes that lead to it, only its own? -/
abbrev Wn := RT × List UInt8 × Bool
def Wks (W0 : World) (cs : List Wk) (st : List Wn) : Prop := cs.length = st.length ∧ ∀ (i : Nat) (c : Wk) (s : Wn), cs[i]? = some c → st[i]? = some s → Rep NT W0 c.1 s.1 ∧ c.2 = s.2
theorem Wks.nil (W0 : World) : Wks W0 [] [] := ⟨rfl, fun i c s h => by simp at h⟩
theorem Wks.append {W0 : World} {a c : List Wk} {b d : List Wn} (h : Wks W0 a b) (k : Wks W0 c d) : Wks W0 (a ++ c) (b ++ d) := by
  refine ⟨by simp [h.1, k.1], fun i x y hx hy => ?_⟩
  have hl := h.1
  rcases Nat.lt_or_ge i a.length with hi | hi
  · rw [List.getElem?_append_left hi] at hx
    rw [List.getElem?_append_left (by omega)] at hy
    exact h.2 i x y hx hy
  · rw [List.getElem?_append_right hi] at hx
    rw [List.getElem?_append_right (by omega), ← hl] at hy
    exact k.2 _ x y hx hy
theorem Wks.one {W0 : World} {c : Wk} {s : Wn} (h : Rep NT W0 c.1 s.1) (e : c.2 = s.2) : Wks W0 [c] [s] := by
  refine ⟨rfl, fun i x y hx hy => ?_⟩
  match i with
  | 0 => simp at hx hy; subst hx hy; exact ⟨h, e⟩
  | i + 1 => simp at hx
theorem Wks.reverse {W0 : World} {a : List Wk} {b : List Wn} (h : Wks W0 a b) : Wks W0 a.reverse b.reverse := by
  refine ⟨by simp [h.1], fun i x y hx hy => ?_⟩
  have hi : i < a.length := by have := (List.getElem?_eq_some_iff.1 hx).1; simpa using this
  rw [List.getElem?_reverse hi] at hx
  rw [List.getElem?_reverse (by have := h.1; omega), ← h.1] at hy
  exact h.2 _ x y hx hy
theorem Wks.snoc {W0 : World} {a : List Wk} {b : List Wn} (h : Wks W0 a b) (hne : a ≠ []) : ∃ a' c b' s, a = a' ++ [c] ∧ b = b' ++ [s] ∧ Wks W0 a' b' ∧ Rep NT W0 c.1 s.1 ∧ c.2 = s.2 := by
  have hl := h.1
  have hb : b ≠ [] := by intro e; rw [e] at hl; exact hne (List.eq_nil_of_length_eq_zero (by simpa using hl))
  have ha' := List.dropLast_concat_getLast hne
  have hb' := List.dropLast_concat_getLast hb
  have hda : a.dropLast.length = a.length - 1 := List.length_dropLast
  have hdb : b.dropLast.length = b.length - 1 := List.length_dropLast
  have hpos := List.length_pos_iff.2 hne
  refine ⟨_, _, _, _, ha'.symm, hb'.symm, ⟨by omega, fun i x y hx hy => ?_⟩, ?_⟩
  · have hi := (List.getElem?_eq_some_iff.1 hx).1
    refine h.2 i x y ?_ ?_
    · rw [← ha', List.getElem?_append_left hi]; exact hx
    · rw [← hb', List.getElem?_append_left (by omega)]; exact hy
  · refine h.2 (a.length - 1) _ _ ?_ ?_
    · rw [List.getLast_eq_getElem]; exact List.getElem?_eq_getElem _
    · rw [List.getLast_eq_getElem, hl]; exact List.getElem?_eq_getElem _
theorem Wks.ext {W0 W1 : World} {a : List Wk} {b : List Wn} (h : Wks W0 a b) (f : Ext W0 W1) : Wks W1 a b := ⟨h.1, fun i x y hx hy => ⟨(h.2 i x y hx hy).1.ext f, (h.2 i x y hx hy).2⟩⟩
theorem Wks.kids {W0 : World} {ps : List Nat} {ks : List RT} (h : Reps NT W0 ps ks) (key : List UInt8) : Wks W0 (ps.map fun p => (p, key, false)) (ks.map fun k => (k, key, false)) := by
  refine ⟨by simp [h.1], fun i x y hx hy => ?_⟩
  rw [List.getElem?_map] at hx hy
  obtain ⟨p, hp, rfl⟩ := Option.map_eq_some_iff.1 hx
  obtain ⟨k, hk, rfl⟩ := Option.map_eq_some_iff.1 hy
  exact ⟨h.2 i p k hp hk, rfl⟩

/-- What a node lays on the stack. -/
def pushed (s : Sp) (back : Bool) (e : Wn) : List Wn :=
  if s.past (e.2.1 ++ e.1.lab) then []
  else if back then (e.1, e.2.1, true) :: e.1.kids.map (fun k => (k, e.2.1 ++ e.1.lab, false))
  else ((e.1, e.2.1, true) :: e.1.kids.map (fun k => (k, e.2.1 ++ e.1.lab, false))).reverse

/-- A cursor in memory. -/
structure CurAt (W0 w : World) (c : Nat) (V : Value) (cs : List Wk) (st : List Wn) (s : Sp) (back : Bool) : Prop where
  cell : w.heap[c]? = some (.cells #[V, str s.f, str s.t, .bool s.o, .bool back] CT (0, 0))
  row : w.ownsRow (c + 1) WT 3 V cs.length (flatW cs)
  wks : Wks W0 cs st
  ext : Ext W0 w
  le : W0.heap.size ≤ c

/-- All stays but two blocks. -/
structure Two (c : Nat) (rb : Option Nat) (w w' : World) : Prop where
  os : w'.os = w.os
  tape : w'.tape = w.tape
  output : w'.output = w.output
  size : w.heap.size ≤ w'.heap.size
  block : ∀ k, k < w.heap.size → k ≠ c → some k ≠ rb → w'.heap[k]? = w.heap[k]?

theorem Two.ext {c : Nat} {rb : Option Nat} {w w' : World} (f : Ext w w') : Two c rb w w' := ⟨f.os, f.tape, f.output, f.size, fun k hk _ _ => f.block k hk⟩
theorem Two.refl (c : Nat) (rb : Option Nat) (w : World) : Two c rb w w := Two.ext (Ext.refl w)
/-- A row is the old one, or new. -/
def Newer (w : World) (rb rb' : Option Nat) : Prop := rb' = rb ∨ ∀ b, rb' = some b → w.heap.size ≤ b
theorem Two.trans {c : Nat} {rb rb' : Option Nat} {a b d : World} (h : Two c rb a b) (k : Two c rb' b d) (n : Newer a rb rb') : Two c rb a d := by
  refine ⟨k.os.trans h.os, k.tape.trans h.tape, k.output.trans h.output, Nat.le_trans h.size k.size, fun j hj h1 h2 => ?_⟩
  refine (k.block j (Nat.lt_of_lt_of_le hj h.size) h1 ?_).trans (h.block j hj h1 h2)
  rcases n with rfl | n
  · exact h2
  · intro e
    have := n j e.symm
    omega
theorem Newer.trans {a b : World} {r1 r2 r3 : Option Nat} (h : Newer a r1 r2) (k : Newer b r2 r3) (hs : a.heap.size ≤ b.heap.size) : Newer a r1 r3 := by
  rcases k with rfl | k
  · exact h
  · exact .inr fun x hx => Nat.le_trans hs (k x hx)
theorem Newer.refl (w : World) (r : Option Nat) : Newer w r r := .inl rfl
theorem Two.grown {c : Nat} {rb : Option Nat} {w w' : World} (h : w.grownBy w' rb) : Two c rb w w' := ⟨h.os, h.tape, h.output, h.size, fun k hk _ h2 => h.block k hk h2⟩
theorem Two.setCell {c : Nat} {rb : Option Nat} {a w : World} (h : Two c rb a w) (i : Nat) (u : Value) : Two c rb a (w.setCell ⟨c, i, none⟩ u) := by
  refine ⟨h.os, h.tape, h.output, by simpa using h.size, fun k hk h1 h2 => (Below.heap_setCell w ⟨c, i, none⟩ u k h1).trans (h.block k hk h1 h2)⟩
theorem Two.below {c B : Nat} {rb : Option Nat} {w w' W : World} (h : Two c rb w w') (hc : B ≤ c) (hr : ∀ b, rb = some b → B ≤ b) (f : Below B W w) (hB : B ≤ w.heap.size) : Below B W w' :=
  ⟨h.os.trans f.os, h.tape.trans f.tape, h.output.trans f.output, Nat.le_trans f.size h.size, fun k hk => (h.block k (by omega) (by omega) (fun e => by have := hr k e.symm; omega)).trans (f.block k hk)⟩
theorem CurAt.keep {W0 w w' : World} {c : Nat} {V : Value} {cs : List Wk} {st : List Wn} {s : Sp} {back : Bool} (h : CurAt W0 w c V cs st s back) (f : Ext w w') : CurAt W0 w' c V cs st s back :=
  ⟨box_ext h.cell f, row_ext h.row f, h.wks, Ext.trans h.ext f, h.le⟩

theorem cat_run (a b key : List UInt8) (hk : key = a ++ b) (h : key.length ≤ 9223372036854775807) (w : World) : (binOp .add 9 (str a) (str b)).run Tryz.prog w = .ok (str key) w := by
  have h2 : bs a ++ bs b = bs key := by rw [bs_append, hk]
  simp [go_sem, h2]
  rw [hk, List.length_append] at h
  omega
end Go.Proofs.YtigoffdehdobiaaGreat
