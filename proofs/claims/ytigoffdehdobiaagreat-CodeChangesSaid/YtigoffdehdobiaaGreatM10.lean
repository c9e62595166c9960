/- Texts joined. -/
import Derived.Test.YtigoffdehdobiaaGreatM09
import Derived.Test.YtigoffdehdobiaaGreatM06
import Derived.BigRegion
import Derived.StillTailTactics
set_option linter.unusedVariables false
set_option linter.unusedSimpArgs false
/- Contract: put, without a token: down a kid; whole. -/
namespace Go.Proofs.YtigoffdehdobiaaGreat
open Go.RowKit Go.QS
set_option linter.unusedVariables false

/-- What put hands back. -/
def PutOK (w : World) (g : Nat) (r : RT × Bool × Bool) (e : Ending) (w' : World) : Prop :=
  ∃ g', e = .returned (.tuple #[ptr g', .bool r.2.1, .bool r.2.2]) ∧ Ext w w' ∧ Rep NT w' g' r.1 ∧ (r.2.2 = false → g' = g) ∧ (r.2.2 = true → w.heap.size ≤ g')

theorem ownsRow_set1 {w : World} {base : Nat} {e : TypeId} {ps : List Nat} {A : Option Addr} {C : Nat} (h : w.ownsRow base e 1 (.slice A ps.length C) ps.length (ptrs ps)) {i p : Nat} (hi : i < ps.length) :
    ∃ b, A = some ⟨b, 0, none⟩ ∧ base ≤ b ∧ b < w.heap.size ∧ (∃ u, w.cell? ⟨b, i, none⟩ = some u) ∧ w.frozen? ⟨b, i, none⟩ = false ∧ (w.setCell ⟨b, i, none⟩ (ptr p)).ownsRow base e 1 (.slice A ps.length C) ps.length (ptrs (ps.set i p)) := by
  obtain ⟨h0, h⟩ := h
  rcases h with ⟨h1, h2⟩ | ⟨b, cap, cur, h1, h2, h3, h4, h5, h6, h7⟩
  · omega
  · cases h1
    have hsz : i < cur.size := by omega
    refine ⟨b, rfl, h2, heap_lt h3, ⟨cur[i], by rw [seg_of_heap h3, Array.getElem?_eq_getElem hsz]⟩, by simp [World.frozen?, h3], by simp, .inr ⟨b, C, _, rfl, h2, heap_set h3 i _, h4, h5, by simpa using h6, ?_⟩⟩
    rw [Array.toList_setIfInBounds, List.take_set, h7]
    simp [ptrs, List.map_set]

theorem common_kid {c : UInt8} {key : List UInt8} {kid : RT} (hne : kid.lab ≠ []) (h : kid.hd = c.toNat) : 1 ≤ common (c :: key) kid.lab := by
  obtain ⟨l, hl⟩ := hd_lab hne h
  rw [hl, common_pos]
  omega

theorem tput_go {n : Nat} {t kid : RT} {c : UInt8} {key v : List UInt8} (hf : fH t.kids c.toNat = true) (hkid : t.kids[fI t.kids c.toNat]? = some kid) :
    tput (n + 1) t (c :: key) v = (if (tput n (if common (c :: key) kid.lab < kid.lab.length then tsplit kid (common (c :: key) kid.lab) else kid) ((c :: key).drop (common (c :: key) kid.lab)) v).2.2 then
      (RT.node t.lab t.val (t.kids.set (fI t.kids c.toNat) (tput n (if common (c :: key) kid.lab < kid.lab.length then tsplit kid (common (c :: key) kid.lab) else kid) ((c :: key).drop (common (c :: key) kid.lab)) v).1), (tput n (if common (c :: key) kid.lab < kid.lab.length then tsplit kid (common (c :: key) kid.lab) else kid) ((c :: key).drop (common (c :: key) kid.lab)) v).2.1, true) else (t, false, false)) := by
  conv => lhs; unfold tput
  rw [if_pos hf, hkid]

end Go.Proofs.YtigoffdehdobiaaGreat
/- Contract: radix.Put, without a token. -/
namespace Go.Proofs.YtigoffdehdobiaaGreat
open Go.RowKit Go.QS
set_option linter.unusedVariables false

theorem keep2 {w w' : World} {g1 g2 i1 i2 : Nat} {u1 u2 : Value} (f : Ext w w') (h : w.cell? ⟨g1, i1, none⟩ = some u1 ∧ w.cell? ⟨g2, i2, none⟩ = some u2) : w'.cell? ⟨g1, i1, none⟩ = some u1 ∧ w'.cell? ⟨g2, i2, none⟩ = some u2 :=
  ⟨(f.cell (World.block_lt_of_cell? w _ h.1)).trans h.1, (f.cell (World.block_lt_of_cell? w _ h.2)).trans h.2⟩

end Go.Proofs.YtigoffdehdobiaaGreat
/- A row of pairs that the call owns, written in place. No function of the program is named here. -/
namespace Go.QS
open Go.RowKit

/-- Block g, from its head on, is a row of pairs of the call's own. -/
def Rw (base : Nat) (e : TypeId) (w : World) (g cap : Nat) (l : List Pr) : Prop := w.ownsRow base e 2 (.slice (some ⟨g, 0, none⟩) l.length cap) l.length (flat l)

section
variable {base : Nat} {e : TypeId} {w w' : World} {g cap : Nat} {l : List Pr}
theorem Rw.get (h : Rw base e w g cap l) {i : Nat} {p : Pr} (hp : l[i]? = some p) : w.cell? ⟨g, i * 2, none⟩ = some (str p.1) ∧ w.cell? ⟨g, i * 2 + 1, none⟩ = some (str p.2) := by
  have hi : i < l.length := (List.getElem?_eq_some_iff.1 hp).1
  have := flat_get hp
  exact ⟨(World.ownsRow.cellAt h _ (by omega)).trans this.1, (World.ownsRow.cellAt h _ (by omega)).trans this.2⟩
theorem Rw.free (h : Rw base e w g cap l) (j : Nat) : w.frozen? ⟨g, j, none⟩ = false := World.ownsRow.frozenAt h j
theorem Rw.ext (h : Rw base e w g cap l) (hb : Ext w w') : Rw base e w' g cap l :=
  World.ownsRow.kept h (row := none) ⟨hb.os, hb.tape, hb.output, hb.size, fun k hk _ => hb.block k hk⟩ (.inr (by simp [Value.ownBlock]))
theorem Rw.drewN (h : Rw base e w g cap l) (n : Nat) : Rw base e (w.drewN n) g cap l := h.ext (below_drewN (Ext.refl w) n)
theorem Rw.drew (h : Rw base e w g cap l) : Rw base e w.drew g cap l := h.drewN 1
theorem Rw.lt (h : Rw base e w g cap l) : g < w.heap.size := (World.ownsRow.lt h g rfl).2
theorem Rw.base_le (h : Rw base e w g cap l) : base ≤ g := (World.ownsRow.lt h g rfl).1
theorem flat_set (l : List Pr) (i : Nat) (p : Pr) : flat (l.set i p) = ((flat l).set (i * 2) (str p.1)).set (i * 2 + 1) (str p.2) := by
  induction l generalizing i with
  | nil => simp
  | cons q l ih =>
    cases i with
    | zero => simp [flat_cons]
    | succ i =>
      rw [List.set_cons_succ, flat_cons, flat_cons, ih, Nat.succ_mul]
      rfl
theorem Rw.set (h : Rw base e w g cap l) (i : Nat) (p : Pr) : Rw base e ((w.setCell ⟨g, i * 2, none⟩ (str p.1)).setCell ⟨g, i * 2 + 1, none⟩ (str p.2)) g cap (l.set i p) := by
  unfold Rw at h ⊢
  have h1 := (World.ownsRow.stored h (i * 2) (str p.1)).1
  have h2 := (World.ownsRow.stored h1 (i * 2 + 1) (str p.2)).1
  rw [flat_set, List.length_set]
  exact h2
theorem set_mid {α : Type} (X R : List α) (y z : α) : (X ++ y :: R).set X.length z = X ++ z :: R := by
  rw [List.set_append_right _ _ (Nat.le_refl _), Nat.sub_self]; rfl
theorem set_two {α : Type} (X R : List α) (y x : α) {j j1 : Nat} (hj : X.length = j) (h1 : j1 = j + 1) : ((X ++ y :: x :: R).set j1 y).set j x = X ++ x :: y :: R := by
  subst hj; subst h1
  have e : X ++ y :: x :: R = (X ++ [y]) ++ x :: R := by simp
  rw [e, show X.length + 1 = (X ++ [y]).length by simp, set_mid]
  simp
/-- How far a change of places of two blocks of one length has come. -/
def sw {α : Type} (P U M V S : List α) (i : Nat) : List α := P ++ (V.take i ++ (U.drop i ++ (M ++ (U.take i ++ (V.drop i ++ S)))))
theorem sw_zero {α : Type} (P U M V S : List α) : sw P U M V S 0 = P ++ (U ++ (M ++ (V ++ S))) := by simp [sw]
theorem sw_end {α : Type} (P U M V S : List α) (h : U.length = V.length) : sw P U M V S U.length = P ++ (V ++ (M ++ (U ++ S))) := by
  simp [sw, List.take_of_length_le (Nat.le_of_eq h.symm), List.drop_eq_nil_of_le (Nat.le_of_eq h.symm)]
theorem sw_length {α : Type} (P U M V S : List α) (i : Nat) : (sw P U M V S i).length = (P ++ (U ++ (M ++ (V ++ S)))).length := by
  simp [sw]; omega
theorem sw_get {α : Type} {P U M V S : List α} {i : Nat} {u v : α} (hu : U[i]? = some u) (hv : V[i]? = some v) :
    (sw P U M V S i)[P.length + i]? = some u ∧ (sw P U M V S i)[P.length + (U.length + M.length) + i]? = some v := by
  have hiu := (List.getElem?_eq_some_iff.1 hu).1
  have hiv := (List.getElem?_eq_some_iff.1 hv).1
  have e1 : (V.take i).length = i := List.length_take_of_le (by omega)
  have e2 : (U.take i).length = i := List.length_take_of_le (by omega)
  constructor
  · unfold sw
    rw [List.getElem?_append_right (by omega), List.getElem?_append_right (by omega), List.getElem?_append_left (by simp; omega), List.getElem?_drop, e1]
    rw [← hu]; congr 1; omega
  · unfold sw
    rw [List.getElem?_append_right (by omega), List.getElem?_append_right (by omega), List.getElem?_append_right (by simp; omega), List.getElem?_append_right (by simp; omega), List.getElem?_append_right (by simp; omega),
      List.getElem?_append_left (by simp; omega), List.getElem?_drop, e1, e2, List.length_drop]
    rw [← hv]; congr 1; omega
theorem sw_step {α : Type} {P U M V S : List α} {i : Nat} {u v : α} (hu : U[i]? = some u) (hv : V[i]? = some v) :
    ((sw P U M V S i).set (P.length + i) v).set (P.length + (U.length + M.length) + i) u = sw P U M V S (i + 1) := by
  have hiu := (List.getElem?_eq_some_iff.1 hu).1
  have hiv := (List.getElem?_eq_some_iff.1 hv).1
  have d1 : U.drop i = u :: U.drop (i + 1) := by rw [List.drop_eq_getElem?_toList_append, hu]; rfl
  have d2 : V.drop i = v :: V.drop (i + 1) := by rw [List.drop_eq_getElem?_toList_append, hv]; rfl
  have e1 : (V.take i).length = i := List.length_take_of_le (by omega)
  have e2 : (U.take i).length = i := List.length_take_of_le (by omega)
  have e3 : sw P U M V S i = (P ++ V.take i) ++ u :: (U.drop (i + 1) ++ (M ++ (U.take i ++ (V.drop i ++ S)))) := by unfold sw; rw [d1]; simp
  have l1 : P.length + i = (P ++ V.take i).length := by simp; omega
  rw [e3, l1, set_mid]
  have e4 : (P ++ V.take i) ++ v :: (U.drop (i + 1) ++ (M ++ (U.take i ++ (V.drop i ++ S)))) = (P ++ (V.take (i + 1) ++ (U.drop (i + 1) ++ (M ++ U.take i)))) ++ v :: (V.drop (i + 1) ++ S) := by
    rw [d2, take_snoc hv]; simp
  have l2 : P.length + (U.length + M.length) + i = (P ++ (V.take (i + 1) ++ (U.drop (i + 1) ++ (M ++ U.take i)))).length := by
    simp only [List.length_append, List.length_drop, e2, List.length_take_of_le (show i + 1 ≤ V.length by omega)]; omega
  rw [e4, l2, set_mid]
  unfold sw
  rw [take_snoc hu]; simp
theorem set_two' {α : Type} (X R : List α) (x v : α) {k k1 : Nat} (hk : X.length = k) (h1 : k1 = k + 1) : ((X ++ x :: v :: R).set k v).set k1 x = X ++ v :: x :: R := by
  subst hk; subst h1
  rw [set_mid]
  have e : X ++ v :: v :: R = (X ++ [v]) ++ v :: R := by simp
  rw [e, show X.length + 1 = (X ++ [v]).length by simp, set_mid]
  simp
theorem get_mid {α : Type} (X R : List α) (x : α) {k : Nat} (hk : X.length = k) : (X ++ x :: R)[k]? = some x := by subst hk; simp
theorem get_mid1 {α : Type} (X R : List α) (x v : α) {k : Nat} (hk : X.length + 1 = k) : (X ++ x :: v :: R)[k]? = some v := by
  subst hk; rw [List.getElem?_append_right (by omega), show X.length + 1 - X.length = 1 by omega]; rfl
theorem Rw.swap (h : Rw base e w g cap l) (i : Nat) (p : Pr) (j : Nat) (q : Pr) :
    Rw base e ((((w.setCell ⟨g, i * 2, none⟩ (str p.1)).setCell ⟨g, i * 2 + 1, none⟩ (str p.2)).setCell ⟨g, j * 2, none⟩ (str q.1)).setCell ⟨g, j * 2 + 1, none⟩ (str q.2)) g cap ((l.set i p).set j q) := (h.set i p).set j q
theorem grown_setCell (w : World) (g j : Nat) (u : Value) : w.grownBy (w.setCell ⟨g, j, none⟩ u) (some g) :=
  ⟨rfl, rfl, rfl, by simp [World.setCell], fun k _ hk => Below.heap_setCell _ _ _ _ (by simpa using hk)⟩
theorem grown_swap (w : World) (g i j k m : Nat) (u1 u2 u3 u4 : Value) : w.grownBy ((((w.setCell ⟨g, i, none⟩ u1).setCell ⟨g, j, none⟩ u2).setCell ⟨g, k, none⟩ u3).setCell ⟨g, m, none⟩ u4) (some g) :=
  (((grown_setCell w g i u1).trans (grown_setCell _ g j u2)).trans (grown_setCell _ g k u3)).trans (grown_setCell _ g m u4)
theorem grown_ext {row : Option Nat} (hb : Ext w w') : w.grownBy w' row := ⟨hb.os, hb.tape, hb.output, hb.size, fun k hk _ => hb.block k hk⟩
end
end Go.QS
