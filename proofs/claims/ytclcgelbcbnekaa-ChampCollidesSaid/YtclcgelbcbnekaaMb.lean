/- Texts joined. -/
import Derived.Test.YtclcgelbcbnekaaMa
import Derived.Laws.BytesArg
import Derived.Deep.OwnRows
import Derived.ArgAppend
import Derived.Lib.AppendStr
import Derived.BigRegion
import Derived.StillTailTactics
set_option linter.unusedVariables false
set_option linter.unusedSimpArgs false
/- Slices of bytes that read as lists. No function of the program is named here. -/
namespace Go.QS
open Go.RowKit

def encB (l : List UInt8) : List Value := l.map fun b => .int .u8 (b.toNat : Int)
theorem encB_length (l : List UInt8) : (encB l).length = l.length := by simp [encB]
theorem encB_one (l : List UInt8) : ∀ u ∈ encB l, u.oneCell' = true := by
  intro u hu
  obtain ⟨b, _, rfl⟩ := List.mem_map.1 hu
  rfl
theorem encB_append (a b : List UInt8) : encB (a ++ b) = encB a ++ encB b := by simp [encB]
theorem encB_get {l : List UInt8} {i : Nat} {b : UInt8} (h : l[i]? = some b) : (encB l)[i]? = some (.int .u8 (b.toNat : Int)) := by simp [encB, h]
/-- A slice of bytes. -/
def BS (w : World) (v : Value) (l : List UInt8) : Prop := Sl w 1 v l.length (encB l)
theorem BS.below {w w' : World} {v : Value} {l : List UInt8} (h : BS w v l) (hb : Below w.heap.size w w') : BS w' v l := Sl.below h hb
theorem BS.of_own {w : World} {base : Nat} {e : TypeId} {v : Value} {l : List UInt8} (h : w.ownsRow base e 1 v l.length (encB l)) : BS w v l := Sl.of_own h

/-- string(b). -/
theorem conv_bs {P : Program} {src e dst : TypeId} (hs : P.underlying src = some (.slice e)) (he : P.underlying e = some (.int .u8)) (hd : P.underlying dst = some .string) {w : World} {v : Value} {l : List UInt8} (h : BS w v l) :
    (convert src dst v).run P w = .ok (str l) w := by
  obtain ⟨A, c, rfl, hl, hn, hc, hseg⟩ := h
  cases l with
  | nil =>
    simp only [List.length_nil]
    cases A with
    | none => rw [run_convert_bytes_nil w src e hs he 0 c dst hd]; rfl
    | some a =>
      rw [run_convert_bytes_string w src dst e _ 0 c hs he hd]
      have hl : (loadCells a 0).run P w = .ok ([] : List Value).toArray w := by simp [loadCells, loadCellsFrom]
      have := run_bytesToString (P := P) w a 0 c [] hl
      rw [this]; rfl
  | cons x r =>
    obtain ⟨b, o, rfl, hat⟩ := hseg (by simp [encB])
    have := run_convert_bytes_arg (P := P) w src e hs he b o (x :: r).length c ((x :: r).map fun b => (b.toNat : Int)) (by simp) (fun i hi => by
      obtain ⟨y, hy⟩ := get_of_lt (x :: r) hi
      have e1 := hat i _ (encB_get hy)
      rw [e1]
      congr 2
      rw [List.getD_eq_getElem?_getD, List.getElem?_map, hy]; rfl) dst hd
    rw [this]
    congr 2
    simp only [strOfNums, bs, List.map_map]
    congr 2
    conv => rhs; rw [← List.map_id (x :: r)]
    refine List.map_congr_left fun b _ => ?_
    simp

/-- make([]byte, n). -/
theorem made_own {w : World} {e : TypeId} (n : Nat) (hn : n ≤ maxLen) {base : Nat} (hb : base ≤ w.heap.size) :
    (w.alloc (.cells (madeCells #[.int .u8 0] n) e)).ownsRow base e 1 (.slice (some ⟨w.heap.size, 0, none⟩) n n) n (encB (List.replicate n 0)) := by
  have h := World.ownsRow_lit (base := base) (e := e) (size := 1) w (madeCells #[.int .u8 0] n) n hb hn (by simp [madeCells])
  rw [toList_madeCells_one] at h
  have e2 : encB (List.replicate n 0) = List.replicate n (Value.int .u8 0) := by simp [encB]
  rw [e2]
  exact h
end Go.QS
/- Appends of bytes: onto a full slice of whoever's, of a string. No program. -/
namespace Go.QS
open Go.RowKit

theorem own_base {w : World} {base base' : Nat} {e : TypeId} {k n : Nat} {v : Value} {xs : List Value} (h : w.ownsRow base' e k v n xs) (hb : base ≤ base') : w.ownsRow base e k v n xs := by
  rcases h with ⟨h1, h2⟩
  refine ⟨h1, ?_⟩
  rcases h2 with h2 | ⟨g, cap, cur, rfl, hg, h3⟩
  · exact .inl h2
  · exact .inr ⟨g, cap, cur, rfl, Nat.le_trans hb hg, h3⟩

/-- A slice without spare room: what is appended goes into a new row. -/
theorem wpList_appG {P : Program} {W w : World} {ops : Array Oper} {rest : List Oper} {o : Oper} {a : Act} {Q : Exit → Act → World → Prop} (hgd : o.guard = none) (s x : Operand) (t : TypeId)
    (ho : o.op = .call { callee := .builtin .append, args := #[s, x], argTypes := #[t, t] })
    (e : TypeId) (size bytes : Nat) (ht : P.underlying t = some (.slice e)) (hi : ∃ i z, P.info? e = some i ∧ i.zero = some z ∧ i.size = size ∧ i.bytes = bytes ∧ z.cells.size = size) (hsz : 0 < size)
    (A0 : Option Addr) (n : Nat) (xs : List Value) (hs : a.eval s = .slice A0 n n) (hxl : xs.length = n * size) (h0 : Seg w A0 xs) (hb : Below W.heap.size W w)
    (A : Option Addr) (m c : Nat) (news : List Value) (hx : a.eval x = .slice A m c) (hm : 0 < m) (hl : news.length = m * size) (hr : Seg w A news) (h1 : ∀ u ∈ news, u.oneCell' = true)
    (h63 : n + m ≤ maxLen) (hbytes : (n + m) * bytes ≤ 140737488355328)
    (h : ∀ v' w', w'.ownsRow W.heap.size e size v' (n + m) (xs ++ news) → Below W.heap.size W w' → wpList P ops Q rest (a.put o.dst v') w') : wpList P ops Q (o :: rest) a w := by
  obtain ⟨i, z, h2, h3, h4, h5, h6⟩ := hi
  have hne : news ≠ [] := by
    intro e; rw [e] at hl; have := Nat.mul_pos hm hsz; simp only [List.length_nil] at hl; omega
  obtain ⟨b, o', rfl, hc⟩ := hr hne
  have hnone : A0 = none → n = 0 ∧ n = 0 := by
    intro hA
    rcases Nat.eq_zero_or_pos n with h | h
    · exact ⟨h, h⟩
    · have : xs ≠ [] := by
        intro e; rw [e] at hxl; have := Nat.mul_pos h hsz; simp only [List.length_nil] at hxl; omega
      obtain ⟨b, o, h', _⟩ := h0 this
      rw [hA] at h'; cases h'
  refine wpList_append_grows w hgd s x t ho e i z size bytes ht h2 h3 h4 h5 h6 hsz A0 n n xs hs hnone hxl ?_ ⟨b, o', none⟩ m c news hx hl ?_ h1 (by omega) h63 hbytes ?_
  · intro b0 hb0 j u hu
    obtain ⟨b1, o1, h', hc1⟩ := h0 (fun e => by rw [e] at hu; simp at hu)
    rw [hb0] at h'
    cases h'
    rw [Addr.add_lit]
    exact hc1 j u hu
  · intro j u hu
    rw [Addr.add_lit]
    exact hc j u hu
  · intro v' w' r1 r2
    exact h v' w' (own_base r1 hb.size) (hb.grown r2 hb.size fun k hk => by cases hk)

theorem strCells_str (s : List UInt8) : Lib.strCells (bs s) = encB s := by simp [Lib.strCells, encB, bs]

/-- append(b, s...), s a string. -/
theorem wpList_appS {P : Program} {W w : World} {ops : Array Oper} {rest : List Oper} {o : Oper} {a : Act} {Q : Exit → Act → World → Prop} (hgd : o.guard = none) (sl x : Operand) (t u : TypeId)
    (ho : o.op = .call { callee := .builtin .append, args := #[sl, x], argTypes := #[t, u] })
    (e : TypeId) (ht : P.underlying t = some (.slice e)) (hu : P.underlying u = some .string) (hi : ∃ i z, P.info? e = some i ∧ i.zero = some z ∧ i.size = 1 ∧ i.bytes = 1 ∧ z = .int .u8 0)
    (v : Value) (n : Nat) (xs : List Value) (hs : a.eval sl = v) (hown : w.ownsRow W.heap.size e 1 v n xs) (hb : Below W.heap.size W w) (s : List UInt8) (hx : a.eval x = str s)
    (h63 : n + s.length ≤ maxLen) (hbytes : n + s.length ≤ 140737488355328)
    (h : ∀ v' w', w'.ownsRow W.heap.size e 1 v' (n + s.length) (xs ++ encB s) → Below W.heap.size W w' → wpList P ops Q rest (a.put o.dst v') w') : wpList P ops Q (o :: rest) a w := by
  obtain ⟨i, z, h2, h3, h4, h5, rfl⟩ := hi
  refine Lib.wpList_append_own_string w hgd sl x t u ho W.heap.size e i ht hu h2 h3 h4 h5 v n xs hs hown (bs s) hx (by rw [bs_size]; exact h63) (by rw [bs_size]; exact hbytes) hb.size ?_
  intro v' w' r1 r2 _
  rw [bs_size, strCells_str] at r1
  exact h v' w' r1 (hb.grown r2 hb.size fun k hk => (hown.lt k hk).1)
end Go.QS
/- A row of pairs that the call owns, written in place. No function of the program is named here. -/
namespace Go.QS
open Go.RowKit

/-- Block g, from its head on, is a row of pairs of the call's own. -/
def Rw (base : Nat) (e : TypeId) (w : World) (g cap : Nat) (l : List Pr) : Prop := w.ownsRow base e 2 (.slice (some ⟨g, 0, none⟩) l.length cap) l.length (flat l)

section
variable {base : Nat} {e : TypeId} {w w' : World} {g cap : Nat} {l : List Pr}
theorem Rw.get (h : Rw base e w g cap l) {i : Nat} {p : Pr} (hp : l[i]? = some p) : w.cell? ⟨g, i * 2, none⟩ = some (str p.1) ∧ w.cell? ⟨g, i * 2 + 1, none⟩ = some (str p.2) := by
  have hi : i < l.length := (List.getElem?_eq_some_iff.1 hp).1
  have := flat_get hp
  exact ⟨(World.ownsRow.cellAt h _ (by omega)).trans this.1, (World.ownsRow.cellAt h _ (by omega)).trans this.2⟩
theorem Rw.free (h : Rw base e w g cap l) (j : Nat) : w.frozen? ⟨g, j, none⟩ = false := World.ownsRow.frozenAt h j
theorem Rw.ext (h : Rw base e w g cap l) (hb : Ext w w') : Rw base e w' g cap l :=
  World.ownsRow.kept h (row := none) ⟨hb.os, hb.tape, hb.output, hb.size, fun k hk _ => hb.block k hk⟩ (.inr (by simp [Value.ownBlock]))
theorem Rw.drewN (h : Rw base e w g cap l) (n : Nat) : Rw base e (w.drewN n) g cap l := h.ext (below_drewN (Ext.refl w) n)
theorem Rw.drew (h : Rw base e w g cap l) : Rw base e w.drew g cap l := h.drewN 1
theorem Rw.lt (h : Rw base e w g cap l) : g < w.heap.size := (World.ownsRow.lt h g rfl).2
theorem Rw.base_le (h : Rw base e w g cap l) : base ≤ g := (World.ownsRow.lt h g rfl).1
theorem flat_set (l : List Pr) (i : Nat) (p : Pr) : flat (l.set i p) = ((flat l).set (i * 2) (str p.1)).set (i * 2 + 1) (str p.2) := by
  induction l generalizing i with
  | nil => simp
  | cons q l ih =>
    cases i with
    | zero => simp [flat_cons]
    | succ i =>
      rw [List.set_cons_succ, flat_cons, flat_cons, ih, Nat.succ_mul]
      rfl
theorem Rw.set (h : Rw base e w g cap l) (i : Nat) (p : Pr) : Rw base e ((w.setCell ⟨g, i * 2, none⟩ (str p.1)).setCell ⟨g, i * 2 + 1, none⟩ (str p.2)) g cap (l.set i p) := by
  unfold Rw at h ⊢
  have h1 := (World.ownsRow.stored h (i * 2) (str p.1)).1
  have h2 := (World.ownsRow.stored h1 (i * 2 + 1) (str p.2)).1
  rw [flat_set, List.length_set]
  exact h2
theorem set_mid {α : Type} (X R : List α) (y z : α) : (X ++ y :: R).set X.length z = X ++ z :: R := by
  rw [List.set_append_right _ _ (Nat.le_refl _), Nat.sub_self]; rfl
theorem set_two {α : Type} (X R : List α) (y x : α) {j j1 : Nat} (hj : X.length = j) (h1 : j1 = j + 1) : ((X ++ y :: x :: R).set j1 y).set j x = X ++ x :: y :: R := by
  subst hj; subst h1
  have e : X ++ y :: x :: R = (X ++ [y]) ++ x :: R := by simp
  rw [e, show X.length + 1 = (X ++ [y]).length by simp, set_mid]
  simp
/-- How far a change of places of two blocks of one length has come. -/
def sw {α : Type} (P U M V S : List α) (i : Nat) : List α := P ++ (V.take i ++ (U.drop i ++ (M ++ (U.take i ++ (V.drop i ++ S)))))
theorem sw_zero {α : Type} (P U M V S : List α) : sw P U M V S 0 = P ++ (U ++ (M ++ (V ++ S))) := by simp [sw]
theorem sw_end {α : Type} (P U M V S : List α) (h : U.length = V.length) : sw P U M V S U.length = P ++ (V ++ (M ++ (U ++ S))) := by
  simp [sw, List.take_of_length_le (Nat.le_of_eq h.symm), List.drop_eq_nil_of_le (Nat.le_of_eq h.symm)]
theorem sw_length {α : Type} (P U M V S : List α) (i : Nat) : (sw P U M V S i).length = (P ++ (U ++ (M ++ (V ++ S)))).length := by
  simp [sw]; omega
theorem sw_get {α : Type} {P U M V S : List α} {i : Nat} {u v : α} (hu : U[i]? = some u) (hv : V[i]? = some v) :
    (sw P U M V S i)[P.length + i]? = some u ∧ (sw P U M V S i)[P.length + (U.length + M.length) + i]? = some v := by
  have hiu := (List.getElem?_eq_some_iff.1 hu).1
  have hiv := (List.getElem?_eq_some_iff.1 hv).1
  have e1 : (V.take i).length = i := List.length_take_of_le (by omega)
  have e2 : (U.take i).length = i := List.length_take_of_le (by omega)
  constructor
  · unfold sw
    rw [List.getElem?_append_right (by omega), List.getElem?_append_right (by omega), List.getElem?_append_left (by simp; omega), List.getElem?_drop, e1]
    rw [← hu]; congr 1; omega
  · unfold sw
    rw [List.getElem?_append_right (by omega), List.getElem?_append_right (by omega), List.getElem?_append_right (by simp; omega), List.getElem?_append_right (by simp; omega), List.getElem?_append_right (by simp; omega),
      List.getElem?_append_left (by simp; omega), List.getElem?_drop, e1, e2, List.length_drop]
    rw [← hv]; congr 1; omega
theorem sw_step {α : Type} {P U M V S : List α} {i : Nat} {u v : α} (hu : U[i]? = some u) (hv : V[i]? = some v) :
    ((sw P U M V S i).set (P.length + i) v).set (P.length + (U.length + M.length) + i) u = sw P U M V S (i + 1) := by
  have hiu := (List.getElem?_eq_some_iff.1 hu).1
  have hiv := (List.getElem?_eq_some_iff.1 hv).1
  have d1 : U.drop i = u :: U.drop (i + 1) := by rw [List.drop_eq_getElem?_toList_append, hu]; rfl
  have d2 : V.drop i = v :: V.drop (i + 1) := by rw [List.drop_eq_getElem?_toList_append, hv]; rfl
  have e1 : (V.take i).length = i := List.length_take_of_le (by omega)
  have e2 : (U.take i).length = i := List.length_take_of_le (by omega)
  have e3 : sw P U M V S i = (P ++ V.take i) ++ u :: (U.drop (i + 1) ++ (M ++ (U.take i ++ (V.drop i ++ S)))) := by unfold sw; rw [d1]; simp
  have l1 : P.length + i = (P ++ V.take i).length := by simp; omega
  rw [e3, l1, set_mid]
  have e4 : (P ++ V.take i) ++ v :: (U.drop (i + 1) ++ (M ++ (U.take i ++ (V.drop i ++ S)))) = (P ++ (V.take (i + 1) ++ (U.drop (i + 1) ++ (M ++ U.take i)))) ++ v :: (V.drop (i + 1) ++ S) := by
    rw [d2, take_snoc hv]; simp
  have l2 : P.length + (U.length + M.length) + i = (P ++ (V.take (i + 1) ++ (U.drop (i + 1) ++ (M ++ U.take i)))).length := by
    simp only [List.length_append, List.length_drop, e2, List.length_take_of_le (show i + 1 ≤ V.length by omega)]; omega
  rw [e4, l2, set_mid]
  unfold sw
  rw [take_snoc hu]; simp
theorem set_two' {α : Type} (X R : List α) (x v : α) {k k1 : Nat} (hk : X.length = k) (h1 : k1 = k + 1) : ((X ++ x :: v :: R).set k v).set k1 x = X ++ v :: x :: R := by
  subst hk; subst h1
  rw [set_mid]
  have e : X ++ v :: v :: R = (X ++ [v]) ++ v :: R := by simp
  rw [e, show X.length + 1 = (X ++ [v]).length by simp, set_mid]
  simp
theorem get_mid {α : Type} (X R : List α) (x : α) {k : Nat} (hk : X.length = k) : (X ++ x :: R)[k]? = some x := by subst hk; simp
theorem get_mid1 {α : Type} (X R : List α) (x v : α) {k : Nat} (hk : X.length + 1 = k) : (X ++ x :: v :: R)[k]? = some v := by
  subst hk; rw [List.getElem?_append_right (by omega), show X.length + 1 - X.length = 1 by omega]; rfl
theorem Rw.swap (h : Rw base e w g cap l) (i : Nat) (p : Pr) (j : Nat) (q : Pr) :
    Rw base e ((((w.setCell ⟨g, i * 2, none⟩ (str p.1)).setCell ⟨g, i * 2 + 1, none⟩ (str p.2)).setCell ⟨g, j * 2, none⟩ (str q.1)).setCell ⟨g, j * 2 + 1, none⟩ (str q.2)) g cap ((l.set i p).set j q) := (h.set i p).set j q
theorem grown_setCell (w : World) (g j : Nat) (u : Value) : w.grownBy (w.setCell ⟨g, j, none⟩ u) (some g) :=
  ⟨rfl, rfl, rfl, by simp [World.setCell], fun k _ hk => Below.heap_setCell _ _ _ _ (by simpa using hk)⟩
theorem grown_swap (w : World) (g i j k m : Nat) (u1 u2 u3 u4 : Value) : w.grownBy ((((w.setCell ⟨g, i, none⟩ u1).setCell ⟨g, j, none⟩ u2).setCell ⟨g, k, none⟩ u3).setCell ⟨g, m, none⟩ u4) (some g) :=
  (((grown_setCell w g i u1).trans (grown_setCell _ g j u2)).trans (grown_setCell _ g k u3)).trans (grown_setCell _ g m u4)
theorem grown_ext {row : Option Nat} (hb : Ext w w') : w.grownBy w' row := ⟨hb.os, hb.tape, hb.output, hb.size, fun k hk _ => hb.block k hk⟩
end
end Go.QS
