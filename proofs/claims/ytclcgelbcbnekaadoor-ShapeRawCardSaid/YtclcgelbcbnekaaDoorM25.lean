/- Texts joined. -/
import Derived.Test.YtclcgelbcbnekaaDoorRows
import Derived.Test.YtclcgelbcbnekaaDoorM22
import Derived.Deep.RegionHeld3
import Derived.Deep.DeepCutAuto
import Derived.Deep.LoopGhost
import Derived.BigQuiet
import Derived.Test.YtclcgelbcbnekaaDoorM03
import Derived.Lib.ConvBytes
set_option linter.unusedVariables false
set_option linter.unusedSimpArgs false
/- The document's trees in memory; contract: its Common. -/
namespace Go.QS
open Go.RowKit

/-- A node of the document's. -/
def TreeAt (T : TypeId) (w : World) (g : Nat) (lab : List UInt8) (val : Option (List UInt8)) (kv : Value) : Prop :=
  w.heap[g]? = some (.cells #[str lab, .bool val.isSome, str (val.getD []), kv] T (0, 0))
section
variable {T TP : TypeId} {w w' : World} {g base : Nat} {lab : List UInt8} {val : Option (List UInt8)} {kv : Value} {t : RT} {ps : List Nat} {ks : List RT}
theorem TreeAt.lt (h : TreeAt T w g lab val kv) : g < w.heap.size := heap_lt h
theorem TreeAt.ext (h : TreeAt T w g lab val kv) (hb : Ext w w') : TreeAt T w' g lab val kv := (hb.block g h.lt).trans h
theorem TreeAt.cells (h : TreeAt T w g lab val kv) : w.cell? ⟨g, 0, none⟩ = some (str lab) ∧ w.cell? ⟨g, 1, none⟩ = some (.bool val.isSome) ∧ w.cell? ⟨g, 2, none⟩ = some (str (val.getD [])) ∧ w.cell? ⟨g, 3, none⟩ = some kv := by
  unfold TreeAt at h
  simp [World.cell?, h]
theorem TreeAt.free (h : TreeAt T w g lab val kv) (j : Nat) : w.frozen? ⟨g, j, none⟩ = false := by
  unfold TreeAt at h
  simp [World.frozen?, h]
theorem TreeAt.set12 (h : TreeAt T w g lab val kv) (v : List UInt8) : TreeAt T ((w.setCell ⟨g, 1, none⟩ (.bool true)).setCell ⟨g, 2, none⟩ (str v)) g lab (some v) kv := heap_set (heap_set h 1 _) 2 _
theorem TreeAt.set3 (h : TreeAt T w g lab val kv) (kv' : Value) : TreeAt T (w.setCell ⟨g, 3, none⟩ kv') g lab val kv' := heap_set h 3 _
theorem TreeAt.new (T : TypeId) (w : World) (hg : g = w.heap.size) : TreeAt T (w.alloc (.cells #[str lab, .bool val.isSome, str (val.getD []), kv] T)) g lab val kv := by
  subst hg; simp only [TreeAt, World.alloc]; simp

theorem own_keep {n : Nat} {xs : List Value} {v : Value} {e : TypeId} {k : Nat} (h : w.ownsRow base e k v n xs) (hk : ∀ b, v.ownBlock = some b → w'.heap[b]? = w.heap[b]?) : w'.ownsRow base e k v n xs := by
  refine ⟨h.1, ?_⟩
  rcases h.2 with h | ⟨g, cap, cur, h1, h2, h3, h4⟩
  · exact .inl h
  · exact .inr ⟨g, cap, cur, h1, h2, (hk g (by rw [h1]; rfl)).trans h3, h4⟩
theorem own_base' {b b' n k : Nat} {e : TypeId} {v : Value} {xs : List Value} (h : w.ownsRow b' e k v n xs) (hb : b ≤ b') : w.ownsRow b e k v n xs := by
  refine ⟨h.1, ?_⟩
  rcases h.2 with h | ⟨g, cap, cur, h1, h2, h3⟩
  · exact .inl h
  · exact .inr ⟨g, cap, cur, h1, Nat.le_trans hb h2, h3⟩

/-- A node of the document's in memory is this tree, and lies in these blocks alone. -/
inductive RepS (T TP : TypeId) (S : Nat → Prop) (w : World) : Nat → RT → Prop
  | mk {g : Nat} {t : RT} {kv : Value} {ps : List Nat} (h : TreeAt T w g t.lab t.val kv) (hb : S g) (hs : w.ownsRow 0 TP 1 kv ps.length (ptrs ps)) (hS : ∀ b, kv.ownBlock = some b → S b) (hl : ps.length = t.kids.length)
      (hk : ∀ (j p : Nat) (k : RT), ps[j]? = some p → t.kids[j]? = some k → RepS T TP S w p k) : RepS T TP S w g t
def RepsS (T TP : TypeId) (S : Nat → Prop) (w : World) (ps : List Nat) (ks : List RT) : Prop := ps.length = ks.length ∧ ∀ (j p : Nat) (k : RT), ps[j]? = some p → ks[j]? = some k → RepS T TP S w p k
variable {S S' : Nat → Prop}
theorem RepS.keep (h : RepS T TP S w g t) (hk : ∀ b, S b → b < w.heap.size → w'.heap[b]? = w.heap[b]?) : RepS T TP S w' g t := by
  induction h with
  | mk h hb hs hS hl _ ih => exact .mk ((hk _ hb h.lt).trans h) hb (own_keep hs fun b hb => hk b (hS b hb) (hs.lt b hb).2) hS hl ih
theorem RepS.mono (h : RepS T TP S w g t) (hs : ∀ b, b < w.heap.size → S b → S' b) : RepS T TP S' w g t := by
  induction h with
  | mk h hb hs' hS hl _ ih => exact .mk h (hs _ h.lt hb) hs' (fun b hb => hs b (hs'.lt b hb).2 (hS b hb)) hl ih
theorem RepS.ext (h : RepS T TP S w g t) (f : Ext w w') : RepS T TP S w' g t := h.keep fun b _ hb => f.block b hb
theorem RepsS.keep (h : RepsS T TP S w ps ks) (hk : ∀ b, S b → b < w.heap.size → w'.heap[b]? = w.heap[b]?) : RepsS T TP S w' ps ks := ⟨h.1, fun j p k h1 h2 => (h.2 j p k h1 h2).keep hk⟩
theorem RepsS.mono (h : RepsS T TP S w ps ks) (hs : ∀ b, b < w.heap.size → S b → S' b) : RepsS T TP S' w ps ks := ⟨h.1, fun j p k h1 h2 => (h.2 j p k h1 h2).mono hs⟩
theorem RepsS.ext (h : RepsS T TP S w ps ks) (f : Ext w w') : RepsS T TP S w' ps ks := h.keep fun b _ hb => f.block b hb
theorem RepsS.nil : RepsS T TP S w [] [] := ⟨rfl, fun j p k h => by simp at h⟩
theorem RepsS.snoc {p : Nat} {k : RT} (h : RepsS T TP S w ps ks) (hp : RepS T TP S w p k) : RepsS T TP S w (ps ++ [p]) (ks ++ [k]) := by
  refine ⟨by simp [h.1], fun j q t h1 h2 => ?_⟩
  rw [List.getElem?_append] at h1 h2
  have hl := h.1
  split at h1
  · rename_i hj
    rw [if_pos (by omega)] at h2
    exact h.2 j q t h1 h2
  · rename_i hj
    rw [if_neg (by omega)] at h2
    obtain ⟨m, hm⟩ : ∃ m, j - ps.length = m := ⟨_, rfl⟩
    rw [hm] at h1
    rw [← hl, hm] at h2
    cases m with
    | zero => simp at h1 h2; subst h1 h2; exact hp
    | succ m => simp at h1
theorem RepS.open (h : RepS T TP S w g t) : ∃ kv ps, TreeAt T w g t.lab t.val kv ∧ w.ownsRow 0 TP 1 kv ps.length (ptrs ps) ∧ RepsS T TP S w ps t.kids := by
  cases h with
  | mk h hb hs hS hl hk => exact ⟨_, _, h, hs, hl, hk⟩

/-- The same, from a base on. -/
abbrev RepD (T TP : TypeId) (base : Nat) (w : World) (g : Nat) (t : RT) : Prop := RepS T TP (fun b => base ≤ b) w g t
abbrev RepsD (T TP : TypeId) (base : Nat) (w : World) (ps : List Nat) (ks : List RT) : Prop := RepsS T TP (fun b => base ≤ b) w ps ks
theorem RepD.mk (h : TreeAt T w g t.lab t.val kv) (hb : base ≤ g) (hs : w.ownsRow base TP 1 kv ps.length (ptrs ps)) (hl : ps.length = t.kids.length)
    (hk : ∀ (j p : Nat) (k : RT), ps[j]? = some p → t.kids[j]? = some k → RepD T TP base w p k) : RepD T TP base w g t :=
  RepS.mk h hb (own_base' hs (Nat.zero_le _)) (fun b hb => (hs.lt b hb).1) hl hk
theorem repD_set (h : RepD T TP base w g t) (a : Addr) (u : Value) (ha : a.block < base) : RepD T TP base (w.setCell a u) g t := h.keep fun b hb _ => Below.heap_setCell w a u b (by omega)
theorem repD_mono {b' : Nat} (h : RepD T TP base w g t) (hb : b' ≤ base) : RepD T TP b' w g t := RepS.mono h fun b _ h => Nat.le_trans hb h
theorem repsD_mono {b' : Nat} (h : RepsD T TP base w ps ks) (hb : b' ≤ base) : RepsD T TP b' w ps ks := RepsS.mono h fun b _ h => Nat.le_trans hb h
end

/-- append at a step of a region that draws its order. -/
theorem step_appE {P : Program} {W w : World} {ops : Array Oper} {o : Oper} {a : Act} {K : Act → World → Prop} {Q : Exit → Act → World → Prop} {E : Prop} (hgd : o.guard = none) (s x : Operand) (t : TypeId)
    (ho : o.op = .call { callee := .builtin .append, args := #[s, x], argTypes := #[t, t] })
    (e : TypeId) (size bytes : Nat) (ht : P.underlying t = some (.slice e)) (hi : ∃ i z, P.info? e = some i ∧ i.zero = some z ∧ i.size = size ∧ i.bytes = bytes ∧ z.cells.size = size) (hsz : 0 < size)
    (v : Value) (n : Nat) (xs : List Value) (hs : a.eval s = v) (hown : w.ownsRow W.heap.size e size v n xs) (hb : Below W.heap.size W w)
    (A : Option Addr) (m c : Nat) (news : List Value) (hx : a.eval x = .slice A m c) (hl : news.length = m * size) (hr : Seg w A news) (h1 : ∀ u ∈ news, u.oneCell' = true)
    (h63 : n + m ≤ maxLen) (hbytes : (n + m) * bytes ≤ 140737488355328)
    (h : ∀ v' w', w'.ownsRow W.heap.size e size v' (n + m) (xs ++ news) → Below W.heap.size W w' → w.grownBy w' v.ownBlock → K (a.put o.dst v') w') :
    if Region.wanted o (yielded ops a.tmps) = true then Oper.wp P o a w K Q else E := by
  have hw : Region.wanted o (yielded ops a.tmps) = true := by simp [Region.wanted, hgd]
  rw [if_pos hw]
  obtain ⟨i, z, hi, hz, hsize, hby, hzs⟩ := hi
  obtain ⟨v', w', hrun, h2, h3, h4⟩ := run_app (P := P) w W.heap.size t o.type e i z size bytes ht hi hz hsize hby hzs hsz v n xs hown A m c news hl hr h1 h63 hbytes hb.size
  unfold Oper.wp execOp
  simp only [ho, resolve, invoke, builtin, Sem.run_bind, Sem.run_pure, Result.andThen_ok, List.map_toArray, List.map_cons, List.map_nil, hs, hx, hrun]
  exact h v' w' h2 (hb.grown h3 hb.size fun k hk => (hown.lt k hk).1) h3
/-- The same, of a row from a base on; what it says of the world is that it has grown. -/
theorem step_appB {P : Program} {w : World} {ops : Array Oper} {o : Oper} {a : Act} {K : Act → World → Prop} {Q : Exit → Act → World → Prop} {E : Prop} (hgd : o.guard = none) (s x : Operand) (t : TypeId)
    (ho : o.op = .call { callee := .builtin .append, args := #[s, x], argTypes := #[t, t] }) (base : Nat)
    (e : TypeId) (size bytes : Nat) (ht : P.underlying t = some (.slice e)) (hi : ∃ i z, P.info? e = some i ∧ i.zero = some z ∧ i.size = size ∧ i.bytes = bytes ∧ z.cells.size = size) (hsz : 0 < size)
    (v : Value) (n : Nat) (xs : List Value) (hs : a.eval s = v) (hown : w.ownsRow base e size v n xs)
    (A : Option Addr) (m c : Nat) (news : List Value) (hx : a.eval x = .slice A m c) (hl : news.length = m * size) (hr : Seg w A news) (h1 : ∀ u ∈ news, u.oneCell' = true)
    (h63 : n + m ≤ maxLen) (hbytes : (n + m) * bytes ≤ 140737488355328) (hbase : base ≤ w.heap.size)
    (h : ∀ v' w', w'.ownsRow base e size v' (n + m) (xs ++ news) → w.grownBy w' v.ownBlock → (∀ g, v.ownBlock = some g → base ≤ g) → K (a.put o.dst v') w') :
    if Region.wanted o (yielded ops a.tmps) = true then Oper.wp P o a w K Q else E := by
  have hw : Region.wanted o (yielded ops a.tmps) = true := by simp [Region.wanted, hgd]
  rw [if_pos hw]
  obtain ⟨i, z, hi, hz, hsize, hby, hzs⟩ := hi
  obtain ⟨v', w', hrun, h2, h3, h4⟩ := run_app (P := P) w base t o.type e i z size bytes ht hi hz hsize hby hzs hsz v n xs hown A m c news hl hr h1 h63 hbytes hbase
  unfold Oper.wp execOp
  simp only [ho, resolve, invoke, builtin, Sem.run_bind, Sem.run_pure, Result.andThen_ok, List.map_toArray, List.map_cons, List.map_nil, hs, hx, hrun]
  exact h v' w' h2 h3 (fun k hk => (hown.lt k hk).1)
end Go.QS
namespace Go.Proofs.YtclcgelbcbnekaaDoor
open Go.RowKit Go.QS
set_option linter.unusedVariables false

theorem infoRU : ∃ i z, Tryd.prog.info? 52 = some i ∧ i.zero = some z ∧ i.size = 2 ∧ i.bytes = 32 ∧ z.cells.size = 2 := info_of (z := .agg #[str [], str []]) (by kernel_rfl) rfl

end Go.Proofs.YtclcgelbcbnekaaDoor
/- Contract: a branch of the document's tree, of its groups. -/
namespace Go.Proofs.YtclcgelbcbnekaaDoor
open Go.RowKit Go.QS
set_option linter.unusedVariables false

theorem keep3' {w w' : World} {g1 g2 i1 i2 : Nat} {u1 u2 : Value} (f : Ext w w') (h : w.cell? ⟨g1, i1, none⟩ = some u1 ∧ w.cell? ⟨g2, i2, none⟩ = some u2) : w'.cell? ⟨g1, i1, none⟩ = some u1 ∧ w'.cell? ⟨g2, i2, none⟩ = some u2 :=
  ⟨(f.cell (World.block_lt_of_cell? w _ h.1)).trans h.1, (f.cell (World.block_lt_of_cell? w _ h.2)).trans h.2⟩

theorem own_slice' {w : World} {base : Nat} {e : TypeId} {k n : Nat} {v : Value} {xs : List Value} (h : w.ownsRow base e k v n xs) : ∃ A c, v = .slice A n c := by
  rcases h.2 with ⟨rfl, rfl⟩ | ⟨g, cap, cur, h1, h2, h3, h4⟩
  · exact ⟨_, _, rfl⟩
  · exact ⟨_, _, h1⟩
theorem arm3 {T : TypeId} {w wa X w3 : World} {g7 g10 : Nat} {lab : List UInt8} {val : Option (List UInt8)} {kv v8 : Value} {o : Obj} (hX : Ext wa X) (hg : X.grownBy w3 v8.ownBlock) (hrow : ∀ g, v8.ownBlock = some g → g7 + 1 ≤ g ∧ g < g10)
    (hw : Ext w wa) (hw7 : w.heap.size ≤ g7) (T7 : TreeAt T wa g7 lab val kv) (hB : wa.heap[g10]? = some o) : Ext w w3 ∧ TreeAt T w3 g7 lab val kv ∧ w3.heap[g10]? = some o := by
  refine ⟨(hw.trans hX).grown hg (hw.trans hX).size (fun k hk => by have := hrow k hk; omega), ?_, ?_⟩
  · have h := T7.ext hX
    exact (hg.block g7 h.lt (fun e => by have := hrow g7 e.symm; omega)).trans h
  · have h := (hX.block g10 (heap_lt hB)).trans hB
    exact (hg.block g10 (heap_lt h) (fun e => by have := hrow g10 e.symm; omega)).trans h
theorem ext_alloc' {a b : World} (h : Ext a b) (o : Obj) : Ext a (b.alloc o) := h.alloc h.size o
theorem ext_drew' {a b : World} (h : Ext a b) : Ext a b.drew := h.drew
theorem box_cells' {w : World} {g : Nat} {a b : Value} {t : TypeId} {f : Nat × Nat} (h : w.heap[g]? = some (.cells #[a, b] t f)) : w.cell? ⟨g, 0, none⟩ = some a ∧ w.cell? ⟨g, 1, none⟩ = some b := by
  simp [World.cell?, h]

end Go.Proofs.YtclcgelbcbnekaaDoor
/- Contracts: the document's groups, Of. -/
namespace Go.Proofs.YtclcgelbcbnekaaDoor
open Go.RowKit Go.QS
set_option linter.unusedVariables false

theorem reps_grow {T TP : TypeId} {B : Nat} {X w8 : World} {v v' : Value} {ps : List Nat} {ks : List RT} (hR : RepsS T TP (fun b => B ≤ b ∧ v.ownBlock ≠ some b) X ps ks) (hg : X.grownBy w8 v.ownBlock) (hor : v'.ownBlock = v.ownBlock ∨ v'.ownBlock = some X.heap.size) :
    RepsS T TP (fun b => B ≤ b ∧ v'.ownBlock ≠ some b) w8 ps ks := by
  have h1 : RepsS T TP (fun b => (B ≤ b ∧ v.ownBlock ≠ some b) ∧ v'.ownBlock ≠ some b) X ps ks := hR.mono fun b hlt hb => ⟨hb, by
    rcases hor with h | h
    · rw [h]; exact hb.2
    · rw [h]; intro e; cases e; exact Nat.lt_irrefl _ hlt⟩
  have h2 := h1.keep (w' := w8) fun b hb hlt => hg.block b hlt (fun e => hb.1.2 e.symm)
  exact h2.mono fun b _ hb => ⟨hb.1.1, hb.2⟩
theorem ps_cut {w : World} {b o n C i k : Nat} {l : List Pr} (hn : n = l.length) (hs : Seg w (some ⟨b, o, none⟩) (flat l)) (hC : C ≤ maxLen) (hnC : n ≤ C) (hik : i ≤ k) (hkn : k ≤ n) : PS w (.slice (some ⟨b, o + i * 2, none⟩) (k - i) (C - i)) ((l.drop i).take (k - i)) := by
  have hl : ((l.drop i).take (k - i)).length = k - i := by rw [List.length_take, List.length_drop]; omega
  refine ⟨_, _, by rw [hl], by rw [flat_length], by omega, by omega, ?_⟩
  rw [flat_take, flat_drop]
  exact (hs.drop (i * 2)).take _

end Go.Proofs.YtclcgelbcbnekaaDoor
/- Contract: the document's Of: the tree of a list that rises. -/
namespace Go.Proofs.YtclcgelbcbnekaaDoor
open Go.RowKit Go.QS
set_option linter.unusedVariables false

theorem run_fromU {P : Program} {t e : TypeId} {size : Nat} (ht : P.underlying t = some (.slice e)) (hi : ∃ i z, P.info? e = some i ∧ i.zero = some z ∧ i.size = size ∧ i.bytes = 32 ∧ z.cells.size = size) (A : Option Addr) {n c i : Nat} (hin : i ≤ n) (hnc : n ≤ c) :
    ∃ A2, (∀ w, (Instr.slice t (.slice A n c) (some (.int .i64 (i : Int))) none none).run P w = .ok (.slice A2 (n - i) (c - i)) w) ∧
      ∀ (w : World) (xs : List Value), xs.length = n * size → Seg w A xs → Seg w A2 (xs.drop (i * size)) := by
  obtain ⟨inf, z, hi, hz, hs, hb, hzs⟩ := hi
  refine ⟨if c = i then A else A.map (·.add (i * size)), fun w => ?_, fun w xs hl hs => ?_⟩
  · have h1 : (0 : Int) ≤ (i : Int) := by omega
    have h2 : (i : Int) ≤ (n : Int) := by omega
    simp [Instr.slice, Instr.sliceBounds, Instr.sliceBound, asIntOf, run_underlying ht, sizeOf, typeInfo, hi, hs, hin]
  · by_cases h : c = i
    · have : xs.drop (i * size) = [] := List.drop_eq_nil_of_le (by rw [hl]; exact Nat.mul_le_mul_right _ (by omega))
      rw [this]; exact Seg.nil _ _
    · rw [if_neg h]
      intro hne
      obtain ⟨b, o, hA, hc⟩ := hs (fun e => hne (by simp [e]))
      subst hA
      have := Seg.drop (w := w) (b := b) (o := o) hs (i * size)
      obtain ⟨b', o', hA', hc'⟩ := this hne
      cases hA'
      exact ⟨b, o + i * size, by simp [Addr.add_lit], hc'⟩

theorem rise_ne {p : Pr} {r : List Pr} (h : Rise (p :: r)) : ∀ q ∈ r, q.1 ≠ [] := by
  intro q hq e
  have := (rise_cons.1 h).1 q hq
  rw [e] at this
  exact absurd this (List.not_lt_nil _)

end Go.Proofs.YtclcgelbcbnekaaDoor
/- Contracts: how a tree looks, byte by byte; are two alike? -/
namespace Go.Proofs.YtclcgelbcbnekaaDoor
open Go.RowKit Go.QS
set_option linter.unusedVariables false

theorem kid_size {t k : RT} (h : k ∈ t.kids) : SizeOf.sizeOf k < SizeOf.sizeOf t := by
  obtain ⟨a, b, c⟩ := t
  have := List.sizeOf_lt_of_mem h
  simp only [RT.kids_node] at this
  simp; omega

def headB_len' (lab : List UInt8) (val : Option (List UInt8)) : Nat := 5 + lab.length + vlen val
theorem byte_len (n : Nat) : (n : Int) % 256 = ((UInt8.ofNat n).toNat : Int) := by simp
theorem keep_n {w w' : World} {g : Nat} {u0 u1 u2 u3 : Value} (f : Ext w w') (h : w.cell? ⟨g, 0, none⟩ = some u0 ∧ w.cell? ⟨g, 1, none⟩ = some u1 ∧ w.cell? ⟨g, 2, none⟩ = some u2 ∧ w.cell? ⟨g, 3, none⟩ = some u3) :
    w'.cell? ⟨g, 0, none⟩ = some u0 ∧ w'.cell? ⟨g, 1, none⟩ = some u1 ∧ w'.cell? ⟨g, 2, none⟩ = some u2 ∧ w'.cell? ⟨g, 3, none⟩ = some u3 :=
  ⟨(f.cell (World.block_lt_of_cell? w _ h.1)).trans h.1, (f.cell (World.block_lt_of_cell? w _ h.2.1)).trans h.2.1, (f.cell (World.block_lt_of_cell? w _ h.2.2.1)).trans h.2.2.1, (f.cell (World.block_lt_of_cell? w _ h.2.2.2)).trans h.2.2.2⟩

theorem ext_allocT {a b : World} (h : Ext a b) (o : Obj) : Ext a (b.alloc o) := h.alloc h.size o
theorem ext_drewT {a b : World} (h : Ext a b) : Ext a b.drew := h.drew
theorem bs_of_own {W w : World} {v : Value} {l : List UInt8} (h : w.ownsRow W.heap.size 5 1 v l.length (encB l)) : BS w v l := BS.of_own h

end Go.Proofs.YtclcgelbcbnekaaDoor
/- Contracts: the document's Two, Text, Same of bytes. -/
namespace Go.QS
open Go.RowKit
/-- []byte(s). -/
theorem wpList_bytesOf {P : Program} {w : World} {ops : Array Oper} {rest : List Oper} {o : Oper} {a : Act} {Q : Exit → Act → World → Prop} (hgd : o.guard = none) (x : Operand) (src dst e : TypeId)
    (ho : o.op = .convert src dst x) (hs : P.underlying src = some .string) (hd : P.underlying dst = some (.slice e)) (he : P.underlying e = some (.int .u8)) (s : List UInt8) (hx : a.eval x = str s)
    (h : ∀ A c w', Seg w' A (encB s) → Ext w w' → wpList P ops Q rest (a.put o.dst (.slice A s.length c)) w') : wpList P ops Q (o :: rest) a w :=
  wpList_plain hgd fun _ hK => by
    have hrun := Lib.run_convert_string_bytes (P := P) w src dst e (bs s) hs hd he
    unfold Oper.wp execOp
    simp only [ho, hx, str, Sem.run_bind, hrun, Result.andThen_ok, Sem.run_pure, bs_size]
    refine hK _ _ (h _ _ _ ?_ ?_)
    · intro hne
      refine ⟨_, _, rfl, fun j u hj => ?_⟩
      have hjl : j < s.length := by have := (List.getElem?_eq_some_iff.1 hj).1; rwa [encB_length] at this
      rw [Nat.zero_add, Lib.bytesWorld_cell w e (bs s) j (by simpa using hjl)]
      obtain ⟨y, hy⟩ := get_of_lt s hjl
      rw [encB_get hy] at hj
      rw [← hj]
      simp [bs, hy]
    · exact ⟨rfl, rfl, rfl, by rw [Lib.bytesWorld_size]; omega, fun k hk => Lib.bytesWorld_at_old w e (bs s) k hk⟩
end Go.QS
namespace Go.Proofs.YtclcgelbcbnekaaDoor
open Go.RowKit Go.QS
set_option linter.unusedVariables false


set_option maxRecDepth 100000 in
theorem two_c (w : World) (n : Nat) (hn : n ≤ 1000000000) : Calls Tryd.prog 31 #[.int .i64 n] w fun e w' => ∃ v', e = .returned v' ∧ w'.ownsRow w.heap.size 5 1 v' 2 (encB (twoB n)) ∧ Ext w w' := by
  obtain ⟨x0, hx0⟩ : ∃ x0, x0 = UInt8.ofNat n := ⟨_, rfl⟩
  obtain ⟨x1, hx1⟩ : ∃ x1, x1 = UInt8.ofNat (n / 256) := ⟨_, rfl⟩
  have hb0 : (n : Int) % 256 = (x0.toNat : Int) := by rw [hx0]; simp
  have hb1 : (n : Int) / 256 % 256 = (x1.toNat : Int) := by rw [hx1]; simp
  have HX : Hid (twoB n = [x0, x1]) := Lib.hid (by rw [hx0, hx1]; rfl)
  clear hx0 hx1
  go_enter Tryd.func31, Tryd.ntmps31
  repeat' (first | go_skip | go_guarded | go_step)
  go_ret
  refine ⟨_, rfl, ?_, (Ext.refl w).alloc (Nat.le_refl _) _⟩
  rw [HX.out]
  exact own_lit (encB [x0, x1]) 2 (by decide) rfl (Nat.le_refl _)

set_option maxRecDepth 100000 in
theorem rtext_c (w : World) (s : List UInt8) (hs : s.length ≤ 100000000) : Calls Tryd.prog 63 #[str s] w fun e w' => ∃ v', e = .returned v' ∧ w'.ownsRow w.heap.size 5 1 v' (textB s).length (encB (textB s)) ∧ Ext w w' := by
  go_enter Tryd.func63, Tryd.ntmps63
  repeat' (first | go_at_call 31 | go_skip | go_guarded | go_step)
  refine (two_c w s.length (by omega)).mono ?_
  rintro e w1 ⟨v1, rfl, h1, f1⟩
  have H1 := Lib.hid (And.intro h1 f1)
  obtain ⟨A1, c1, rfl⟩ := own_slice' h1
  clear h1 f1
  go_simp
  repeat' (first | go_skip | go_guarded | (refine wpList_bytesOf rfl (.tmp 6) _ _ 5 rfl Tryd.underlying9 Tryd.underlying34 Tryd.underlying5 s rfl ?_; intro A2 c2 w2 hseg2 f2) | (at_builtin; refine wpList_appE (W := w) rfl (.tmp 5) (.tmp 7) _ rfl 5 1 1 Tryd.underlying34 infoB (by decide) _ _ _ rfl (row_ext H1.out.1 f2) (H1.out.2.trans f2) _ _ _ (encB s) rfl (by rw [encB_length, Nat.mul_one]) hseg2 (encB_one _) (by unfold maxLen; omega) (by omega) ?_; intro v8 w8 hown8 hb8) | go_step)
  go_ret
  refine ⟨_, rfl, ?_, hb8⟩
  rw [textB_len]
  unfold textB
  rw [encB_append]
  exact hown8

set_option maxRecDepth 100000 in
theorem rsame_c (w : World) (v1 v2 : Value) (a b : List UInt8) (h1 : BS w v1 a) (h2 : BS w v2 b) :
    Calls Tryd.prog 8 #[v1, v2] w fun e w' => e = .returned (.bool (decide (a = b))) ∧ Ext w w' := by
  obtain ⟨A1, c1, rfl, hn1, hc1, hs1⟩ := sl_full h1
  obtain ⟨A2, c2, rfl, hn2, hc2, hs2⟩ := sl_full h2
  have ha9 : a.length ≤ 9223372036854775807 := by unfold maxLen at hc1; omega
  have hb9 : b.length ≤ 9223372036854775807 := by unfold maxLen at hc2; omega
  have HS := Lib.hid (And.intro hs1 hs2)
  clear h1 h2 hs1 hs2
  by_cases hl : a.length = b.length
  · have d1 : (a.length != b.length) = false := by simp [hl]
    have HL := Lib.hid hl
    obtain ⟨n, hn⟩ : ∃ n, n = a.length := ⟨_, rfl⟩
    obtain ⟨m, hm⟩ : ∃ m, m = b.length := ⟨_, rfl⟩
    rw [← hn, ← hm] at d1
    rw [← hn] at ha9 hn1 ⊢
    rw [← hm] at hb9 hn2 ⊢
    have HNM : Hid (n = a.length ∧ m = b.length ∧ n = m) := Lib.hid ⟨hn, hm, by omega⟩
    clear hl hn hm
    go_enter Tryd.func8, Tryd.ntmps8
    repeat' (go_not_at_region 4; (first | go_skip | go_guarded | go_step))
    go_loopg [5, 13] n (fun gk v5 v13 wr => ∃ j : Nat, v13 = .int .i64 j ∧ j ≤ n ∧ n - j ≤ gk ∧ Ext w wr ∧ Hid (a.take j = b.take j))
    case atStart => exact ⟨0, rfl, Nat.zero_le _, Nat.le_refl _, Ext.refl _, Lib.hid rfl⟩
    case round =>
      obtain ⟨j, rfl, hjn, hgk, hE, HT⟩ := hrel
      rcases Nat.lt_or_ge j n with hlt | hge
      · have d2 : decide (j < n) = true := by simp [hlt]
        obtain ⟨x, hx⟩ := get_of_lt a (show j < a.length by have := HNM.out; omega)
        obtain ⟨y, hy⟩ := get_of_lt b (show j < b.length by have := HNM.out; omega)
        obtain ⟨b1, o1, rfl, hat1⟩ := (Seg.below HS.out.1 hE) (fun e => by have := encB_get hx; rw [e] at this; simp at this)
        obtain ⟨b2, o2, rfl, hat2⟩ := (Seg.below HS.out.2 hE) (fun e => by have := encB_get hy; rw [e] at this; simp at this)
        have q1 := hat1 j _ (encB_get hx)
        have q2 := hat2 j _ (encB_get hy)
        have hi1 : (j : Int) < (n : Int) := by omega
        have hi2 : (j : Int) < (m : Int) := by have := HNM.out; omega
        have HX := Lib.hid (And.intro hx hy)
        clear hat1 hat2 hx hy
        by_cases hxy : x = y
        · subst hxy
          have hne : ((x.toNat : Int) != (x.toNat : Int)) = false := by simp
          repeat' (go_not_at_region 6; (first | go_skip | go_guarded | go_step))
          go_quiet (fail)
          repeat' (first | go_skip | go_guarded | go_step)
          go_roundg (n - (j + 1))
          case measure => omega
          case rel => exact ⟨j + 1, by go_num, by omega, Nat.le_refl _, below_drewN hE _, Lib.hid (by rw [take_snoc HX.out.1, take_snoc HX.out.2, HT.out])⟩
        · have hxy' : x.toNat ≠ y.toNat := fun e => hxy (UInt8.toNat_inj.1 e)
          have hne : ((x.toNat : Int) != (y.toNat : Int)) = true := by rw [bne_iff_ne]; omega
          have hne' : (x.toNat != y.toNat) = true := by rw [bne_iff_ne]; exact hxy'
          have HF : Hid (decide (a = b) = false) := Lib.hid (by
            simp only [decide_eq_false_iff_not]
            intro e
            have h1 := HX.out.1
            rw [e, HX.out.2] at h1
            exact hxy (Option.some.inj h1).symm)
          clear hxy hxy'
          repeat' (go_not_at_region 6; (first | go_skip | go_guarded | go_step))
          go_quiet (fail)
          repeat' (first | go_skip | go_guarded | go_step)
          go_ret
          refine ⟨?_, below_drewN hE _⟩
          rw [HF.out]; rfl
      · obtain rfl : j = n := by omega
        have d2 : decide (j < j) = false := by simp
        have HF : Hid (decide (a = b) = true) := Lib.hid (by
          have := HT.out
          rw [List.take_of_length_le (by have := HNM.out; omega), List.take_of_length_le (by have := HNM.out; omega)] at this
          simp [this])
        repeat' (first | go_skip | go_guarded | go_step)
        go_ret
        refine ⟨?_, hE⟩
        rw [HF.out]; rfl
  · have d1 : (a.length != b.length) = true := by simp [hl]
    have HF : Hid (decide (a = b) = false) := Lib.hid (by simp only [decide_eq_false_iff_not]; intro e; exact hl (by rw [e]))
    clear hl
    go_enter Tryd.func8, Tryd.ntmps8
    repeat' (first | go_skip | go_guarded | go_step)
    go_ret
    refine ⟨?_, Ext.refl _⟩
    rw [HF.out]; rfl
end Go.Proofs.YtclcgelbcbnekaaDoor
