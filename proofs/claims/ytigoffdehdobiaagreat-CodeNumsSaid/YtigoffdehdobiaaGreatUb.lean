/- The document's trees in memory; contract: its Common. -/
import Derived.Test.YtigoffdehdobiaaGreatRows
import Derived.Test.YtigoffdehdobiaaGreatUa
import Derived.Test.YtigoffdehdobiaaGreatM08
import Derived.Deep.RegionHeld3
import Derived.Deep.DeepCutAuto
import Derived.Deep.LoopGhost
set_option linter.unusedVariables false
set_option linter.unusedSimpArgs false
namespace Go.QS
open Go.RowKit

/-- A node of the document's. -/
def TreeAt (T : TypeId) (w : World) (g : Nat) (lab : List UInt8) (val : Option (List UInt8)) (kv : Value) : Prop :=
  w.heap[g]? = some (.cells #[str lab, .bool val.isSome, str (val.getD []), kv] T (0, 0))
section
variable {T TP : TypeId} {w w' : World} {g base : Nat} {lab : List UInt8} {val : Option (List UInt8)} {kv : Value} {t : RT} {ps : List Nat} {ks : List RT}
theorem TreeAt.lt (h : TreeAt T w g lab val kv) : g < w.heap.size := heap_lt h
theorem TreeAt.ext (h : TreeAt T w g lab val kv) (hb : Ext w w') : TreeAt T w' g lab val kv := (hb.block g h.lt).trans h
theorem TreeAt.cells (h : TreeAt T w g lab val kv) : w.cell? ⟨g, 0, none⟩ = some (str lab) ∧ w.cell? ⟨g, 1, none⟩ = some (.bool val.isSome) ∧ w.cell? ⟨g, 2, none⟩ = some (str (val.getD [])) ∧ w.cell? ⟨g, 3, none⟩ = some kv := by
  unfold TreeAt at h
  simp [World.cell?, h]
theorem TreeAt.free (h : TreeAt T w g lab val kv) (j : Nat) : w.frozen? ⟨g, j, none⟩ = false := by
  unfold TreeAt at h
  simp [World.frozen?, h]
theorem TreeAt.set12 (h : TreeAt T w g lab val kv) (v : List UInt8) : TreeAt T ((w.setCell ⟨g, 1, none⟩ (.bool true)).setCell ⟨g, 2, none⟩ (str v)) g lab (some v) kv := heap_set (heap_set h 1 _) 2 _
theorem TreeAt.set3 (h : TreeAt T w g lab val kv) (kv' : Value) : TreeAt T (w.setCell ⟨g, 3, none⟩ kv') g lab val kv' := heap_set h 3 _
theorem TreeAt.new (T : TypeId) (w : World) (hg : g = w.heap.size) : TreeAt T (w.alloc (.cells #[str lab, .bool val.isSome, str (val.getD []), kv] T)) g lab val kv := by
  subst hg; simp only [TreeAt, World.alloc]; simp

theorem own_keep {n : Nat} {xs : List Value} {v : Value} {e : TypeId} {k : Nat} (h : w.ownsRow base e k v n xs) (hk : ∀ b, v.ownBlock = some b → w'.heap[b]? = w.heap[b]?) : w'.ownsRow base e k v n xs := by
  refine ⟨h.1, ?_⟩
  rcases h.2 with h | ⟨g, cap, cur, h1, h2, h3, h4⟩
  · exact .inl h
  · exact .inr ⟨g, cap, cur, h1, h2, (hk g (by rw [h1]; rfl)).trans h3, h4⟩
theorem own_base' {b b' n k : Nat} {e : TypeId} {v : Value} {xs : List Value} (h : w.ownsRow b' e k v n xs) (hb : b ≤ b') : w.ownsRow b e k v n xs := by
  refine ⟨h.1, ?_⟩
  rcases h.2 with h | ⟨g, cap, cur, h1, h2, h3⟩
  · exact .inl h
  · exact .inr ⟨g, cap, cur, h1, Nat.le_trans hb h2, h3⟩

/-- A node of the document's in memory is this tree, and lies in these blocks alone. -/
inductive RepS (T TP : TypeId) (S : Nat → Prop) (w : World) : Nat → RT → Prop
  | mk {g : Nat} {t : RT} {kv : Value} {ps : List Nat} (h : TreeAt T w g t.lab t.val kv) (hb : S g) (hs : w.ownsRow 0 TP 1 kv ps.length (ptrs ps)) (hS : ∀ b, kv.ownBlock = some b → S b) (hl : ps.length = t.kids.length)
      (hk : ∀ (j p : Nat) (k : RT), ps[j]? = some p → t.kids[j]? = some k → RepS T TP S w p k) : RepS T TP S w g t
def RepsS (T TP : TypeId) (S : Nat → Prop) (w : World) (ps : List Nat) (ks : List RT) : Prop := ps.length = ks.length ∧ ∀ (j p : Nat) (k : RT), ps[j]? = some p → ks[j]? = some k → RepS T TP S w p k
variable {S S' : Nat → Prop}
theorem RepS.keep (h : RepS T TP S w g t) (hk : ∀ b, S b → b < w.heap.size → w'.heap[b]? = w.heap[b]?) : RepS T TP S w' g t := by
  induction h with
  | mk h hb hs hS hl _ ih => exact .mk ((hk _ hb h.lt).trans h) hb (own_keep hs fun b hb => hk b (hS b hb) (hs.lt b hb).2) hS hl ih
theorem RepS.mono (h : RepS T TP S w g t) (hs : ∀ b, b < w.heap.size → S b → S' b) : RepS T TP S' w g t := by
  induction h with
  | mk h hb hs' hS hl _ ih => exact .mk h (hs _ h.lt hb) hs' (fun b hb => hs b (hs'.lt b hb).2 (hS b hb)) hl ih
theorem RepS.ext (h : RepS T TP S w g t) (f : Ext w w') : RepS T TP S w' g t := h.keep fun b _ hb => f.block b hb
theorem RepsS.keep (h : RepsS T TP S w ps ks) (hk : ∀ b, S b → b < w.heap.size → w'.heap[b]? = w.heap[b]?) : RepsS T TP S w' ps ks := ⟨h.1, fun j p k h1 h2 => (h.2 j p k h1 h2).keep hk⟩
theorem RepsS.mono (h : RepsS T TP S w ps ks) (hs : ∀ b, b < w.heap.size → S b → S' b) : RepsS T TP S' w ps ks := ⟨h.1, fun j p k h1 h2 => (h.2 j p k h1 h2).mono hs⟩
theorem RepsS.ext (h : RepsS T TP S w ps ks) (f : Ext w w') : RepsS T TP S w' ps ks := h.keep fun b _ hb => f.block b hb
theorem RepsS.nil : RepsS T TP S w [] [] := ⟨rfl, fun j p k h => by simp at h⟩
theorem RepsS.snoc {p : Nat} {k : RT} (h : RepsS T TP S w ps ks) (hp : RepS T TP S w p k) : RepsS T TP S w (ps ++ [p]) (ks ++ [k]) := by
  refine ⟨by simp [h.1], fun j q t h1 h2 => ?_⟩
  rw [List.getElem?_append] at h1 h2
  have hl := h.1
  split at h1
  · rename_i hj
    rw [if_pos (by omega)] at h2
    exact h.2 j q t h1 h2
  · rename_i hj
    rw [if_neg (by omega)] at h2
    obtain ⟨m, hm⟩ : ∃ m, j - ps.length = m := ⟨_, rfl⟩
    rw [hm] at h1
    rw [← hl, hm] at h2
    cases m with
    | zero => simp at h1 h2; subst h1 h2; exact hp
    | succ m => simp at h1
theorem RepS.open (h : RepS T TP S w g t) : ∃ kv ps, TreeAt T w g t.lab t.val kv ∧ w.ownsRow 0 TP 1 kv ps.length (ptrs ps) ∧ RepsS T TP S w ps t.kids := by
  cases h with
  | mk h hb hs hS hl hk => exact ⟨_, _, h, hs, hl, hk⟩

/-- The same, from a base on. -/
abbrev RepD (T TP : TypeId) (base : Nat) (w : World) (g : Nat) (t : RT) : Prop := RepS T TP (fun b => base ≤ b) w g t
abbrev RepsD (T TP : TypeId) (base : Nat) (w : World) (ps : List Nat) (ks : List RT) : Prop := RepsS T TP (fun b => base ≤ b) w ps ks
theorem RepD.mk (h : TreeAt T w g t.lab t.val kv) (hb : base ≤ g) (hs : w.ownsRow base TP 1 kv ps.length (ptrs ps)) (hl : ps.length = t.kids.length)
    (hk : ∀ (j p : Nat) (k : RT), ps[j]? = some p → t.kids[j]? = some k → RepD T TP base w p k) : RepD T TP base w g t :=
  RepS.mk h hb (own_base' hs (Nat.zero_le _)) (fun b hb => (hs.lt b hb).1) hl hk
theorem repD_set (h : RepD T TP base w g t) (a : Addr) (u : Value) (ha : a.block < base) : RepD T TP base (w.setCell a u) g t := h.keep fun b hb _ => Below.heap_setCell w a u b (by omega)
theorem repD_mono {b' : Nat} (h : RepD T TP base w g t) (hb : b' ≤ base) : RepD T TP b' w g t := RepS.mono h fun b _ h => Nat.le_trans hb h
theorem repsD_mono {b' : Nat} (h : RepsD T TP base w ps ks) (hb : b' ≤ base) : RepsD T TP b' w ps ks := RepsS.mono h fun b _ h => Nat.le_trans hb h
end

/-- append at a step of a region that draws its order. -/
theorem step_appE {P : Program} {W w : World} {ops : Array Oper} {o : Oper} {a : Act} {K : Act → World → Prop} {Q : Exit → Act → World → Prop} {E : Prop} (hgd : o.guard = none) (s x : Operand) (t : TypeId)
    (ho : o.op = .call { callee := .builtin .append, args := #[s, x], argTypes := #[t, t] })
    (e : TypeId) (size bytes : Nat) (ht : P.underlying t = some (.slice e)) (hi : ∃ i z, P.info? e = some i ∧ i.zero = some z ∧ i.size = size ∧ i.bytes = bytes ∧ z.cells.size = size) (hsz : 0 < size)
    (v : Value) (n : Nat) (xs : List Value) (hs : a.eval s = v) (hown : w.ownsRow W.heap.size e size v n xs) (hb : Below W.heap.size W w)
    (A : Option Addr) (m c : Nat) (news : List Value) (hx : a.eval x = .slice A m c) (hl : news.length = m * size) (hr : Seg w A news) (h1 : ∀ u ∈ news, u.oneCell' = true)
    (h63 : n + m ≤ maxLen) (hbytes : (n + m) * bytes ≤ 140737488355328)
    (h : ∀ v' w', w'.ownsRow W.heap.size e size v' (n + m) (xs ++ news) → Below W.heap.size W w' → w.grownBy w' v.ownBlock → K (a.put o.dst v') w') :
    if Region.wanted o (yielded ops a.tmps) = true then Oper.wp P o a w K Q else E := by
  have hw : Region.wanted o (yielded ops a.tmps) = true := by simp [Region.wanted, hgd]
  rw [if_pos hw]
  obtain ⟨i, z, hi, hz, hsize, hby, hzs⟩ := hi
  obtain ⟨v', w', hrun, h2, h3, h4⟩ := run_app (P := P) w W.heap.size t o.type e i z size bytes ht hi hz hsize hby hzs hsz v n xs hown A m c news hl hr h1 h63 hbytes hb.size
  unfold Oper.wp execOp
  simp only [ho, resolve, invoke, builtin, Sem.run_bind, Sem.run_pure, Result.andThen_ok, List.map_toArray, List.map_cons, List.map_nil, hs, hx, hrun]
  exact h v' w' h2 (hb.grown h3 hb.size fun k hk => (hown.lt k hk).1) h3
/-- The same, of a row from a base on; what it says of the world is that it has grown. -/
theorem step_appB {P : Program} {w : World} {ops : Array Oper} {o : Oper} {a : Act} {K : Act → World → Prop} {Q : Exit → Act → World → Prop} {E : Prop} (hgd : o.guard = none) (s x : Operand) (t : TypeId)
    (ho : o.op = .call { callee := .builtin .append, args := #[s, x], argTypes := #[t, t] }) (base : Nat)
    (e : TypeId) (size bytes : Nat) (ht : P.underlying t = some (.slice e)) (hi : ∃ i z, P.info? e = some i ∧ i.zero = some z ∧ i.size = size ∧ i.bytes = bytes ∧ z.cells.size = size) (hsz : 0 < size)
    (v : Value) (n : Nat) (xs : List Value) (hs : a.eval s = v) (hown : w.ownsRow base e size v n xs)
    (A : Option Addr) (m c : Nat) (news : List Value) (hx : a.eval x = .slice A m c) (hl : news.length = m * size) (hr : Seg w A news) (h1 : ∀ u ∈ news, u.oneCell' = true)
    (h63 : n + m ≤ maxLen) (hbytes : (n + m) * bytes ≤ 140737488355328) (hbase : base ≤ w.heap.size)
    (h : ∀ v' w', w'.ownsRow base e size v' (n + m) (xs ++ news) → w.grownBy w' v.ownBlock → (∀ g, v.ownBlock = some g → base ≤ g) → K (a.put o.dst v') w') :
    if Region.wanted o (yielded ops a.tmps) = true then Oper.wp P o a w K Q else E := by
  have hw : Region.wanted o (yielded ops a.tmps) = true := by simp [Region.wanted, hgd]
  rw [if_pos hw]
  obtain ⟨i, z, hi, hz, hsize, hby, hzs⟩ := hi
  obtain ⟨v', w', hrun, h2, h3, h4⟩ := run_app (P := P) w base t o.type e i z size bytes ht hi hz hsize hby hzs hsz v n xs hown A m c news hl hr h1 h63 hbytes hbase
  unfold Oper.wp execOp
  simp only [ho, resolve, invoke, builtin, Sem.run_bind, Sem.run_pure, Result.andThen_ok, List.map_toArray, List.map_cons, List.map_nil, hs, hx, hrun]
  exact h v' w' h2 h3 (fun k hk => (hown.lt k hk).1)
end Go.QS
namespace Go.Proofs.YtigoffdehdobiaaGreat
open Go.RowKit Go.QS
set_option linter.unusedVariables false

end Go.Proofs.YtigoffdehdobiaaGreat
