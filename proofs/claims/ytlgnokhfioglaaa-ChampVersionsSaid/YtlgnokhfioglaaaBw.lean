/- Texts joined. -/
import Derived.Test.YtlgnokhfioglaaaBb
import Derived.Laws.OwnMore
import Derived.Test.YtlgnokhfioglaaaLe
import Derived.Deep.RegionHeld3
import Derived.Deep.LoopGhost
set_option linter.unusedVariables false
set_option linter.unusedSimpArgs false
/- A row of one's own that grows or turns while trees stand: only cells turn that no tree reads. No program. -/
namespace Go.QS
open Go.RowKit

/-- Only cells that are such, in blocks of one type, turn; all else stays. -/
structure Turn (F : Value → Prop) (e : TypeId) (w w' : World) : Prop where
  os : w'.os = w.os
  tape : w'.tape = w.tape
  output : w'.output = w.output
  size : w.heap.size ≤ w'.heap.size
  block : ∀ k, k < w.heap.size → w'.heap[k]? = w.heap[k]? ∨ ∃ cs cs', w.heap[k]? = some (.cells cs e (0, 0)) ∧ w'.heap[k]? = some (.cells cs' e (0, 0)) ∧ ∀ (j : Nat) (u : Value), cs[j]? = some u → F u ∨ cs'[j]? = some u

section
variable {F : Value → Prop} {e : TypeId} {w w' a b c : World} {xs : List Value} {v : Value} {n k : Nat}
theorem Turn.of_ext (h : Ext w w') : Turn F e w w' := ⟨h.os, h.tape, h.output, h.size, fun k hk => .inl (h.block k hk)⟩
theorem Turn.refl (w : World) : Turn F e w w := .of_ext (Ext.refl w)
theorem Turn.trans (h : Turn F e a b) (k : Turn F e b c) : Turn F e a c := by
  refine ⟨k.os.trans h.os, k.tape.trans h.tape, k.output.trans h.output, Nat.le_trans h.size k.size, fun i hi => ?_⟩
  have hs := h.size
  rcases h.block i hi with h1 | ⟨cs, cs', h1, h2, h3⟩
  · rcases k.block i (by omega) with k1 | ⟨ds, ds', k1, k2, k3⟩
    · exact .inl (k1.trans h1)
    · exact .inr ⟨ds, ds', h1 ▸ k1, k2, k3⟩
  · rcases k.block i (by omega) with k1 | ⟨ds, ds', k1, k2, k3⟩
    · exact .inr ⟨cs, cs', h1, k1.trans h2, h3⟩
    · rw [h2] at k1
      cases k1
      refine .inr ⟨cs, ds', h1, k2, fun j u hu => ?_⟩
      rcases h3 j u hu with h | h
      · exact .inl h
      · exact k3 j u h
theorem Turn.cell (h : Turn F e w w') {p : Addr} {u : Value} (hu : w.cell? p = some u) (hF : ¬ F u) : w'.cell? p = some u := by
  have hl := World.block_lt_of_cell? w p hu
  rcases h.block _ hl with h1 | ⟨cs, cs', h1, h2, h3⟩
  · rw [World.cell?_of_block h1]; exact hu
  · unfold World.cell? at hu ⊢
    rw [h1] at hu
    rw [h2]
    simp only at hu ⊢
    split at hu
    · cases hu
    · rename_i hs
      rw [if_neg hs]
      exact (h3 _ _ hu).resolve_left hF
theorem Turn.heap (h : Turn F e w w') {g : Nat} {cs : Array Value} {T : TypeId} {f : Nat × Nat} (hg : w.heap[g]? = some (.cells cs T f)) (hT : T ≠ e) : w'.heap[g]? = some (.cells cs T f) := by
  rcases h.block g (heap_lt hg) with h1 | ⟨ds, ds', h1, _⟩
  · exact h1.trans hg
  · rw [hg] at h1
    cases h1
    exact absurd rfl hT
theorem Turn.seg (h : Turn F e w w') {A : Option Addr} (hs : Seg w A xs) (hF : ∀ u ∈ xs, ¬ F u) : Seg w' A xs := by
  intro hne
  obtain ⟨b, o, hA, hc⟩ := hs hne
  exact ⟨b, o, hA, fun j u hu => h.cell (hc j u hu) (hF u (List.mem_of_getElem? hu))⟩
theorem Turn.sl (h : Turn F e w w') (hs : Sl w k v n xs) (hF : ∀ u ∈ xs, ¬ F u) : Sl w' k v n xs := by
  obtain ⟨A, c, h1, h2, h3, h4, h5⟩ := hs
  exact ⟨A, c, h1, h2, h3, h4, h.seg h5 hF⟩
theorem Turn.ps (h : Turn F e w w') {l : List Pr} (hs : PS w v l) (hF : ∀ s, ¬ F (str s)) : PS w' v l := by
  refine Turn.sl h hs fun u hu => ?_
  obtain ⟨p, _, hp⟩ := List.mem_flatMap.1 hu
  simp [encP] at hp
  rcases hp with rfl | rfl
  · exact hF _
  · exact hF _
theorem Turn.rep (h : Turn F e w w') (hF : ∀ g, ¬ F (ptr g)) {T : TypeId} (hT : T ≠ e) {g : Nat} {t : RT} (hr : Rep T w g t) : Rep T w' g t := by
  induction hr with
  | @mk g t kv ow ps hn hs hl _ ih =>
    refine .mk (h.heap hn hT) (h.sl hs fun u hu => ?_) hl ih
    obtain ⟨q, _, rfl⟩ := List.mem_map.1 hu
    exact hF q
theorem Turn.setCell {g j : Nat} {cs : Array Value} (hg : w.heap[g]? = some (.cells cs e (0, 0))) (hj : ∀ u, cs[j]? = some u → F u) (u : Value) : Turn F e w (w.setCell ⟨g, j, none⟩ u) := by
  refine ⟨rfl, rfl, rfl, by simp [World.setCell], fun k hk => ?_⟩
  by_cases hkg : k = g
  · subst hkg
    refine .inr ⟨cs, _, hg, heap_set hg j u, fun i x hx => ?_⟩
    by_cases hij : i = j
    · subst hij; exact .inl (hj x hx)
    · right
      rw [Array.getElem?_setIfInBounds_ne (by omega)]
      exact hx
  · exact .inl (Below.heap_setCell w _ u k hkg)
end

/-- A row of one's own, of one cell each, whose spare cells are such. -/
def ZR (F : Value → Prop) (base : Nat) (e : TypeId) (w : World) (v : Value) (xs : List Value) : Prop :=
  w.ownsRow base e 1 v xs.length xs ∧ ∀ (g cap : Nat) (cur : Array Value), v = .slice (some ⟨g, 0, none⟩) xs.length cap → w.heap[g]? = some (.cells cur e (0, 0)) → ∀ (j : Nat) (u : Value), xs.length ≤ j → cur[j]? = some u → F u

section
variable {F : Value → Prop} {e : TypeId} {w w' : World} {xs : List Value} {v : Value} {base : Nat}
theorem ZR.nil (w : World) (base : Nat) (e : TypeId) : ZR F base e w (.slice none 0 0) [] := ⟨World.ownsRow_nil w base e 1, fun g cap cur h => by cases h⟩
theorem ZR.ext (h : ZR F base e w v xs) (f : Ext w w') : ZR F base e w' v xs := by
  have hl := h.1.lt
  refine ⟨World.ownsRow.kept (row := none) h.1 ⟨f.os, f.tape, f.output, f.size, fun k hk _ => f.block k hk⟩ (by cases v.ownBlock <;> simp), fun g cap cur hv hg => ?_⟩
  refine h.2 g cap cur hv ?_
  rw [← f.block g (by rw [hv] at hl; exact (hl g rfl).2)]
  exact hg
theorem ZR.turn {G : Value → Prop} {e2 : TypeId} (h : ZR F base e w v xs) (f : Turn G e2 w w') (he : e ≠ e2) : ZR F base e w' v xs := by
  obtain ⟨⟨h1, h2⟩, h3⟩ := h
  refine ⟨⟨h1, ?_⟩, fun g cap cur hv hg => ?_⟩
  · rcases h2 with h2 | ⟨g, cap, cur, k1, k2, k3, k4⟩
    · exact .inl h2
    · exact .inr ⟨g, cap, cur, k1, k2, f.heap k3 he, k4⟩
  · rcases h2 with ⟨h2, _⟩ | ⟨g', cap', cur', k1, k2, k3, k4⟩
    · rw [h2] at hv; cases hv
    · rw [k1] at hv
      cases hv
      have := f.heap k3 he
      rw [hg] at this
      cases this
      exact h3 _ _ _ k1 k3
theorem ZR.sl (h : ZR F base e w v xs) : Sl w 1 v xs.length xs := Sl.of_own h.1

theorem mem_zeroCells {z : Array Value} {n : Nat} {u : Value} (h : u ∈ Builtin.zeroCells z n) (hz : 0 < z.size) : u ∈ z := by
  unfold Builtin.zeroCells at h
  obtain ⟨i, _, rfl⟩ := Array.mem_map.1 h
  rw [getElem!_pos z (i % z.size) (Nat.mod_lt _ hz)]
  exact Array.getElem_mem _

theorem run_appZ {P : Program} (w : World) (base : Nat) (t ty e : TypeId) (i : TypeInfo) (z : Value) (bytes : Nat) (ht : P.underlying t = some (.slice e)) (hi : P.info? e = some i) (hz : i.zero = some z)
    (hsize : i.size = 1) (hby : i.bytes = bytes) (hzs : z.cells.size = 1) (hF : ∀ u ∈ z.cells, F u)
    (v : Value) (xs : List Value) (hown : ZR F base e w v xs)
    (a : Addr) (c : Nat) (x : Value) (hx : w.cell? a = some x) (h1 : x.oneCell' = true)
    (h63 : xs.length + 1 ≤ maxLen) (hbytes : (xs.length + 1) * bytes ≤ 140737488355328) (hbase : base ≤ w.heap.size) :
    ∃ v' w', (Builtin.append_ #[t, t] ty #[v, .slice (some a) 1 c]).run P w = .ok v' w' ∧ ZR F base e w' v' (xs ++ [x]) ∧ w.grownBy w' v.ownBlock ∧ Turn F e w w' ∧ (∀ (g n c : Nat), v = .slice (some ⟨g, 0, none⟩) n c → ∀ (j : Nat) (u : Value), xs[j]? = some u → w'.cell? ⟨g, j, none⟩ = some u) := by
  subst hby
  have hsmall : xs.length + 1 ≤ 9223372036854775807 := by simp only [maxLen] at h63; omega
  have hnews : ∀ j u, [x][j]? = some u → w.cell? (a.add j) = some u := by
    intro j u hj
    match j, hj with
    | 0, hj => simp at hj; subst hj; simpa [Addr.add] using hx
  have h1' : ∀ u ∈ [x], u.oneCell' = true := by simpa using h1
  have grown : ∀ (old : Nat), old < xs.length + 1 → ∀ (row : Option Nat),
      ZR F base e (w.drew.alloc (.cells (xs.toArray ++ [x].toArray ++ Builtin.zeroCells z.cells (grownCap w (xs.length + 1) old e - (xs.length + 1))) e))
        (.slice (some ⟨w.heap.size, 0, none⟩) (xs.length + 1) (grownCap w (xs.length + 1) old e)) (xs ++ [x]) ∧
      w.grownBy (w.drew.alloc (.cells (xs.toArray ++ [x].toArray ++ Builtin.zeroCells z.cells (grownCap w (xs.length + 1) old e - (xs.length + 1))) e)) row ∧ Turn F e w (w.drew.alloc (.cells (xs.toArray ++ [x].toArray ++ Builtin.zeroCells z.cells (grownCap w (xs.length + 1) old e - (xs.length + 1))) e)) := by
    intro old ho row
    have hge := grownCap_ge w (xs.length + 1) old e
    have hcm : grownCap w (xs.length + 1) old e ≤ maxLen := grownCap_le_maxLen w (xs.length + 1) old e h63
    have hnew : (w.drew.alloc (.cells (xs.toArray ++ [x].toArray ++ Builtin.zeroCells z.cells (grownCap w (xs.length + 1) old e - (xs.length + 1))) e)).heap[w.heap.size]? = some (.cells (xs.toArray ++ [x].toArray ++ Builtin.zeroCells z.cells (grownCap w (xs.length + 1) old e - (xs.length + 1))) e (0, 0)) := heap_alloc_new w.drew _
    refine ⟨⟨⟨by simp, .inr ⟨w.heap.size, _, _, by simp, hbase, hnew, by simpa using hge, hcm, ?_, ?_⟩⟩, ?_⟩, ⟨rfl, rfl, rfl, by simp, fun k hk _ => Below.heap_alloc w.drew _ k hk⟩, ⟨rfl, rfl, rfl, by simp, fun k hk => .inl (Below.heap_alloc w.drew _ k hk)⟩⟩
    · simp only [Array.size_append, List.size_toArray, size_zeroCells, hzs, List.length_cons, List.length_nil]
      omega
    · rw [Nat.mul_one]
      simp only [Array.toList_append, List.length_append, List.length_cons, List.length_nil, Nat.zero_add]
      exact List.take_left' (by simp)
    · intro g cap cur hv hg j u hj hu
      have hgg : g = w.heap.size := by simp at hv; exact hv.1.symm
      subst hgg
      rw [hnew] at hg
      cases hg
      rw [Array.getElem?_append_right (by simp at hj ⊢; omega)] at hu
      exact hF u (mem_zeroCells (Array.mem_of_getElem? hu) (by omega))
  rcases hown.1.2 with ⟨rfl, hn⟩ | ⟨g, cap, cur, rfl, hbg, hg, hnc, hcm, hcs, htake⟩
  · have hxs : xs = [] := List.eq_nil_of_length_eq_zero hn
    subst hxs
    have hr := run_append_nil (P := P) w t ty e i z ht hi hz a 1 c [x] (by simp [hsize]) hnews (by omega) (by omega) (by simp at hbytes; omega)
    have hgr := grown 0 (by omega) (Value.ownBlock (.slice none 0 0))
    simp only [List.length_nil, Nat.zero_add, List.nil_append, Array.empty_append] at hgr ⊢
    exact ⟨_, _, hr, hgr.1, hgr.2.1, hgr.2.2, fun g n c h => by cases h⟩
  · by_cases hroom : xs.length + 1 ≤ cap
    · have hfit : xs.length * i.size + [x].length ≤ cur.size := by rw [hsize]; simp; omega
      have hr := run_append_room (P := P) w t ty e i ht hi g xs.length cap cur hg a 1 c [x] (by simp [hsize]) hnews h1' hroom hfit
      rw [hsize, Nat.mul_one] at hr
      have hset := setRow_heap w g cur (cur.toList.take xs.length ++ [x] ++ cur.toList.drop (xs.length + [x].length)).toArray e _ hg
      have hlen : (cur.toList.take xs.length).length = xs.length := by simp; omega
      have hget : ∀ j, j ≠ xs.length → (cur.toList.take xs.length ++ [x] ++ cur.toList.drop (xs.length + [x].length)).toArray[j]? = cur[j]? := by
        intro j hj
        rw [List.getElem?_toArray]
        rcases Nat.lt_or_ge j xs.length with h | h
        · rw [List.append_assoc, List.getElem?_append_left (by omega), List.getElem?_take_of_lt h]; simp
        · rw [List.getElem?_append_right (by simp; omega), List.getElem?_drop]
          simp only [List.length_append, hlen, List.length_cons, List.length_nil]
          rw [show xs.length + (0 + 1) + (j - (xs.length + (0 + 1))) = j by omega]; simp
      refine ⟨_, _, hr, ⟨⟨by simp, .inr ⟨g, cap, _, by simp, hbg, hset, by simpa using hroom, hcm, ?_, ?_⟩⟩, ?_⟩, ⟨rfl, rfl, rfl, by simp, fun k _ hk => setRow_other w g k _ (fun e => hk (by simp [Value.ownBlock, e]))⟩, ⟨rfl, rfl, rfl, by simp, fun k hk => ?_⟩, ?_⟩
      · simp only [List.size_toArray, List.length_append, List.length_drop, List.length_cons, List.length_nil, hlen, Array.length_toList]
        omega
      · rw [Nat.mul_one] at htake
        rw [htake]
        simp only [List.length_append, List.length_cons, List.length_nil, Nat.zero_add, Nat.mul_one]
        exact List.take_left' (by simp)
      · intro g' cap' cur' hv hg' j u hj hu
        have hgg : g' = g := by simp at hv; exact hv.1.symm
        subst hgg
        rw [hset] at hg'
        cases hg'
        simp at hj
        rw [hget j (by omega)] at hu
        exact hown.2 _ cap cur rfl hg j u (by omega) hu
      · by_cases hkg : k = g
        · subst hkg
          refine .inr ⟨cur, _, hg, hset, fun j u hu => ?_⟩
          by_cases hj : j = xs.length
          · exact .inl (hown.2 _ cap cur rfl hg j u (by omega) hu)
          · right; rw [hget j hj]; exact hu
        · exact .inl (setRow_other w g k _ hkg)
      · intro g' n' c' hv j u hu
        have hgg : g' = g := by simp at hv; exact hv.1.symm
        subst hgg
        have hj : j < xs.length := (List.getElem?_eq_some_iff.1 hu).1
        rw [cell_setRow_same w _ j cur _ e _ hg, hget j (by omega), ← hu, ← htake, Nat.mul_one, List.getElem?_take_of_lt hj]
        simp
    · have holds : ∀ j u, xs[j]? = some u → w.cell? ((⟨g, 0, none⟩ : Addr).add j) = some u := hown.1.cells (g := g) rfl
      have hr := run_append_grow (P := P) w t ty e i z ht hi hz ⟨g, 0, none⟩ xs.length cap xs (by simp [hsize]) holds a 1 c [x] (by simp [hsize]) hnews (by omega) (by omega) (growslice_fits (by omega) hbytes)
      have hgr := grown cap (by omega) (Value.ownBlock (.slice (some ⟨g, 0, none⟩) xs.length cap))
      refine ⟨_, _, hr, hgr.1, hgr.2.1, hgr.2.2, fun g' n' c' hv j u hu => ?_⟩
      have hgg : g' = g := by simp at hv; exact hv.1.symm
      subst hgg
      have h0 := holds j u hu
      rw [Addr.add_lit, Nat.zero_add] at h0
      rw [World.cell?_alloc_lt _ _ _ (by have := World.block_lt_of_cell? w _ h0; simpa using this)]
      exact h0

theorem wpList_appZ {P : Program} {W w : World} {ops : Array Oper} {rest : List Oper} {o : Oper} {a : Act} {Q : Exit → Act → World → Prop} (hgd : o.guard = none) (s x : Operand) (t : TypeId)
    (ho : o.op = .call { callee := .builtin .append, args := #[s, x], argTypes := #[t, t] })
    (F : Value → Prop) (e : TypeId) (bytes : Nat) (ht : P.underlying t = some (.slice e)) (hi : ∃ i z, P.info? e = some i ∧ i.zero = some z ∧ i.size = 1 ∧ i.bytes = bytes ∧ z.cells.size = 1 ∧ ∀ u ∈ z.cells, F u)
    (v : Value) (xs : List Value) (hs : a.eval s = v) (hown : ZR F W.heap.size e w v xs) (hb : Below W.heap.size W w)
    (A : Addr) (c : Nat) (u : Value) (hx : a.eval x = .slice (some A) 1 c) (hr : w.cell? A = some u) (h1 : u.oneCell' = true)
    (h63 : xs.length + 1 ≤ maxLen) (hbytes : (xs.length + 1) * bytes ≤ 140737488355328)
    (h : ∀ v' w', ZR F W.heap.size e w' v' (xs ++ [u]) → Below W.heap.size W w' → Turn F e w w' → (∀ (g n c : Nat), v = .slice (some ⟨g, 0, none⟩) n c → ∀ (j : Nat) (u : Value), xs[j]? = some u → w'.cell? ⟨g, j, none⟩ = some u) → wpList P ops Q rest (a.put o.dst v') w') : wpList P ops Q (o :: rest) a w :=
  wpList_plain hgd fun _ hK => by
    obtain ⟨i, z, hi, hz, hsize, hby, hzs, hF⟩ := hi
    obtain ⟨v', w', hrun, h2, h3, h4, h5⟩ := run_appZ (P := P) w W.heap.size t o.type e i z bytes ht hi hz hsize hby hzs hF v xs hown A c u hr h1 h63 hbytes hb.size
    unfold Oper.wp execOp
    simp only [ho, resolve, invoke, builtin, Sem.run_bind, Sem.run_pure, Result.andThen_ok, List.map_toArray, List.map_cons, List.map_nil, hs, hx, hrun]
    exact hK _ _ (h v' w' h2 (hb.grown h3 hb.size fun k hk => (hown.1.lt k hk).1) h4 h5)

/-- At a step of a region that draws its order. -/
theorem step_appZ {P : Program} {W w : World} {ops : Array Oper} {o : Oper} {a : Act} {K : Act → World → Prop} {Q : Exit → Act → World → Prop} {E : Prop} (hgd : o.guard = none) (s x : Operand) (t : TypeId)
    (ho : o.op = .call { callee := .builtin .append, args := #[s, x], argTypes := #[t, t] })
    (F : Value → Prop) (e : TypeId) (bytes : Nat) (ht : P.underlying t = some (.slice e)) (hi : ∃ i z, P.info? e = some i ∧ i.zero = some z ∧ i.size = 1 ∧ i.bytes = bytes ∧ z.cells.size = 1 ∧ ∀ u ∈ z.cells, F u)
    (v : Value) (xs : List Value) (hs : a.eval s = v) (hown : ZR F W.heap.size e w v xs) (hb : Below W.heap.size W w)
    (A : Addr) (c : Nat) (u : Value) (hx : a.eval x = .slice (some A) 1 c) (hr : w.cell? A = some u) (h1 : u.oneCell' = true)
    (h63 : xs.length + 1 ≤ maxLen) (hbytes : (xs.length + 1) * bytes ≤ 140737488355328)
    (h : ∀ v' w', ZR F W.heap.size e w' v' (xs ++ [u]) → Below W.heap.size W w' → Turn F e w w' → (∀ (g n c : Nat), v = .slice (some ⟨g, 0, none⟩) n c → ∀ (j : Nat) (u : Value), xs[j]? = some u → w'.cell? ⟨g, j, none⟩ = some u) → K (a.put o.dst v') w') :
    if Region.wanted o (yielded ops a.tmps) = true then Oper.wp P o a w K Q else E := by
  have hw : Region.wanted o (yielded ops a.tmps) = true := by simp [Region.wanted, hgd]
  rw [if_pos hw]
  obtain ⟨i, z, hi, hz, hsize, hby, hzs, hF⟩ := hi
  obtain ⟨v', w', hrun, h2, h3, h4, h5⟩ := run_appZ (P := P) w W.heap.size t o.type e i z bytes ht hi hz hsize hby hzs hF v xs hown A c u hr h1 h63 hbytes hb.size
  unfold Oper.wp execOp
  simp only [ho, resolve, invoke, builtin, Sem.run_bind, Sem.run_pure, Result.andThen_ok, List.map_toArray, List.map_cons, List.map_nil, hs, hx, hrun]
  exact h v' w' h2 (hb.grown h3 hb.size fun k hk => (hown.1.lt k hk).1) h4 h5
/-- A literal of one element. -/
theorem ZR.one (F : Value → Prop) {base : Nat} (e : TypeId) (w : World) (u : Value) (hb : base ≤ w.heap.size) : ZR F base e (w.alloc (.cells #[u] e)) (.slice (some ⟨w.heap.size, 0, none⟩) 1 1) [u] := by
  refine ⟨World.ownsRow_lit w #[u] 1 hb (by decide) rfl, fun g cap cur hv hg j x hj hx => ?_⟩
  have hgg : g = w.heap.size := by simp at hv; exact hv.1.symm
  subst hgg
  rw [heap_alloc_new w _] at hg
  cases hg
  simp at hj
  rw [Array.getElem?_eq_none (by simpa using hj)] at hx
  cases hx

/-- An element of it, set. -/
theorem ZR.set {g cap i : Nat} (h : ZR F base e w (.slice (some ⟨g, 0, none⟩) xs.length cap) xs) (hi : i < xs.length) (u : Value) : ZR F base e (w.setCell ⟨g, i, none⟩ u) (.slice (some ⟨g, 0, none⟩) xs.length cap) (xs.set i u) := by
  have h1 := (World.ownsRow.stored h.1 i u).1
  refine ⟨by rw [List.length_set]; exact h1, fun g' cap' cur hv hg j x hj hx => ?_⟩
  rw [List.length_set] at hv hj
  cases hv
  rcases h.1.2 with ⟨h2, _⟩ | ⟨g', cap', cur', k1, k2, k3, k4⟩
  · cases h2
  · cases k1
    have := heap_set k3 i u
    rw [hg] at this
    cases this
    rw [Array.getElem?_setIfInBounds_ne (by omega)] at hx
    exact h.2 _ _ _ rfl k3 j x hj hx
theorem ZR.setTurn {g cap i : Nat} (h : ZR F base e w (.slice (some ⟨g, 0, none⟩) xs.length cap) xs) (hi : i < xs.length) (hF : ∀ u ∈ xs, F u) (u : Value) : Turn F e w (w.setCell ⟨g, i, none⟩ u) := by
  rcases h.1.2 with ⟨h2, _⟩ | ⟨g', cap', cur', k1, k2, k3, k4, k5, k6, k7⟩
  · cases h2
  · cases k1
    refine Turn.setCell k3 (fun x hx => hF x ?_) u
    rw [Nat.mul_one] at k7
    rw [← k7]
    refine List.mem_of_getElem? (i := i) ?_
    rw [List.getElem?_take_of_lt hi]
    simpa using hx
theorem ZR.get {g cap i : Nat} {u : Value} (h : ZR F base e w (.slice (some ⟨g, 0, none⟩) xs.length cap) xs) (hu : xs[i]? = some u) : w.cell? ⟨g, i, none⟩ = some u := by
  have := h.1.cells (g := g) rfl i u hu
  rw [Addr.add_lit, Nat.zero_add] at this
  exact this
theorem ZR.free {g cap n : Nat} (h : ZR F base e w (.slice (some ⟨g, 0, none⟩) n cap) xs) (j : Nat) : w.frozen? ⟨g, j, none⟩ = false := by
  rcases h.1.2 with ⟨h2, _⟩ | ⟨g', cap', cur', k1, k2, k3, k4⟩
  · cases h2
  · cases k1
    simp [World.frozen?, k3]
theorem info_ofZ {P : Program} {t : TypeId} {z : Value} {bytes : Nat} (h : (P.info? t).map (fun i => (i.zero, i.size, i.bytes)) = some (some z, 1, bytes)) (hz : z.cells.size = 1) (hF : ∀ u ∈ z.cells, F u) :
    ∃ i z, P.info? t = some i ∧ i.zero = some z ∧ i.size = 1 ∧ i.bytes = bytes ∧ z.cells.size = 1 ∧ ∀ u ∈ z.cells, F u := by
  obtain ⟨i, z', a1, a2, a3, a4, a5⟩ := info_of h hz
  have : z' = z := by
    rw [a1] at h
    simp only [Option.map_some, Option.some.injEq, Prod.mk.injEq] at h
    rw [a2] at h
    exact Option.some.inj h.1
  subst this
  exact ⟨i, z', a1, a2, a3, a4, a5, hF⟩
end
end Go.QS
/- ChampVersions' words: roots and their lists, grown by append, while tries stand. -/
namespace Go.Proofs.Ytlgnokhfioglaaa
open Go.RowKit Go.QS Go.QS.Nk
set_option linter.unusedVariables false

abbrev LP : TypeId := 76
def FN (u : Value) : Prop := u = .pointer none
def FL (u : Value) : Prop := u = .slice none 0 0
theorem fn_ptr (g : Nat) : ¬ FN (ptr g) := fun h => by cases h
theorem fn_str (s : List UInt8) : ¬ FN (str s) := fun h => by cases h
theorem fl_ptr (g : Nat) : ¬ FL (ptr g) := fun h => by cases h
theorem fl_str (s : List UInt8) : ¬ FL (str s) := fun h => by cases h
theorem infoN : ∃ i z, Try.prog.info? NK = some i ∧ i.zero = some z ∧ i.size = 1 ∧ i.bytes = 8 ∧ z.cells.size = 1 ∧ ∀ u ∈ z.cells, FN u :=
  info_ofZ (z := .pointer none) (by kernel_rfl) rfl (fun u hu => by simpa [Value.cells, FN] using hu)
theorem infoL : ∃ i z, Try.prog.info? LP = some i ∧ i.zero = some z ∧ i.size = 1 ∧ i.bytes = 24 ∧ z.cells.size = 1 ∧ ∀ u ∈ z.cells, FL u :=
  info_ofZ (z := .slice none 0 0) (by kernel_rfl) rfl (fun u hu => by simpa [Value.cells, FL] using hu)
theorem one_new (w : World) (u : Value) (e : TypeId) : (w.alloc (.cells #[u] e)).cell? ⟨w.heap.size, 0, none⟩ = some u := by rw [World.cell?_alloc_at _ _ _ _ rfl]; rfl
theorem one_newD (w : World) (u : Value) (e : TypeId) : (w.alloc (.cells #[u] e)).drew.cell? ⟨w.heap.size, 0, none⟩ = some u := one_new w u e

theorem fn_int (k : IntKind) (n : Int) : ¬ FN (.int k n) := fun h => by cases h
theorem fl_int (k : IntKind) (n : Int) : ¬ FL (.int k n) := fun h => by cases h
/-- A trie stays where such cells turn. -/
theorem turn_nd {F : Value → Prop} {e : TypeId} {w w' : World} {g d n : Nat} {ps : List Pr} {ks : List Nat} {bk : Bool} {ow : Option Addr} {pv kv : Value} (t : Turn F e w w') (hp : ∀ g, ¬ F (ptr g)) (hs : ∀ s, ¬ F (str s)) (hT : ND ≠ e) (h : Nd ND w g d n ps ks bk ow pv kv) : Nd ND w' g d n ps ks bk ow pv kv :=
  ⟨t.heap h.node hT, t.ps h.pairs hs, t.sl h.kids (fun u hu => by obtain ⟨k, _, rfl⟩ := List.mem_map.1 hu; exact hp k)⟩
theorem turn_tr {F : Value → Prop} {e : TypeId} {H : List UInt8 → Nat} {w w' : World} (t : Turn F e w w') (hp : ∀ g, ¬ F (ptr g)) (hs : ∀ s, ¬ F (str s)) (hT : ND ≠ e) : ∀ (f : Nat) {g : Nat} {l : List Pr}, TR ND H w f g l → TR ND H w' f g l
  | 0, g, l, h => by
    obtain ⟨ow, pv, kv, nd⟩ := h
    exact ⟨ow, pv, kv, turn_nd t hp hs hT nd⟩
  | f + 1, g, l, h => by
    obtain ⟨sl, ⟨h0, ow, pv, kv, nd⟩, h2⟩ := h
    exact ⟨sl, ⟨h0, ow, pv, kv, turn_nd t hp hs hT nd⟩, fun c s hs' => (h2 c s hs').mono fun k hk => turn_tr t hp hs hT f hk⟩

/-- Versions: roots in one row, their lists in another; each trie has just its list's pairs. -/
structure Vers6 (W w : World) (gh : Nat) (h : Hs) (v3 v4 : Value) (gs : List Nat) (us : List Value) : Prop where
  ext : Ext W w
  hs : HsAt w gh h
  roots : ZR FN W.heap.size NK w v3 (ptrs gs)
  lists : ZR FL W.heap.size LP w v4 us
  len : gs.length = us.length
  has : ∀ (k g : Nat) (u : Value), gs[k]? = some g → us[k]? = some u → ∃ X, TR ND h.hash w 13 g X ∧ OkL X ∧ PS w u X ∧ X.length + 1 ≤ gs.length
section
variable {W w w' : World} {gh : Nat} {h : Hs} {v3 v4 : Value} {gs : List Nat} {us : List Value}
theorem Vers6.ext' (V : Vers6 W w gh h v3 v4 gs us) (f : Ext w w') : Vers6 W w' gh h v3 v4 gs us :=
  ⟨V.ext.trans f, V.hs.ext f, V.roots.ext f, V.lists.ext f, V.len, fun k g u h1 h2 => by
    obtain ⟨X, a, b, c, d⟩ := V.has k g u h1 h2
    exact ⟨X, TR.ext f 13 a, b, c.below f, d⟩⟩
theorem Vers6.lists3 {w1 w2 w3 : World} (V : Vers6 W w gh h v3 v4 gs us) (e1 : Ext w w1) (t2 : Turn FN NK w1 w2) (e3 : Ext w2 w3) : ZR FL W.heap.size LP w3 v4 us :=
  ((V.lists.ext e1).turn t2 (by decide)).ext e3
theorem Vers6.snoc {w1 w2 w3 w4 : World} {v3' v4' u : Value} {g : Nat} {Y : List Pr} (V : Vers6 W w gh h v3 v4 gs us) (e1 : Ext w w1) (r1 : TR ND h.hash w1 13 g Y) (o1 : OkL Y)
    (z2 : ZR FN W.heap.size NK w2 v3' (ptrs gs ++ [ptr g])) (t2 : Turn FN NK w1 w2) (e3 : Ext w2 w3) (p3 : PS w3 u Y) (hl : Y.length ≤ gs.length)
    (z4 : ZR FL W.heap.size LP w4 v4' (us ++ [u])) (t4 : Turn FL LP w3 w4) (b4 : Ext W w4) : Vers6 W w4 gh h v3' v4' (gs ++ [g]) (us ++ [u]) := by
  have hrep : ∀ {g : Nat} {X : List Pr}, TR ND h.hash w1 13 g X → TR ND h.hash w4 13 g X := fun r => turn_tr t4 fl_ptr fl_str (by decide) 13 (TR.ext e3 13 (turn_tr t2 fn_ptr fn_str (by decide) 13 r))
  refine ⟨b4, t4.heap (HsAt.ext (show HsAt w2 gh h from t2.heap (V.hs.ext e1) (by decide)) e3) (by decide), ?_, z4, by simp [V.len], fun k g' u' h1 h2 => ?_⟩
  · have : ptrs (gs ++ [g]) = ptrs gs ++ [ptr g] := by simp [ptrs]
    rw [this]
    exact (z2.ext e3).turn t4 (by decide)
  · rcases Nat.lt_or_ge k gs.length with hk | hk
    · rw [List.getElem?_append_left hk] at h1
      rw [List.getElem?_append_left (by rw [← V.len]; exact hk)] at h2
      obtain ⟨X, a, b, c, d⟩ := V.has k g' u' h1 h2
      exact ⟨X, hrep (TR.ext e1 13 a), b, t4.ps ((t2.ps (c.below e1) fn_str).below e3) fl_str, by simp; omega⟩
    · rw [List.getElem?_append_right hk] at h1
      rw [List.getElem?_append_right (by rw [← V.len]; exact hk)] at h2
      have e : k - gs.length = 0 := by
        have := (List.getElem?_eq_some_iff.1 h1).1
        simpa using this
      rw [e] at h1
      rw [show k - us.length = 0 by rw [← V.len]; exact e] at h2
      cases h1
      cases h2
      exact ⟨Y, hrep r1, o1, t4.ps p3 fl_str, by simp; omega⟩
theorem zr_open {F : Value → Prop} {base : Nat} {e : TypeId} {w : World} {v : Value} {xs : List Value} (h : ZR F base e w v xs) (h0 : 0 < xs.length) : ∃ g c, v = .slice (some ⟨g, 0, none⟩) xs.length c := by
  rcases h.1.2 with ⟨_, h2⟩ | ⟨g, c, cur, h2, _⟩
  · omega
  · exact ⟨g, c, h2⟩
theorem Vers6.open (V : Vers6 W w gh h v3 v4 gs us) (h0 : 0 < gs.length) : ∃ gr rc gl lc, v3 = .slice (some ⟨gr, 0, none⟩) gs.length rc ∧ v4 = .slice (some ⟨gl, 0, none⟩) gs.length lc := by
  obtain ⟨gr, rc, e1⟩ := zr_open V.roots (by simpa using h0)
  obtain ⟨gl, lc, e2⟩ := zr_open V.lists (by rw [← V.len]; exact h0)
  rw [ptrs_length] at e1
  rw [← V.len] at e2
  exact ⟨gr, rc, gl, lc, e1, e2⟩
theorem Vers6.start {g : Nat} (hE : Ext W w) (hs : HsAt w gh h) (r : TR ND h.hash w 13 g []) :
    Vers6 W ((w.alloc (.cells #[ptr g] NK)).alloc (.cells #[.slice none 0 0] LP)) gh h (.slice (some ⟨w.heap.size, 0, none⟩) 1 1) (.slice (some ⟨w.heap.size + 1, 0, none⟩) 1 1) [g] [.slice none 0 0] := by
  have e1 : Ext w (w.alloc (.cells #[ptr g] NK)) := (Ext.refl _).alloc (Nat.le_refl _) _
  have e2 : Ext w ((w.alloc (.cells #[ptr g] NK)).alloc (.cells #[.slice none 0 0] LP)) := e1.trans ((Ext.refl _).alloc (Nat.le_refl _) _)
  have z1 : ZR FN W.heap.size NK (w.alloc (.cells #[ptr g] NK)) (.slice (some ⟨w.heap.size, 0, none⟩) 1 1) [ptr g] := ZR.one FN NK w _ hE.size
  have z2 : ZR FL W.heap.size LP ((w.alloc (.cells #[ptr g] NK)).alloc (.cells #[.slice none 0 0] LP)) (.slice (some ⟨(w.alloc (.cells #[ptr g] NK)).heap.size, 0, none⟩) 1 1) [.slice none 0 0] := ZR.one FL LP _ _ (hE.trans e1).size
  have hz : (w.alloc (.cells #[ptr g] NK)).heap.size = w.heap.size + 1 := by simp
  rw [hz] at z2
  refine ⟨hE.trans e2, hs.ext e2, z1.ext ((Ext.refl _).alloc (Nat.le_refl _) _), z2, rfl, fun k g' u h1 h2 => ?_⟩
  match k with
  | 0 =>
    cases h1
    cases h2
    exact ⟨[], TR.ext e2 13 r, OkL.nil, Sl.nil _ _, by simp⟩
  | k + 1 => simp at h1
end
theorem sl_one {w : World} {u : Value} {k n : Nat} {xs : List Value} (h : Sl w k u n xs) : u.oneCell' = true ∧ ¬ FN u := by
  obtain ⟨A, c, rfl, _⟩ := h
  exact ⟨rfl, fun h => by cases h⟩
theorem own_slice' {w : World} {base : Nat} {e : TypeId} {k n : Nat} {v : Value} {xs : List Value} (h : w.ownsRow base e k v n xs) : ∃ A c, v = .slice A n c := own_slice h
theorem keep6c {w w' : World} {a1 a2 a3 a4 a5 a6 : Addr} {u1 u2 u3 u4 u5 u6 : Value} (f : Ext w w') (h : w.cell? a1 = some u1 ∧ w.cell? a2 = some u2 ∧ w.cell? a3 = some u3 ∧ w.cell? a4 = some u4 ∧ w.cell? a5 = some u5 ∧ w.cell? a6 = some u6) : w'.cell? a1 = some u1 ∧ w'.cell? a2 = some u2 ∧ w'.cell? a3 = some u3 ∧ w'.cell? a4 = some u4 ∧ w'.cell? a5 = some u5 ∧ w'.cell? a6 = some u6 :=
  ⟨keep1c f h.1, keep1c f h.2.1, keep1c f h.2.2.1, keep1c f h.2.2.2.1, keep1c f h.2.2.2.2.1, keep1c f h.2.2.2.2.2⟩
theorem keep5c {w w' : World} {a2 a3 a4 a5 a6 : Addr} {u2 u3 u4 u5 u6 : Value} (f : Ext w w') (h : w.cell? a2 = some u2 ∧ w.cell? a3 = some u3 ∧ w.cell? a4 = some u4 ∧ w.cell? a5 = some u5 ∧ w.cell? a6 = some u6) : w'.cell? a2 = some u2 ∧ w'.cell? a3 = some u3 ∧ w'.cell? a4 = some u4 ∧ w'.cell? a5 = some u5 ∧ w'.cell? a6 = some u6 :=
  ⟨keep1c f h.1, keep1c f h.2.1, keep1c f h.2.2.1, keep1c f h.2.2.2.1, keep1c f h.2.2.2.2⟩
theorem keep3c {w w' : World} {a1 a2 a3 : Addr} {u1 u2 u3 : Value} (f : Ext w w') (h : w.cell? a1 = some u1 ∧ w.cell? a2 = some u2 ∧ w.cell? a3 = some u3) : w'.cell? a1 = some u1 ∧ w'.cell? a2 = some u2 ∧ w'.cell? a3 = some u3 :=
  ⟨keep1c f h.1, keep1c f h.2.1, keep1c f h.2.2⟩
theorem keep3t {F : Value → Prop} {e : TypeId} {w w' : World} {a1 a2 a3 : Addr} {u1 u2 u3 : Value} (f : Turn F e w w') (h : w.cell? a1 = some u1 ∧ w.cell? a2 = some u2 ∧ w.cell? a3 = some u3) (h1 : ¬ F u1) (h2 : ¬ F u2) (h3 : ¬ F u3) : w'.cell? a1 = some u1 ∧ w'.cell? a2 = some u2 ∧ w'.cell? a3 = some u3 :=
  ⟨f.cell h.1 h1, f.cell h.2.1 h2, f.cell h.2.2 h3⟩
end Go.Proofs.Ytlgnokhfioglaaa
