/- A row of one's own, of elements of several cells, that grows by append while trees stand. No program. -/
import Derived.Test.YtmpeniboccahdaaMi
namespace Go.QS
open Go.RowKit

/-- A row of one's own whose spare cells are such. -/
def ZK (F : Value → Prop) (base : Nat) (e : TypeId) (k : Nat) (w : World) (v : Value) (n : Nat) (xs : List Value) : Prop :=
  w.ownsRow base e k v n xs ∧ ∀ (g cap : Nat) (cur : Array Value), v = .slice (some ⟨g, 0, none⟩) n cap → w.heap[g]? = some (.cells cur e (0, 0)) → ∀ (j : Nat) (u : Value), xs.length ≤ j → cur[j]? = some u → F u

section
variable {F : Value → Prop} {e : TypeId} {w w' : World} {xs : List Value} {v : Value} {base k n : Nat}
theorem ZK.nil (w : World) (base : Nat) (e : TypeId) (k : Nat) : ZK F base e k w (.slice none 0 0) 0 [] := ⟨World.ownsRow_nil w base e k, fun g cap cur h => by cases h⟩
theorem ZK.ext (h : ZK F base e k w v n xs) (f : Ext w w') : ZK F base e k w' v n xs := by
  have hl := h.1.lt
  refine ⟨World.ownsRow.kept (row := none) h.1 ⟨f.os, f.tape, f.output, f.size, fun k hk _ => f.block k hk⟩ (by cases v.ownBlock <;> simp), fun g cap cur hv hg => ?_⟩
  refine h.2 g cap cur hv ?_
  rw [← f.block g (by rw [hv] at hl; exact (hl g rfl).2)]
  exact hg

theorem run_appK {P : Program} (w : World) (base : Nat) (t ty e : TypeId) (i : TypeInfo) (z : Value) (size bytes : Nat) (ht : P.underlying t = some (.slice e)) (hi : P.info? e = some i) (hz : i.zero = some z)
    (hsize : i.size = size) (hby : i.bytes = bytes) (hzs : z.cells.size = size) (hsz : 0 < size) (hF : ∀ u ∈ z.cells, F u)
    (v : Value) (n : Nat) (xs : List Value) (hown : ZK F base e size w v n xs)
    (a : Addr) (c : Nat) (news : List Value) (hl : news.length = size) (hnews : ∀ j u, news[j]? = some u → w.cell? (a.add j) = some u) (h1 : ∀ u ∈ news, u.oneCell' = true)
    (h63 : n + 1 ≤ maxLen) (hbytes : (n + 1) * bytes ≤ 140737488355328) (hbase : base ≤ w.heap.size) :
    ∃ v' w', (Builtin.append_ #[t, t] ty #[v, .slice (some a) 1 c]).run P w = .ok v' w' ∧ ZK F base e size w' v' (n + 1) (xs ++ news) ∧ w.grownBy w' v.ownBlock ∧ Turn F e w w' := by
  subst hby
  subst hsize
  have hsmall : n + 1 ≤ 9223372036854775807 := by simp only [maxLen] at h63; omega
  have hxl := hown.1.1
  have hlen : (xs ++ news).length = (n + 1) * i.size := by rw [List.length_append, hxl, hl, Nat.add_mul]; omega
  have grown : ∀ (old : Nat), old < n + 1 → ∀ (row : Option Nat),
      ZK F base e i.size (w.drew.alloc (.cells (xs.toArray ++ news.toArray ++ Builtin.zeroCells z.cells (grownCap w (n + 1) old e - (n + 1))) e))
        (.slice (some ⟨w.heap.size, 0, none⟩) (n + 1) (grownCap w (n + 1) old e)) (n + 1) (xs ++ news) ∧
      w.grownBy (w.drew.alloc (.cells (xs.toArray ++ news.toArray ++ Builtin.zeroCells z.cells (grownCap w (n + 1) old e - (n + 1))) e)) row ∧ Turn F e w (w.drew.alloc (.cells (xs.toArray ++ news.toArray ++ Builtin.zeroCells z.cells (grownCap w (n + 1) old e - (n + 1))) e)) := by
    intro old ho row
    have hge := grownCap_ge w (n + 1) old e
    have hcm : grownCap w (n + 1) old e ≤ maxLen := grownCap_le_maxLen w (n + 1) old e h63
    have hnew : (w.drew.alloc (.cells (xs.toArray ++ news.toArray ++ Builtin.zeroCells z.cells (grownCap w (n + 1) old e - (n + 1))) e)).heap[w.heap.size]? = some (.cells (xs.toArray ++ news.toArray ++ Builtin.zeroCells z.cells (grownCap w (n + 1) old e - (n + 1))) e (0, 0)) := heap_alloc_new w.drew _
    refine ⟨⟨⟨hlen, .inr ⟨w.heap.size, _, _, rfl, hbase, hnew, hge, hcm, ?_, ?_⟩⟩, ?_⟩, ⟨rfl, rfl, rfl, by simp, fun k hk _ => Below.heap_alloc w.drew _ k hk⟩, ⟨rfl, rfl, rfl, by simp, fun k hk => .inl (Below.heap_alloc w.drew _ k hk)⟩⟩
    · simp only [Array.size_append, List.size_toArray, size_zeroCells, hzs, hxl, hl]
      rw [← Nat.succ_mul, ← Nat.add_mul]
      congr 1
      omega
    · simp only [Array.toList_append, List.append_assoc]
      rw [← List.append_assoc, ← hlen]
      exact List.take_left
    · intro g cap cur hv hg j u hj hu
      have hgg : g = w.heap.size := by simp at hv; exact hv.1.symm
      subst hgg
      rw [hnew] at hg
      cases hg
      rw [Array.getElem?_append_right (by simp only [List.length_append] at hj; simp; omega)] at hu
      exact hF u (mem_zeroCells (Array.mem_of_getElem? hu) (by omega))
  rcases hown.1.2 with ⟨rfl, hn⟩ | ⟨g, cap, cur, rfl, hbg, hg, hnc, hcm, hcs, htake⟩
  · subst hn
    have hxs : xs = [] := List.eq_nil_of_length_eq_zero (by omega)
    subst hxs
    have hr := run_append_nil (P := P) w t ty e i z ht hi hz a 1 c news (by omega) hnews (by omega) (by omega) (by simp at hbytes; omega)
    have hgr := grown 0 (by omega) (Value.ownBlock (.slice none 0 0))
    simp only [Nat.zero_add, List.nil_append, Array.empty_append] at hgr ⊢
    exact ⟨_, _, hr, hgr.1, hgr.2.1, hgr.2.2⟩
  · by_cases hroom : n + 1 ≤ cap
    · have hfit : n * i.size + news.length ≤ cur.size := by rw [hl, hcs, ← Nat.succ_mul]; exact Nat.mul_le_mul_right _ hroom
      have hr := run_append_room (P := P) w t ty e i ht hi g n cap cur hg a 1 c news (by omega) hnews h1 hroom hfit
      have hset := setRow_heap w g cur (cur.toList.take (n * i.size) ++ news ++ cur.toList.drop (n * i.size + news.length)).toArray e _ hg
      have hlt : (cur.toList.take (n * i.size)).length = n * i.size := by simp; omega
      have hget : ∀ j, j < n * i.size ∨ n * i.size + news.length ≤ j → (cur.toList.take (n * i.size) ++ news ++ cur.toList.drop (n * i.size + news.length)).toArray[j]? = cur[j]? := by
        intro j hj
        rw [List.getElem?_toArray]
        rcases hj with h | h
        · rw [List.append_assoc, List.getElem?_append_left (by omega), List.getElem?_take_of_lt h]; simp
        · rw [List.getElem?_append_right (by simp; omega), List.getElem?_drop]
          simp only [List.length_append, hlt]
          rw [show n * i.size + news.length + (j - (n * i.size + news.length)) = j by omega]; simp
      refine ⟨_, _, hr, ⟨⟨hlen, .inr ⟨g, cap, _, rfl, hbg, hset, hroom, hcm, ?_, ?_⟩⟩, ?_⟩, ⟨rfl, rfl, rfl, by simp, fun k _ hk => setRow_other w g k _ (fun e => hk (by simp [Value.ownBlock, e]))⟩, ⟨rfl, rfl, rfl, by simp, fun k hk => ?_⟩⟩
      · simp only [List.size_toArray, List.length_append, List.length_drop, hlt, Array.length_toList]
        omega
      · rw [htake, ← hlen]
        exact List.take_left
      · intro g' cap' cur' hv hg' j u hj hu
        have hgg : g' = g := by simp at hv; exact hv.1.symm
        subst hgg
        rw [hset] at hg'
        cases hg'
        simp only [List.length_append] at hj
        rw [hget j (.inr (by omega))] at hu
        exact hown.2 _ cap cur rfl hg j u (by omega) hu
      · by_cases hkg : k = g
        · subst hkg
          refine .inr ⟨cur, _, hg, hset, fun j u hu => ?_⟩
          by_cases hj : j < n * i.size
          · right; rw [hget j (.inl hj)]; exact hu
          · exact .inl (hown.2 _ cap cur rfl hg j u (by omega) hu)
        · exact .inl (setRow_other w g k _ hkg)
    · have holds : ∀ j u, xs[j]? = some u → w.cell? ((⟨g, 0, none⟩ : Addr).add j) = some u := hown.1.cells (g := g) rfl
      have hr := run_append_grow (P := P) w t ty e i z ht hi hz ⟨g, 0, none⟩ n cap xs hxl holds a 1 c news (by omega) hnews (by omega) (by omega) (growslice_fits (by omega) hbytes)
      have hgr := grown cap (by omega) (Value.ownBlock (.slice (some ⟨g, 0, none⟩) n cap))
      exact ⟨_, _, hr, hgr.1, hgr.2.1, hgr.2.2⟩

theorem wpList_appK {P : Program} {W w : World} {ops : Array Oper} {rest : List Oper} {o : Oper} {a : Act} {Q : Exit → Act → World → Prop} (hgd : o.guard = none) (s x : Operand) (t : TypeId)
    (ho : o.op = .call { callee := .builtin .append, args := #[s, x], argTypes := #[t, t] })
    (F : Value → Prop) (e : TypeId) (size bytes : Nat) (ht : P.underlying t = some (.slice e)) (hi : ∃ i z, P.info? e = some i ∧ i.zero = some z ∧ i.size = size ∧ i.bytes = bytes ∧ z.cells.size = size ∧ ∀ u ∈ z.cells, F u) (hsz : 0 < size)
    (v : Value) (n : Nat) (xs : List Value) (hs : a.eval s = v) (hown : ZK F W.heap.size e size w v n xs) (hb : Below W.heap.size W w)
    (b o' c : Nat) (news : List Value) (hx : a.eval x = .slice (some ⟨b, o', none⟩) 1 c) (hl : news.length = size) (hr : Seg w (some ⟨b, o', none⟩) news) (h1 : ∀ u ∈ news, u.oneCell' = true)
    (h63 : n + 1 ≤ maxLen) (hbytes : (n + 1) * bytes ≤ 140737488355328)
    (h : ∀ v' w', ZK F W.heap.size e size w' v' (n + 1) (xs ++ news) → Below W.heap.size W w' → Turn F e w w' → wpList P ops Q rest (a.put o.dst v') w') : wpList P ops Q (o :: rest) a w :=
  wpList_plain hgd fun _ hK => by
    obtain ⟨i, z, hi, hz, hsize, hby, hzs, hF⟩ := hi
    obtain ⟨v', w', hrun, h2, h3, h4⟩ := run_appK (P := P) w W.heap.size t o.type e i z size bytes ht hi hz hsize hby hzs hsz hF v n xs hown ⟨b, o', none⟩ c news hl (fun j u hu => by
      obtain ⟨b1, o1, h', hc1⟩ := hr (fun e => by rw [e] at hu; simp at hu)
      cases h'
      rw [Addr.add_lit]
      exact hc1 j u hu) h1 h63 hbytes hb.size
    unfold Oper.wp execOp
    simp only [ho, resolve, invoke, builtin, Sem.run_bind, Sem.run_pure, Result.andThen_ok, List.map_toArray, List.map_cons, List.map_nil, hs, hx, hrun]
    exact hK _ _ (h v' w' h2 (hb.grown h3 hb.size fun k hk => (hown.1.lt k hk).1) h4)
theorem info_ofK {P : Program} {t : TypeId} {z : Value} {size bytes : Nat} (h : (P.info? t).map (fun i => (i.zero, i.size, i.bytes)) = some (some z, size, bytes)) (hz : z.cells.size = size) (hF : ∀ u ∈ z.cells, F u) :
    ∃ i z, P.info? t = some i ∧ i.zero = some z ∧ i.size = size ∧ i.bytes = bytes ∧ z.cells.size = size ∧ ∀ u ∈ z.cells, F u := by
  obtain ⟨i, z', a1, a2, a3, a4, a5⟩ := info_of h hz
  have : z' = z := by
    rw [a1] at h
    simp only [Option.map_some, Option.some.injEq, Prod.mk.injEq] at h
    rw [a2] at h
    exact Option.some.inj h.1
  subst this
  exact ⟨i, z', a1, a2, a3, a4, a5, hF⟩
end
end Go.QS
