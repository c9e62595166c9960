/- A map keyed by strings, whose elements are integers: which keys it has, and how many. No program. -/
import Derived.Test.YtbmakajadelckaaM27
import Derived.Maps.Own
import Derived.Maps.OwnSet
set_option linter.unusedVariables false
set_option linter.unusedSimpArgs false
namespace Go.QS
open Go.RowKit
open Go.Maps (Keyed string_keyed)
open Go.WideMaps (keyOf_string_mk)

/-- Block b is a map of these keys, each once. -/
def KMap (P : Program) (k e : TypeId) (w : World) (b : Nat) (K : List (List UInt8)) : Prop :=
  ∃ l : List (Lit × DataW Unit), w.ownsMap P k (plainElem P e) b K.length (.map l) ∧ l.length = K.length ∧ ∀ x ∈ l, ∃ s ∈ K, x.1 = .string s
section
variable {P : Program} {k e t : TypeId} {w w' : World} {b : Nat} {K : List (List UInt8)}
theorem KMap.made (w : World) : KMap P k e (w.alloc (.map #[] 0)) w.heap.size [] := ⟨[], World.ownsMap_made w P k _, rfl, fun x hx => by cases hx⟩
theorem KMap.heap (h : KMap P k e w b K) (hb : w'.heap[b]? = w.heap[b]?) : KMap P k e w' b K := by
  obtain ⟨l, ⟨es, clock, h1, h2⟩, h3⟩ := h
  exact ⟨l, ⟨es, clock, hb.trans h1, h2⟩, h3⟩
theorem KMap.isMap (h : KMap P k e w b K) : ∃ o : Obj, w.heap[b]? = some o ∧ o.isCells = false := by
  obtain ⟨l, ⟨es, clock, h1, _⟩, _⟩ := h
  exact ⟨_, h1, rfl⟩
theorem KMap.lt (h : KMap P k e w b K) : b < w.heap.size := by
  obtain ⟨o, h, _⟩ := h.isMap
  exact (Array.getElem?_eq_some_iff.1 h).1
theorem KMap.look (h : KMap P k e w b K) (hk : P.underlying k = some .string) (ht : P.underlying t = some (.map k e)) (he : P.underlying e = some (.int .i64)) (hz : (zeroValue e).run P w = .ok (.int .i64 0) w) {s : List UInt8} (hs : s.length ≤ maxLen) :
    ∃ c, (Instr.lookup t (.map (some b)) (str s) false).run P w = .ok (.int .i64 c) w := by
  obtain ⟨l, h1, _⟩ := h
  obtain ⟨c, h2, _⟩ := h1.lookup_int (string_keyed hk) ht he hz (keyOf_string_mk hk (s := bs s) (by simpa using hs))
  exact ⟨c, h2⟩
theorem insert_len {H : Type} (x : Lit × DataW H) (l : List (Lit × DataW H)) : (DataW.insert x l).length = l.length + 1 := length_insert x l
theorem KMap.put {l : List (Lit × DataW Unit)} {s : List UInt8} {d : DataW Unit} (hl : l.length = K.length) (hK : ∀ x ∈ l, ∃ s ∈ K, x.1 = .string s) (hs : s ∉ K) :
    ∃ l2, (DataW.map l).put (.string s) d = .map l2 ∧ l2.length = K.length + 1 ∧ ∀ x ∈ l2, ∃ s' ∈ K ++ [s], x.1 = .string s' := by
  refine ⟨_, DataW.put_eq _ _ _, ?_, fun x hx => ?_⟩
  · unfold ChangeMaps.putKey
    rw [insert_len, List.filter_eq_self.2, hl]
    intro x hx
    obtain ⟨s', h1, h2⟩ := hK x hx
    refine (ChangeMaps.notKey_iff ⟨s, rfl⟩ ⟨s', h2⟩).2 ?_
    rw [h2]
    intro e
    cases e
    exact hs h1
  · rcases ChangeMaps.mem_insert_iff.1 hx with rfl | hx
    · exact ⟨s, by simp, rfl⟩
    · obtain ⟨s', h1, h2⟩ := hK x (List.mem_filter.1 hx).1
      exact ⟨s', by simp [h1], h2⟩
theorem wpList_tally {ops : Array Oper} {rest : List Oper} {o : Oper} {a : Act} {Q : Exit → Act → World → Prop}
    (hg : o.guard = none) (m x v : Operand) (t : TypeId) (hop : o.op = Op.mapUpdate t m x v) (hk : P.underlying k = some .string) (ht : P.underlying t = some (.map k e)) (he : P.underlying e = some (.int .i64))
    (hm : a.eval m = .map (some b)) (h : KMap P k e w b K) (hn : K.length < maxLen) (s : List UInt8) (hs9 : s.length ≤ maxLen) (hs : s ∉ K) (c : Int) (hc : (Lit.int .i64 c).wf = true) (hx : a.eval x = str s) (hv : a.eval v = .int .i64 c)
    (hK : ∀ w', KMap P k e w' b (K ++ [s]) → w.grownBy w' (some b) → wpList P ops Q rest (a.put o.dst undef) w') :
    wpList P ops Q (o :: rest) a w := by
  obtain ⟨l, h1, h2, h3⟩ := h
  have hkey : keyOf P k (str s) = some (.string s) := keyOf_string_mk hk (s := bs s) (by simpa using hs9)
  refine wpList_mapUpdate_own w hg m x v t hop k e (string_keyed hk) ht (plainElem P e) b K.length (.map l) hm h1 hn (str s) (.int .i64 c) (.string s) hx hv hkey _ [] (plainElem_int he hc) ?_
  intro w' hw' hg'
  obtain ⟨l2, e2, h4, h5⟩ := KMap.put (d := .lit (.int .i64 c)) h2 h3 hs
  rw [e2] at hw'
  exact hK w' ⟨l2, by rw [List.length_append]; exact hw', by rw [h4, List.length_append]; rfl, h5⟩ hg'
theorem KMap.len (h : KMap P k e w b K) (ht : P.underlying t = some (.map k e)) (ty : TypeId) : (Builtin.len_ #[t] ty #[.map (some b)]).run P w = .ok (.int .i64 K.length) w := by
  obtain ⟨l, h1, h2, _⟩ := h
  have := h1.len ht ty
  rw [this, ← h2]
  rfl
end
end Go.QS
