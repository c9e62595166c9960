/- Appends of bytes: onto a full slice of whoever's, of a string. No program. -/
import Derived.Test.YtbmakajadelckaaDoorByt
import Derived.ArgAppend
import Derived.Lib.AppendStr
set_option linter.unusedVariables false
set_option linter.unusedSimpArgs false
namespace Go.QS
open Go.RowKit

theorem own_base {w : World} {base base' : Nat} {e : TypeId} {k n : Nat} {v : Value} {xs : List Value} (h : w.ownsRow base' e k v n xs) (hb : base ≤ base') : w.ownsRow base e k v n xs := by
  rcases h with ⟨h1, h2⟩
  refine ⟨h1, ?_⟩
  rcases h2 with h2 | ⟨g, cap, cur, rfl, hg, h3⟩
  · exact .inl h2
  · exact .inr ⟨g, cap, cur, rfl, Nat.le_trans hb hg, h3⟩

/-- A slice without spare room: what is appended goes into a new row. -/
theorem wpList_appG {P : Program} {W w : World} {ops : Array Oper} {rest : List Oper} {o : Oper} {a : Act} {Q : Exit → Act → World → Prop} (hgd : o.guard = none) (s x : Operand) (t : TypeId)
    (ho : o.op = .call { callee := .builtin .append, args := #[s, x], argTypes := #[t, t] })
    (e : TypeId) (size bytes : Nat) (ht : P.underlying t = some (.slice e)) (hi : ∃ i z, P.info? e = some i ∧ i.zero = some z ∧ i.size = size ∧ i.bytes = bytes ∧ z.cells.size = size) (hsz : 0 < size)
    (A0 : Option Addr) (n : Nat) (xs : List Value) (hs : a.eval s = .slice A0 n n) (hxl : xs.length = n * size) (h0 : Seg w A0 xs) (hb : Below W.heap.size W w)
    (A : Option Addr) (m c : Nat) (news : List Value) (hx : a.eval x = .slice A m c) (hm : 0 < m) (hl : news.length = m * size) (hr : Seg w A news) (h1 : ∀ u ∈ news, u.oneCell' = true)
    (h63 : n + m ≤ maxLen) (hbytes : (n + m) * bytes ≤ 140737488355328)
    (h : ∀ v' w', w'.ownsRow W.heap.size e size v' (n + m) (xs ++ news) → Below W.heap.size W w' → wpList P ops Q rest (a.put o.dst v') w') : wpList P ops Q (o :: rest) a w := by
  obtain ⟨i, z, h2, h3, h4, h5, h6⟩ := hi
  have hne : news ≠ [] := by
    intro e; rw [e] at hl; have := Nat.mul_pos hm hsz; simp only [List.length_nil] at hl; omega
  obtain ⟨b, o', rfl, hc⟩ := hr hne
  have hnone : A0 = none → n = 0 ∧ n = 0 := by
    intro hA
    rcases Nat.eq_zero_or_pos n with h | h
    · exact ⟨h, h⟩
    · have : xs ≠ [] := by
        intro e; rw [e] at hxl; have := Nat.mul_pos h hsz; simp only [List.length_nil] at hxl; omega
      obtain ⟨b, o, h', _⟩ := h0 this
      rw [hA] at h'; cases h'
  refine wpList_append_grows w hgd s x t ho e i z size bytes ht h2 h3 h4 h5 h6 hsz A0 n n xs hs hnone hxl ?_ ⟨b, o', none⟩ m c news hx hl ?_ h1 (by omega) h63 hbytes ?_
  · intro b0 hb0 j u hu
    obtain ⟨b1, o1, h', hc1⟩ := h0 (fun e => by rw [e] at hu; simp at hu)
    rw [hb0] at h'
    cases h'
    rw [Addr.add_lit]
    exact hc1 j u hu
  · intro j u hu
    rw [Addr.add_lit]
    exact hc j u hu
  · intro v' w' r1 r2
    exact h v' w' (own_base r1 hb.size) (hb.grown r2 hb.size fun k hk => by cases hk)

theorem strCells_str (s : List UInt8) : Lib.strCells (bs s) = encB s := by simp [Lib.strCells, encB, bs]

/-- append(b, s...), s a string. -/
theorem wpList_appS {P : Program} {W w : World} {ops : Array Oper} {rest : List Oper} {o : Oper} {a : Act} {Q : Exit → Act → World → Prop} (hgd : o.guard = none) (sl x : Operand) (t u : TypeId)
    (ho : o.op = .call { callee := .builtin .append, args := #[sl, x], argTypes := #[t, u] })
    (e : TypeId) (ht : P.underlying t = some (.slice e)) (hu : P.underlying u = some .string) (hi : ∃ i z, P.info? e = some i ∧ i.zero = some z ∧ i.size = 1 ∧ i.bytes = 1 ∧ z = .int .u8 0)
    (v : Value) (n : Nat) (xs : List Value) (hs : a.eval sl = v) (hown : w.ownsRow W.heap.size e 1 v n xs) (hb : Below W.heap.size W w) (s : List UInt8) (hx : a.eval x = str s)
    (h63 : n + s.length ≤ maxLen) (hbytes : n + s.length ≤ 140737488355328)
    (h : ∀ v' w', w'.ownsRow W.heap.size e 1 v' (n + s.length) (xs ++ encB s) → Below W.heap.size W w' → wpList P ops Q rest (a.put o.dst v') w') : wpList P ops Q (o :: rest) a w := by
  obtain ⟨i, z, h2, h3, h4, h5, rfl⟩ := hi
  refine Lib.wpList_append_own_string w hgd sl x t u ho W.heap.size e i ht hu h2 h3 h4 h5 v n xs hs hown (bs s) hx (by rw [bs_size]; exact h63) (by rw [bs_size]; exact hbytes) hb.size ?_
  intro v' w' r1 r2 _
  rw [bs_size, strCells_str] at r1
  exact h v' w' r1 (hb.grown r2 hb.size fun k hk => (hown.lt k hk).1)
end Go.QS
