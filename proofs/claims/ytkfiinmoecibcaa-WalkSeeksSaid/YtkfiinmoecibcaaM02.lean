/- Texts joined. -/
import Derived.Test.YtkfiinmoecibcaaM01
import Derived.ArgAppend
import Derived.Lib.AppendStr
set_option linter.unusedVariables false
set_option linter.unusedSimpArgs false
/- Appends of bytes: onto a full slice of whoever's, of a string. No program. -/
namespace Go.QS
open Go.RowKit

theorem own_base {w : World} {base base' : Nat} {e : TypeId} {k n : Nat} {v : Value} {xs : List Value} (h : w.ownsRow base' e k v n xs) (hb : base ≤ base') : w.ownsRow base e k v n xs := by
  rcases h with ⟨h1, h2⟩
  refine ⟨h1, ?_⟩
  rcases h2 with h2 | ⟨g, cap, cur, rfl, hg, h3⟩
  · exact .inl h2
  · exact .inr ⟨g, cap, cur, rfl, Nat.le_trans hb hg, h3⟩

/-- A slice without spare room: what is appended goes into a new row. -/
theorem wpList_appG {P : Program} {W w : World} {ops : Array Oper} {rest : List Oper} {o : Oper} {a : Act} {Q : Exit → Act → World → Prop} (hgd : o.guard = none) (s x : Operand) (t : TypeId)
    (ho : o.op = .call { callee := .builtin .append, args := #[s, x], argTypes := #[t, t] })
    (e : TypeId) (size bytes : Nat) (ht : P.underlying t = some (.slice e)) (hi : ∃ i z, P.info? e = some i ∧ i.zero = some z ∧ i.size = size ∧ i.bytes = bytes ∧ z.cells.size = size) (hsz : 0 < size)
    (A0 : Option Addr) (n : Nat) (xs : List Value) (hs : a.eval s = .slice A0 n n) (hxl : xs.length = n * size) (h0 : Seg w A0 xs) (hb : Below W.heap.size W w)
    (A : Option Addr) (m c : Nat) (news : List Value) (hx : a.eval x = .slice A m c) (hm : 0 < m) (hl : news.length = m * size) (hr : Seg w A news) (h1 : ∀ u ∈ news, u.oneCell' = true)
    (h63 : n + m ≤ maxLen) (hbytes : (n + m) * bytes ≤ 140737488355328)
    (h : ∀ v' w', w'.ownsRow W.heap.size e size v' (n + m) (xs ++ news) → Below W.heap.size W w' → wpList P ops Q rest (a.put o.dst v') w') : wpList P ops Q (o :: rest) a w := by
  obtain ⟨i, z, h2, h3, h4, h5, h6⟩ := hi
  have hne : news ≠ [] := by
    intro e; rw [e] at hl; have := Nat.mul_pos hm hsz; simp only [List.length_nil] at hl; omega
  obtain ⟨b, o', rfl, hc⟩ := hr hne
  have hnone : A0 = none → n = 0 ∧ n = 0 := by
    intro hA
    rcases Nat.eq_zero_or_pos n with h | h
    · exact ⟨h, h⟩
    · have : xs ≠ [] := by
        intro e; rw [e] at hxl; have := Nat.mul_pos h hsz; simp only [List.length_nil] at hxl; omega
      obtain ⟨b, o, h', _⟩ := h0 this
      rw [hA] at h'; cases h'
  refine wpList_append_grows w hgd s x t ho e i z size bytes ht h2 h3 h4 h5 h6 hsz A0 n n xs hs hnone hxl ?_ ⟨b, o', none⟩ m c news hx hl ?_ h1 (by omega) h63 hbytes ?_
  · intro b0 hb0 j u hu
    obtain ⟨b1, o1, h', hc1⟩ := h0 (fun e => by rw [e] at hu; simp at hu)
    rw [hb0] at h'
    cases h'
    rw [Addr.add_lit]
    exact hc1 j u hu
  · intro j u hu
    rw [Addr.add_lit]
    exact hc j u hu
  · intro v' w' r1 r2
    exact h v' w' (own_base r1 hb.size) (hb.grown r2 hb.size fun k hk => by cases hk)

theorem strCells_str (s : List UInt8) : Lib.strCells (bs s) = encB s := by simp [Lib.strCells, encB, bs]

/-- append(b, s...), s a string. -/
theorem wpList_appS {P : Program} {W w : World} {ops : Array Oper} {rest : List Oper} {o : Oper} {a : Act} {Q : Exit → Act → World → Prop} (hgd : o.guard = none) (sl x : Operand) (t u : TypeId)
    (ho : o.op = .call { callee := .builtin .append, args := #[sl, x], argTypes := #[t, u] })
    (e : TypeId) (ht : P.underlying t = some (.slice e)) (hu : P.underlying u = some .string) (hi : ∃ i z, P.info? e = some i ∧ i.zero = some z ∧ i.size = 1 ∧ i.bytes = 1 ∧ z = .int .u8 0)
    (v : Value) (n : Nat) (xs : List Value) (hs : a.eval sl = v) (hown : w.ownsRow W.heap.size e 1 v n xs) (hb : Below W.heap.size W w) (s : List UInt8) (hx : a.eval x = str s)
    (h63 : n + s.length ≤ maxLen) (hbytes : n + s.length ≤ 140737488355328)
    (h : ∀ v' w', w'.ownsRow W.heap.size e 1 v' (n + s.length) (xs ++ encB s) → Below W.heap.size W w' → wpList P ops Q rest (a.put o.dst v') w') : wpList P ops Q (o :: rest) a w := by
  obtain ⟨i, z, h2, h3, h4, h5, rfl⟩ := hi
  refine Lib.wpList_append_own_string w hgd sl x t u ho W.heap.size e i ht hu h2 h3 h4 h5 v n xs hs hown (bs s) hx (by rw [bs_size]; exact h63) (by rw [bs_size]; exact hbytes) hb.size ?_
  intro v' w' r1 r2 _
  rw [bs_size, strCells_str] at r1
  exact h v' w' r1 (hb.grown r2 hb.size fun k hk => (hown.lt k hk).1)
end Go.QS
/- A row sorted block by block: plain laws. No program. -/
namespace Go.QS

/-- The elements from a up to b, sorted where they lie. -/
def upd (l : List Pr) (a b : Nat) : List Pr := l.take a ++ (ssort ((l.drop a).take (b - a)) ++ l.drop b)
section
variable {l : List Pr} {a b : Nat}
theorem cut3 (l : List Pr) {a b : Nat} (h : a ≤ b) : l = l.take a ++ ((l.drop a).take (b - a) ++ l.drop b) := by
  have : l.drop b = (l.drop a).drop (b - a) := by rw [List.drop_drop]; congr 1; omega
  rw [this, List.take_append_drop, List.take_append_drop]
theorem upd_length (h : a ≤ b) (hb : b ≤ l.length) : (upd l a b).length = l.length := by
  simp [upd, ssort_length]; omega
theorem upd_stb (h : a ≤ b) : Stb l (upd l a b) := by
  have e := cut3 l h
  have : Stb (l.take a ++ ((l.drop a).take (b - a) ++ l.drop b)) (upd l a b) := (Stb.refl _).append ((ssort_stb _).append (Stb.refl _))
  rw [← e] at this
  exact this
theorem upd_before (h : a ≤ b) (hb : b ≤ l.length) {i k : Nat} (hi : i + k ≤ a) : ((upd l a b).drop i).take k = (l.drop i).take k := by
  have e : (l.take a).length = a := List.length_take_of_le (by omega)
  unfold upd
  rw [List.drop_append_of_le_length (by omega), List.take_append_of_le_length (by rw [List.length_drop]; omega), List.drop_take, List.take_take]
  congr 1; omega
theorem upd_after (h : a ≤ b) (hb : b ≤ l.length) {i : Nat} (hi : b ≤ i) : (upd l a b).drop i = l.drop i := by
  have e : (l.take a).length = a := List.length_take_of_le (by omega)
  have e2 : (ssort ((l.drop a).take (b - a))).length = b - a := by rw [ssort_length]; exact List.length_take_of_le (by rw [List.length_drop]; omega)
  unfold upd
  rw [List.drop_append, List.drop_append, e, e2, List.drop_eq_nil_of_le (by omega), List.drop_eq_nil_of_le (by omega), List.drop_drop]
  simp only [List.nil_append]
  congr 1; omega
theorem upd_at (h : a ≤ b) (hb : b ≤ l.length) : ((upd l a b).drop a).take (b - a) = ssort ((l.drop a).take (b - a)) := by
  have e : (l.take a).length = a := List.length_take_of_le (by omega)
  have e2 : (ssort ((l.drop a).take (b - a))).length = b - a := by rw [ssort_length]; exact List.length_take_of_le (by rw [List.length_drop]; omega)
  unfold upd
  rw [List.drop_append_of_le_length (by omega), List.drop_eq_nil_of_le (by omega), List.nil_append, List.take_append_of_le_length (by omega), List.take_of_length_le (by omega)]
theorem srt_take_drop (h : Srt l) (i k : Nat) : Srt ((l.drop i).take k) := h.sub ((List.take_sublist _ _).trans (List.drop_sublist _ _))
theorem srt_short {i : Nat} (hi : l.length ≤ i) (k : Nat) : Srt ((l.drop i).take k) := by rw [List.drop_eq_nil_of_le hi]; simp [Srt]
end

/-- From the c-th block on, and before it: how far the merging has come. -/
def Merged (bs t : Nat) (l : List Pr) : Prop := (∀ c, c < t → Srt ((l.drop (c * (2 * bs))).take (2 * bs))) ∧ (∀ c, 2 * t ≤ c → Srt ((l.drop (c * bs)).take bs))
def Chunks (bs : Nat) (l : List Pr) : Prop := ∀ c, Srt ((l.drop (c * bs)).take bs)

theorem Merged.zero {bs : Nat} {l : List Pr} (h : Chunks bs l) : Merged bs 0 l := ⟨fun c hc => by omega, fun c _ => h c⟩
theorem Merged.step {bs t a b : Nat} {l : List Pr} (h : Merged bs t l) (ha : a = t * (2 * bs)) (hb : b = a + 2 * bs) (hbl : b ≤ l.length) : Merged bs (t + 1) (upd l a b) := by
  refine ⟨fun c hc => ?_, fun c hc => ?_⟩
  · rcases Nat.lt_or_eq_of_le (Nat.le_of_lt_succ hc) with h1 | rfl
    · have : c * (2 * bs) + 2 * bs ≤ a := by rw [ha, ← Nat.succ_mul]; exact Nat.mul_le_mul_right _ h1
      rw [upd_before (by omega) hbl this]
      exact h.1 c h1
    · rw [← ha, show 2 * bs = b - a by omega, upd_at (by omega) hbl]
      exact ssort_srt _
  · have : b ≤ c * bs := by
      have h2 : (2 * (t + 1)) * bs ≤ c * bs := Nat.mul_le_mul_right _ hc
      have h3 : (2 * (t + 1)) * bs = (t + 1) * (2 * bs) := by rw [Nat.mul_comm 2, Nat.mul_assoc]
      have h4 : (t + 1) * (2 * bs) = t * (2 * bs) + 2 * bs := Nat.succ_mul _ _
      omega
    rw [upd_after (by omega) hbl this]
    exact h.2 c (by omega)
theorem Merged.left {bs t a : Nat} {l : List Pr} (h : Merged bs t l) (ha : a = t * (2 * bs)) : Srt ((l.drop a).take bs) ∧ Srt ((l.drop (a + bs)).take bs) := by
  have e1 : a = (2 * t) * bs := by rw [ha, Nat.mul_comm 2 t, Nat.mul_assoc]
  have e2 : a + bs = (2 * t + 1) * bs := by rw [e1]; exact (Nat.succ_mul (2 * t) bs).symm
  rw [e2, e1]
  exact ⟨h.2 _ (Nat.le_refl _), h.2 _ (by omega)⟩
theorem Merged.finish {bs t a : Nat} {l : List Pr} (h : Merged bs t l) (ha : a = t * (2 * bs)) (hal : a ≤ l.length) (hlt : l.length < a + 2 * bs) : Chunks (2 * bs) (upd l a l.length) := by
  intro c
  have hlen := upd_length hal (Nat.le_refl l.length)
  rcases Nat.lt_trichotomy c t with h1 | rfl | h1
  · have : c * (2 * bs) + 2 * bs ≤ a := by rw [ha, ← Nat.succ_mul]; exact Nat.mul_le_mul_right _ h1
    rw [upd_before hal (Nat.le_refl _) this]
    exact h.1 c h1
  · rw [← ha]
    have := upd_at hal (Nat.le_refl l.length)
    have e : ((upd l a l.length).drop a).take (2 * bs) = ((upd l a l.length).drop a).take (l.length - a) := by
      rw [List.take_of_length_le (by rw [List.length_drop, hlen]; omega), List.take_of_length_le (by rw [List.length_drop, hlen]; omega)]
    rw [e, this]
    exact ssort_srt _
  · have : l.length ≤ c * (2 * bs) := by
      have h2 : (t + 1) * (2 * bs) ≤ c * (2 * bs) := Nat.mul_le_mul_right _ h1
      have h4 : (t + 1) * (2 * bs) = t * (2 * bs) + 2 * bs := Nat.succ_mul _ _
      omega
    exact srt_short (by omega) _
theorem Merged.finish' {bs t a : Nat} {l : List Pr} (h : Merged bs t l) (ha : a = t * (2 * bs)) (hm : l.length ≤ a + bs) : Chunks (2 * bs) l := by
  intro c
  rcases Nat.lt_trichotomy c t with h1 | rfl | h1
  · exact h.1 c h1
  · rw [← ha]
    have e : (l.drop a).take (2 * bs) = (l.drop a).take bs := by
      rw [List.take_of_length_le (by rw [List.length_drop]; omega), List.take_of_length_le (by rw [List.length_drop]; omega)]
    rw [e]
    exact (h.left ha).1
  · have : l.length ≤ c * (2 * bs) := by
      have h2 : (t + 1) * (2 * bs) ≤ c * (2 * bs) := Nat.mul_le_mul_right _ h1
      have h4 : (t + 1) * (2 * bs) = t * (2 * bs) + 2 * bs := Nat.succ_mul _ _
      omega
    exact srt_short this _
/-- The first blocks, sorted by insertion. -/
def Firsts (t : Nat) (l : List Pr) : Prop := ∀ c, c < t → Srt ((l.drop (c * 20)).take 20)
theorem Firsts.step {t a b : Nat} {l : List Pr} (h : Firsts t l) (ha : a = t * 20) (hb : b = a + 20) (hbl : b ≤ l.length) : Firsts (t + 1) (upd l a b) := by
  intro c hc
  rcases Nat.lt_or_eq_of_le (Nat.le_of_lt_succ hc) with h1 | rfl
  · rw [upd_before (by omega) hbl (by omega)]
    exact h c h1
  · rw [← ha, show 20 = b - a by omega, upd_at (by omega) hbl]
    exact ssort_srt _
theorem Firsts.finish {t a : Nat} {l : List Pr} (h : Firsts t l) (ha : a = t * 20) (hal : a ≤ l.length) (hlt : l.length < a + 20) : Chunks 20 (upd l a l.length) := by
  intro c
  have hlen := upd_length hal (Nat.le_refl l.length)
  rcases Nat.lt_trichotomy c t with h1 | rfl | h1
  · rw [upd_before hal (Nat.le_refl _) (by omega)]
    exact h c h1
  · rw [← ha]
    have := upd_at hal (Nat.le_refl l.length)
    have e : ((upd l a l.length).drop a).take 20 = ((upd l a l.length).drop a).take (l.length - a) := by
      rw [List.take_of_length_le (by rw [List.length_drop, hlen]; omega), List.take_of_length_le (by rw [List.length_drop, hlen]; omega)]
    rw [e, this]
    exact ssort_srt _
  · exact srt_short (by omega) _
theorem Chunks.done {bs : Nat} {l l0 : List Pr} (h : Chunks bs l) (hl : l.length ≤ bs) (hs : Stb l0 l) : l = ssort l0 := by
  refine ssort_uniq ?_ hs
  have := h 0
  rwa [Nat.zero_mul, List.drop_zero, List.take_of_length_le hl] at this
/-- Each key once, with its last value, of a list in which equal keys lie together. -/
def lastOf : List Pr → List Pr
  | [] => []
  | [x] => [x]
  | x :: y :: r => if x.1 = y.1 then lastOf (y :: r) else x :: lastOf (y :: r)
/-- What pair.Sorted answers. -/
def sortedP (l : List Pr) : List Pr := lastOf (ssort l)
theorem lastOf_skip {x y : Pr} {r : List Pr} (h : x.1 = y.1) : lastOf (x :: y :: r) = lastOf (y :: r) := by simp [lastOf, h]
theorem lastOf_keep {x y : Pr} {r : List Pr} (h : x.1 ≠ y.1) : lastOf (x :: y :: r) = x :: lastOf (y :: r) := by simp [lastOf, h]
theorem lastOf_length : ∀ l : List Pr, (lastOf l).length ≤ l.length
  | [] => Nat.le_refl _
  | [x] => Nat.le_refl _
  | x :: y :: r => by
    have := lastOf_length (y :: r)
    unfold lastOf
    split
    · simp only [List.length_cons] at *; omega
    · simp only [List.length_cons] at *; omega
theorem sortedP_length (l : List Pr) : (sortedP l).length ≤ l.length := by
  have := lastOf_length (ssort l)
  rw [ssort_length] at this
  exact this
end Go.QS
