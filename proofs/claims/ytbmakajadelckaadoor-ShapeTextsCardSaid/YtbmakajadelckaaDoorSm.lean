/- A row sorted block by block: plain laws. No program. -/
import Derived.Test.YtbmakajadelckaaDoorSt
set_option linter.unusedVariables false
set_option linter.unusedSimpArgs false
namespace Go.QS

/-- The elements from a up to b, sorted where they lie. -/
def upd (l : List Pr) (a b : Nat) : List Pr := l.take a ++ (ssort ((l.drop a).take (b - a)) ++ l.drop b)
section
variable {l : List Pr} {a b : Nat}
theorem cut3 (l : List Pr) {a b : Nat} (h : a ≤ b) : l = l.take a ++ ((l.drop a).take (b - a) ++ l.drop b) := by
  have : l.drop b = (l.drop a).drop (b - a) := by rw [List.drop_drop]; congr 1; omega
  rw [this, List.take_append_drop, List.take_append_drop]
theorem upd_length (h : a ≤ b) (hb : b ≤ l.length) : (upd l a b).length = l.length := by
  simp [upd, ssort_length]; omega
theorem upd_stb (h : a ≤ b) : Stb l (upd l a b) := by
  have e := cut3 l h
  have : Stb (l.take a ++ ((l.drop a).take (b - a) ++ l.drop b)) (upd l a b) := (Stb.refl _).append ((ssort_stb _).append (Stb.refl _))
  rw [← e] at this
  exact this
theorem upd_before (h : a ≤ b) (hb : b ≤ l.length) {i k : Nat} (hi : i + k ≤ a) : ((upd l a b).drop i).take k = (l.drop i).take k := by
  have e : (l.take a).length = a := List.length_take_of_le (by omega)
  unfold upd
  rw [List.drop_append_of_le_length (by omega), List.take_append_of_le_length (by rw [List.length_drop]; omega), List.drop_take, List.take_take]
  congr 1; omega
theorem upd_after (h : a ≤ b) (hb : b ≤ l.length) {i : Nat} (hi : b ≤ i) : (upd l a b).drop i = l.drop i := by
  have e : (l.take a).length = a := List.length_take_of_le (by omega)
  have e2 : (ssort ((l.drop a).take (b - a))).length = b - a := by rw [ssort_length]; exact List.length_take_of_le (by rw [List.length_drop]; omega)
  unfold upd
  rw [List.drop_append, List.drop_append, e, e2, List.drop_eq_nil_of_le (by omega), List.drop_eq_nil_of_le (by omega), List.drop_drop]
  simp only [List.nil_append]
  congr 1; omega
theorem upd_at (h : a ≤ b) (hb : b ≤ l.length) : ((upd l a b).drop a).take (b - a) = ssort ((l.drop a).take (b - a)) := by
  have e : (l.take a).length = a := List.length_take_of_le (by omega)
  have e2 : (ssort ((l.drop a).take (b - a))).length = b - a := by rw [ssort_length]; exact List.length_take_of_le (by rw [List.length_drop]; omega)
  unfold upd
  rw [List.drop_append_of_le_length (by omega), List.drop_eq_nil_of_le (by omega), List.nil_append, List.take_append_of_le_length (by omega), List.take_of_length_le (by omega)]
theorem srt_take_drop (h : Srt l) (i k : Nat) : Srt ((l.drop i).take k) := h.sub ((List.take_sublist _ _).trans (List.drop_sublist _ _))
theorem srt_short {i : Nat} (hi : l.length ≤ i) (k : Nat) : Srt ((l.drop i).take k) := by rw [List.drop_eq_nil_of_le hi]; simp [Srt]
end

/-- From the c-th block on, and before it: how far the merging has come. -/
def Merged (bs t : Nat) (l : List Pr) : Prop := (∀ c, c < t → Srt ((l.drop (c * (2 * bs))).take (2 * bs))) ∧ (∀ c, 2 * t ≤ c → Srt ((l.drop (c * bs)).take bs))
def Chunks (bs : Nat) (l : List Pr) : Prop := ∀ c, Srt ((l.drop (c * bs)).take bs)

theorem Merged.zero {bs : Nat} {l : List Pr} (h : Chunks bs l) : Merged bs 0 l := ⟨fun c hc => by omega, fun c _ => h c⟩
theorem Merged.step {bs t a b : Nat} {l : List Pr} (h : Merged bs t l) (ha : a = t * (2 * bs)) (hb : b = a + 2 * bs) (hbl : b ≤ l.length) : Merged bs (t + 1) (upd l a b) := by
  refine ⟨fun c hc => ?_, fun c hc => ?_⟩
  · rcases Nat.lt_or_eq_of_le (Nat.le_of_lt_succ hc) with h1 | rfl
    · have : c * (2 * bs) + 2 * bs ≤ a := by rw [ha, ← Nat.succ_mul]; exact Nat.mul_le_mul_right _ h1
      rw [upd_before (by omega) hbl this]
      exact h.1 c h1
    · rw [← ha, show 2 * bs = b - a by omega, upd_at (by omega) hbl]
      exact ssort_srt _
  · have : b ≤ c * bs := by
      have h2 : (2 * (t + 1)) * bs ≤ c * bs := Nat.mul_le_mul_right _ hc
      have h3 : (2 * (t + 1)) * bs = (t + 1) * (2 * bs) := by rw [Nat.mul_comm 2, Nat.mul_assoc]
      have h4 : (t + 1) * (2 * bs) = t * (2 * bs) + 2 * bs := Nat.succ_mul _ _
      omega
    rw [upd_after (by omega) hbl this]
    exact h.2 c (by omega)
theorem Merged.left {bs t a : Nat} {l : List Pr} (h : Merged bs t l) (ha : a = t * (2 * bs)) : Srt ((l.drop a).take bs) ∧ Srt ((l.drop (a + bs)).take bs) := by
  have e1 : a = (2 * t) * bs := by rw [ha, Nat.mul_comm 2 t, Nat.mul_assoc]
  have e2 : a + bs = (2 * t + 1) * bs := by rw [e1]; exact (Nat.succ_mul (2 * t) bs).symm
  rw [e2, e1]
  exact ⟨h.2 _ (Nat.le_refl _), h.2 _ (by omega)⟩
theorem Merged.finish {bs t a : Nat} {l : List Pr} (h : Merged bs t l) (ha : a = t * (2 * bs)) (hal : a ≤ l.length) (hlt : l.length < a + 2 * bs) : Chunks (2 * bs) (upd l a l.length) := by
  intro c
  have hlen := upd_length hal (Nat.le_refl l.length)
  rcases Nat.lt_trichotomy c t with h1 | rfl | h1
  · have : c * (2 * bs) + 2 * bs ≤ a := by rw [ha, ← Nat.succ_mul]; exact Nat.mul_le_mul_right _ h1
    rw [upd_before hal (Nat.le_refl _) this]
    exact h.1 c h1
  · rw [← ha]
    have := upd_at hal (Nat.le_refl l.length)
    have e : ((upd l a l.length).drop a).take (2 * bs) = ((upd l a l.length).drop a).take (l.length - a) := by
      rw [List.take_of_length_le (by rw [List.length_drop, hlen]; omega), List.take_of_length_le (by rw [List.length_drop, hlen]; omega)]
    rw [e, this]
    exact ssort_srt _
  · have : l.length ≤ c * (2 * bs) := by
      have h2 : (t + 1) * (2 * bs) ≤ c * (2 * bs) := Nat.mul_le_mul_right _ h1
      have h4 : (t + 1) * (2 * bs) = t * (2 * bs) + 2 * bs := Nat.succ_mul _ _
      omega
    exact srt_short (by omega) _
theorem Merged.finish' {bs t a : Nat} {l : List Pr} (h : Merged bs t l) (ha : a = t * (2 * bs)) (hm : l.length ≤ a + bs) : Chunks (2 * bs) l := by
  intro c
  rcases Nat.lt_trichotomy c t with h1 | rfl | h1
  · exact h.1 c h1
  · rw [← ha]
    have e : (l.drop a).take (2 * bs) = (l.drop a).take bs := by
      rw [List.take_of_length_le (by rw [List.length_drop]; omega), List.take_of_length_le (by rw [List.length_drop]; omega)]
    rw [e]
    exact (h.left ha).1
  · have : l.length ≤ c * (2 * bs) := by
      have h2 : (t + 1) * (2 * bs) ≤ c * (2 * bs) := Nat.mul_le_mul_right _ h1
      have h4 : (t + 1) * (2 * bs) = t * (2 * bs) + 2 * bs := Nat.succ_mul _ _
      omega
    exact srt_short this _
/-- The first blocks, sorted by insertion. -/
def Firsts (t : Nat) (l : List Pr) : Prop := ∀ c, c < t → Srt ((l.drop (c * 20)).take 20)
theorem Firsts.step {t a b : Nat} {l : List Pr} (h : Firsts t l) (ha : a = t * 20) (hb : b = a + 20) (hbl : b ≤ l.length) : Firsts (t + 1) (upd l a b) := by
  intro c hc
  rcases Nat.lt_or_eq_of_le (Nat.le_of_lt_succ hc) with h1 | rfl
  · rw [upd_before (by omega) hbl (by omega)]
    exact h c h1
  · rw [← ha, show 20 = b - a by omega, upd_at (by omega) hbl]
    exact ssort_srt _
theorem Firsts.finish {t a : Nat} {l : List Pr} (h : Firsts t l) (ha : a = t * 20) (hal : a ≤ l.length) (hlt : l.length < a + 20) : Chunks 20 (upd l a l.length) := by
  intro c
  have hlen := upd_length hal (Nat.le_refl l.length)
  rcases Nat.lt_trichotomy c t with h1 | rfl | h1
  · rw [upd_before hal (Nat.le_refl _) (by omega)]
    exact h c h1
  · rw [← ha]
    have := upd_at hal (Nat.le_refl l.length)
    have e : ((upd l a l.length).drop a).take 20 = ((upd l a l.length).drop a).take (l.length - a) := by
      rw [List.take_of_length_le (by rw [List.length_drop, hlen]; omega), List.take_of_length_le (by rw [List.length_drop, hlen]; omega)]
    rw [e, this]
    exact ssort_srt _
  · exact srt_short (by omega) _
theorem Chunks.done {bs : Nat} {l l0 : List Pr} (h : Chunks bs l) (hl : l.length ≤ bs) (hs : Stb l0 l) : l = ssort l0 := by
  refine ssort_uniq ?_ hs
  have := h 0
  rwa [Nat.zero_mul, List.drop_zero, List.take_of_length_le hl] at this
/-- Each key once, with its last value, of a list in which equal keys lie together. -/
def lastOf : List Pr → List Pr
  | [] => []
  | [x] => [x]
  | x :: y :: r => if x.1 = y.1 then lastOf (y :: r) else x :: lastOf (y :: r)
/-- What pair.Sorted answers. -/
def sortedP (l : List Pr) : List Pr := lastOf (ssort l)
theorem lastOf_skip {x y : Pr} {r : List Pr} (h : x.1 = y.1) : lastOf (x :: y :: r) = lastOf (y :: r) := by simp [lastOf, h]
theorem lastOf_keep {x y : Pr} {r : List Pr} (h : x.1 ≠ y.1) : lastOf (x :: y :: r) = x :: lastOf (y :: r) := by simp [lastOf, h]
theorem lastOf_length : ∀ l : List Pr, (lastOf l).length ≤ l.length
  | [] => Nat.le_refl _
  | [x] => Nat.le_refl _
  | x :: y :: r => by
    have := lastOf_length (y :: r)
    unfold lastOf
    split
    · simp only [List.length_cons] at *; omega
    · simp only [List.length_cons] at *; omega
theorem sortedP_length (l : List Pr) : (sortedP l).length ≤ l.length := by
  have := lastOf_length (ssort l)
  rw [ssort_length] at this
  exact this
end Go.QS
