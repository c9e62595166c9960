/- Slices of elements of several cells, opened. No program. -/
import Derived.Test.YtbmakajadelckaaDoorClose
import Derived.Deep.Strs
import Derived.Lib.SmallJoins
set_option linter.unusedVariables false
set_option linter.unusedSimpArgs false
namespace Go.QS
open Go.RowKit Go.ChangeShapes Go.WideShapes Go.ChangeAt Go.Deep

section
variable {α : Type} {f : α → List Value} {k : Nat}
def flatE (f : α → List Value) (l : List α) : List Value := l.flatMap f
theorem flatE_length (hk : ∀ a, (f a).length = k) (l : List α) : (flatE f l).length = l.length * k := by
  induction l with
  | nil => simp [flatE]
  | cons x l ih => unfold flatE at ih ⊢; rw [List.flatMap_cons, List.length_append, ih, hk, List.length_cons, Nat.add_mul]; omega
theorem flatE_get (hk : ∀ a, (f a).length = k) : ∀ {l : List α} {i : Nat} {a : α}, l[i]? = some a → ∀ {j : Nat} {u : Value}, (f a)[j]? = some u → (flatE f l)[i * k + j]? = some u
  | [], i, a, h, j, u, hj => by simp at h
  | x :: l, 0, a, h, j, u, hj => by
    have e : x = a := by simpa using h
    subst e
    have : j < (f x).length := (List.getElem?_eq_some_iff.1 hj).1
    unfold flatE
    rw [List.flatMap_cons, Nat.zero_mul, Nat.zero_add, List.getElem?_append_left this]; exact hj
  | x :: l, i + 1, a, h, j, u, hj => by
    have ih := flatE_get hk (l := l) (i := i) (a := a) (by simpa using h) hj
    unfold flatE at ih ⊢
    rw [List.flatMap_cons, List.getElem?_append_right (by rw [hk, Nat.add_mul]; omega), hk, show (i + 1) * k + j - k = i * k + j by rw [Nat.add_mul]; omega]
    exact ih
theorem seg_el {w : World} {A : Option Addr} {l : List α} (hk : ∀ a, (f a).length = k) (hk0 : 0 < k) (hs : Seg w A (flatE f l)) {i : Nat} {a : α} (h : l[i]? = some a) :
    ∃ b o, A = some ⟨b, o, none⟩ ∧ ∀ j u, (f a)[j]? = some u → w.cell? ⟨b, o + (i * k + j), none⟩ = some u := by
  have hne : flatE f l ≠ [] := by
    intro e
    obtain ⟨u, hu⟩ := get_of_lt (f a) (show 0 < (f a).length by rw [hk]; exact hk0)
    have := flatE_get hk h hu
    rw [e] at this; cases this
  obtain ⟨b, o, hA, hc⟩ := hs hne
  exact ⟨b, o, hA, fun j u hj => hc _ _ (flatE_get hk h hj)⟩

variable {H : Type} {enc : TypeId × Value → H} {P : Program}
theorem open_el [Inhabited α] (f : α → List Value) (hk : ∀ a, (f a).length = k) (hk0 : 0 < k) (R : α → Prop) {t e : TypeId} {W : World} {base : Nat} {spare : Nat → Bool} {held : Bool} {v : Value} {d : DataW H} {p : List MemPlace} (ht : P.underlying t = some (.slice e)) (hC : P.cellsOf e = k)
    (one : ∀ (n : Nat) (cs : List Value) (x : DataW H × List MemPlace), cs.length = k → DataW.trod enc P W base spare held n e cs = some x → ∃ a, cs = f a ∧ R a)
    {r : Reach} {b0 : Nat} (hv : Value.okWide P W r b0 t v) (h : DataW.Trod enc P W base spare held t v d p) : ∃ l : List α, Sl W k v l.length (flatE f l) ∧ ∀ a ∈ l, R a := by
  obtain ⟨a, len, cap, rfl⟩ := okWide_slice ht hv
  obtain ⟨fuel, hf⟩ := h
  rcases open_slice ht hf with ⟨h0, _⟩ | ⟨a', len', cap', m, n, D, Pl, hcs, hb, hl, hm, hmm, _, hi⟩
  · simp [Value.cells] at h0
    obtain ⟨rfl, rfl, rfl⟩ := h0
    exact ⟨[], Sl.nil W k, by simp⟩
  · simp [Value.cells] at hcs
    obtain ⟨rfl, rfl, rfl⟩ := hcs
    have hlm : len ≤ m := by rw [hmm]; split <;> omega
    have one' : ∀ i, i < len → ∃ y : α, (∀ j, j < k → W.cell? (a'.add (i * k + j)) = (f y)[j]?) ∧ R y := by
      intro i hil
      obtain ⟨cs, hc, hd⟩ := hi i (by omega)
      rw [hC] at hc
      obtain ⟨_, hcl, hat⟩ := World.cells?_some hc
      obtain ⟨y, hy, hR⟩ := one n cs _ hcl hd
      refine ⟨y, fun j hj => ?_, hR⟩
      have := hat j hj
      rw [add_add, hy] at this
      exact this
    obtain ⟨F, hF⟩ := choose_lt one'
    refine ⟨(List.range len).map F, ⟨some a', cap, by simp, ?_, by simpa using hl, hm, ?_⟩, ?_⟩
    · rw [flatE_length hk]
    · intro hne
      have hlen : 0 < len := by
        rcases Nat.eq_zero_or_pos len with h | h
        · subst h; simp [flatE] at hne
        · exact h
      obtain ⟨b, o, sp⟩ := a'
      have hsp : sp = none := by
        have h0 := (hF 0 hlen).1 0 hk0
        obtain ⟨u, hu⟩ := get_of_lt (f (F 0)) (show 0 < (f (F 0)).length by rw [hk]; exact hk0)
        rw [hu] at h0
        simpa [Addr.add] using World.cell?_spot h0
      subst hsp
      refine ⟨b, o, rfl, fun j u hj => ?_⟩
      have hjl : j < len * k := by have := (List.getElem?_eq_some_iff.1 hj).1; rw [flatE_length hk] at this; simpa using this
      have hdk : j / k < len := Nat.div_lt_of_lt_mul (by rw [Nat.mul_comm]; exact hjl)
      have hmk : j % k < k := Nat.mod_lt _ hk0
      have hF2 := (hF (j / k) hdk).1 (j % k) hmk
      rw [Addr.add_lit, show j / k * k + j % k = j by rw [Nat.mul_comm]; exact Nat.div_add_mod j k] at hF2
      obtain ⟨u', hu'⟩ := get_of_lt (f (F (j / k))) (show j % k < (f (F (j / k))).length by rw [hk]; exact hmk)
      have hg := flatE_get hk (l := (List.range len).map F) (i := j / k) (a := F (j / k)) (by rw [List.getElem?_map, List.getElem?_range hdk]; rfl) hu'
      rw [show j / k * k + j % k = j by rw [Nat.mul_comm]; exact Nat.div_add_mod j k, hj] at hg
      rw [hF2, hu', Option.some.inj hg]
    · intro q hq
      obtain ⟨i, hi, rfl⟩ := List.mem_map.1 hq
      exact (hF i (List.mem_range.1 hi)).2

/-- A string's cell. -/
theorem one_str {t : TypeId} {W : World} {base : Nat} {spare : Nat → Bool} {held : Bool} {n : Nat} {cs : List Value} {x : DataW H × List MemPlace} (ht : P.underlying t = some .string) (h : DataW.trod enc P W base spare held n t cs = some x) : ∃ s : List UInt8, cs = [str s] ∧ s.length ≤ 9223372036854775807 := by
  obtain ⟨s, e, _, z⟩ := DataW.trod_string ht h
  have l0 := Lib.size_eq s
  unfold maxLen at z
  refine ⟨s.data.toList, by rw [e]; simp only [str, bs_data], by omega⟩
/-- A byte's cell. -/
theorem one_u8 {t : TypeId} {W : World} {base : Nat} {spare : Nat → Bool} {held : Bool} {n : Nat} {cs : List Value} {x : DataW H × List MemPlace} (ht : P.underlying t = some (.int .u8)) (h : DataW.trod enc P W base spare held n t cs = some x) : ∃ c : UInt8, cs = [.int .u8 c.toNat] := by
  obtain ⟨m, e, _, z⟩ := DataW.trod_int ht h
  have x1 : 0 ≤ m ∧ m ≤ 255 := by simpa [Lit.wf, IntKind.min, IntKind.max, IntKind.signed, IntKind.bits] using z
  obtain ⟨y, rfl⟩ := Int.eq_ofNat_of_zero_le x1.1
  refine ⟨UInt8.ofNat y, ?_⟩
  rw [e]
  have : ((UInt8.ofNat y).toNat : Int) = (y : Int) := by simp; omega
  rw [this]
end
def encU (c : UInt8) : List Value := [.int .u8 c.toNat]
theorem encU_len (c : UInt8) : (encU c).length = 1 := rfl
end Go.QS
