/- Slices of elements of several cells: their cells one behind the other; opened; the radix laws' changes, strings, bytes. -/
import Derived.Test.YtmpeniboccahdaaClose
import Derived.Deep.Strs
import Derived.Test.YtmpeniboccahdaaRows
namespace Go.QS
open Go.RowKit Go.ChangeShapes Go.WideShapes Go.ChangeAt Go.Deep

section
variable {α : Type} {f : α → List Value} {k : Nat}
def flatE (f : α → List Value) (l : List α) : List Value := l.flatMap f
theorem flatE_length (hk : ∀ a, (f a).length = k) (l : List α) : (flatE f l).length = l.length * k := by
  induction l with
  | nil => simp [flatE]
  | cons x l ih => unfold flatE at ih ⊢; rw [List.flatMap_cons, List.length_append, ih, hk, List.length_cons, Nat.add_mul]; omega
theorem flatE_get (hk : ∀ a, (f a).length = k) : ∀ {l : List α} {i : Nat} {a : α}, l[i]? = some a → ∀ {j : Nat} {u : Value}, (f a)[j]? = some u → (flatE f l)[i * k + j]? = some u
  | [], i, a, h, j, u, hj => by simp at h
  | x :: l, 0, a, h, j, u, hj => by
    have e : x = a := by simpa using h
    subst e
    have : j < (f x).length := (List.getElem?_eq_some_iff.1 hj).1
    unfold flatE
    rw [List.flatMap_cons, Nat.zero_mul, Nat.zero_add, List.getElem?_append_left this]; exact hj
  | x :: l, i + 1, a, h, j, u, hj => by
    have ih := flatE_get hk (l := l) (i := i) (a := a) (by simpa using h) hj
    unfold flatE at ih ⊢
    rw [List.flatMap_cons, List.getElem?_append_right (by rw [hk, Nat.add_mul]; omega), hk, show (i + 1) * k + j - k = i * k + j by rw [Nat.add_mul]; omega]
    exact ih
theorem seg_el {w : World} {A : Option Addr} {l : List α} (hk : ∀ a, (f a).length = k) (hk0 : 0 < k) (hs : Seg w A (flatE f l)) {i : Nat} {a : α} (h : l[i]? = some a) :
    ∃ b o, A = some ⟨b, o, none⟩ ∧ ∀ j u, (f a)[j]? = some u → w.cell? ⟨b, o + (i * k + j), none⟩ = some u := by
  have hne : flatE f l ≠ [] := by
    intro e
    obtain ⟨u, hu⟩ := get_of_lt (f a) (show 0 < (f a).length by rw [hk]; exact hk0)
    have := flatE_get hk h hu
    rw [e] at this; cases this
  obtain ⟨b, o, hA, hc⟩ := hs hne
  exact ⟨b, o, hA, fun j u hj => hc _ _ (flatE_get hk h hj)⟩

variable {H : Type} {enc : TypeId × Value → H} {P : Program}
theorem open_el [Inhabited α] (f : α → List Value) (hk : ∀ a, (f a).length = k) (hk0 : 0 < k) (R : α → Prop) {t e : TypeId} {W : World} {base : Nat} {spare : Nat → Bool} {held : Bool} {v : Value} {d : DataW H} {p : List MemPlace} (ht : P.underlying t = some (.slice e)) (hC : P.cellsOf e = k)
    (one : ∀ (n : Nat) (cs : List Value) (x : DataW H × List MemPlace), cs.length = k → DataW.trod enc P W base spare held n e cs = some x → ∃ a, cs = f a ∧ R a)
    {r : Reach} {b0 : Nat} (hv : Value.okWide P W r b0 t v) (h : DataW.Trod enc P W base spare held t v d p) : ∃ l : List α, Sl W k v l.length (flatE f l) ∧ ∀ a ∈ l, R a := by
  obtain ⟨a, len, cap, rfl⟩ := okWide_slice ht hv
  obtain ⟨fuel, hf⟩ := h
  rcases open_slice ht hf with ⟨h0, _⟩ | ⟨a', len', cap', m, n, D, Pl, hcs, hb, hl, hm, hmm, _, hi⟩
  · simp [Value.cells] at h0
    obtain ⟨rfl, rfl, rfl⟩ := h0
    exact ⟨[], Sl.nil W k, by simp⟩
  · simp [Value.cells] at hcs
    obtain ⟨rfl, rfl, rfl⟩ := hcs
    have hlm : len ≤ m := by rw [hmm]; split <;> omega
    have one' : ∀ i, i < len → ∃ y : α, (∀ j, j < k → W.cell? (a'.add (i * k + j)) = (f y)[j]?) ∧ R y := by
      intro i hil
      obtain ⟨cs, hc, hd⟩ := hi i (by omega)
      rw [hC] at hc
      obtain ⟨_, hcl, hat⟩ := World.cells?_some hc
      obtain ⟨y, hy, hR⟩ := one n cs _ hcl hd
      refine ⟨y, fun j hj => ?_, hR⟩
      have := hat j hj
      rw [add_add, hy] at this
      exact this
    obtain ⟨F, hF⟩ := choose_lt one'
    refine ⟨(List.range len).map F, ⟨some a', cap, by simp, ?_, by simpa using hl, hm, ?_⟩, ?_⟩
    · rw [flatE_length hk]
    · intro hne
      have hlen : 0 < len := by
        rcases Nat.eq_zero_or_pos len with h | h
        · subst h; simp [flatE] at hne
        · exact h
      obtain ⟨b, o, sp⟩ := a'
      have hsp : sp = none := by
        have h0 := (hF 0 hlen).1 0 hk0
        obtain ⟨u, hu⟩ := get_of_lt (f (F 0)) (show 0 < (f (F 0)).length by rw [hk]; exact hk0)
        rw [hu] at h0
        simpa [Addr.add] using World.cell?_spot h0
      subst hsp
      refine ⟨b, o, rfl, fun j u hj => ?_⟩
      have hjl : j < len * k := by have := (List.getElem?_eq_some_iff.1 hj).1; rw [flatE_length hk] at this; simpa using this
      have hdk : j / k < len := Nat.div_lt_of_lt_mul (by rw [Nat.mul_comm]; exact hjl)
      have hmk : j % k < k := Nat.mod_lt _ hk0
      have hF2 := (hF (j / k) hdk).1 (j % k) hmk
      rw [Addr.add_lit, show j / k * k + j % k = j by rw [Nat.mul_comm]; exact Nat.div_add_mod j k] at hF2
      obtain ⟨u', hu'⟩ := get_of_lt (f (F (j / k))) (show j % k < (f (F (j / k))).length by rw [hk]; exact hmk)
      have hg := flatE_get hk (l := (List.range len).map F) (i := j / k) (a := F (j / k)) (by rw [List.getElem?_map, List.getElem?_range hdk]; rfl) hu'
      rw [show j / k * k + j % k = j by rw [Nat.mul_comm]; exact Nat.div_add_mod j k, hj] at hg
      rw [hF2, hu', Option.some.inj hg]
    · intro q hq
      obtain ⟨i, hi, rfl⟩ := List.mem_map.1 hq
      exact (hF i (List.mem_range.1 hi)).2

/-- A string's cell. -/
theorem one_str {t : TypeId} {W : World} {base : Nat} {spare : Nat → Bool} {held : Bool} {n : Nat} {cs : List Value} {x : DataW H × List MemPlace} (ht : P.underlying t = some .string) (h : DataW.trod enc P W base spare held n t cs = some x) : ∃ s : List UInt8, cs = [str s] ∧ s.length ≤ 9223372036854775807 := by
  obtain ⟨s, e, _, z⟩ := DataW.trod_string ht h
  have l0 := Lib.size_eq s
  unfold maxLen at z
  refine ⟨s.data.toList, by rw [e]; simp only [str, bs_data], by omega⟩
/-- A byte's cell. -/
theorem one_u8 {t : TypeId} {W : World} {base : Nat} {spare : Nat → Bool} {held : Bool} {n : Nat} {cs : List Value} {x : DataW H × List MemPlace} (ht : P.underlying t = some (.int .u8)) (h : DataW.trod enc P W base spare held n t cs = some x) : ∃ c : UInt8, cs = [.int .u8 c.toNat] := by
  obtain ⟨m, e, _, z⟩ := DataW.trod_int ht h
  have x1 : 0 ≤ m ∧ m ≤ 255 := by simpa [Lit.wf, IntKind.min, IntKind.max, IntKind.signed, IntKind.bits] using z
  obtain ⟨y, rfl⟩ := Int.eq_ofNat_of_zero_le x1.1
  refine ⟨UInt8.ofNat y, ?_⟩
  rw [e]
  have : ((UInt8.ofNat y).toNat : Int) = (y : Int) := by simp; omega
  rw [this]
end

/-- A change: what to do, a pair, a version. -/
abbrev Ac := UInt8 × Pr × UInt8
def encA (a : Ac) : List Value := [.int .u8 a.1.toNat, str a.2.1.1, str a.2.1.2, .int .u8 a.2.2.toNat]
theorem encA_len (a : Ac) : (encA a).length = 4 := rfl
def AcShort (a : Ac) : Prop := a.2.1.1.length ≤ 9223372036854775807 ∧ a.2.1.2.length ≤ 9223372036854775807
theorem seg_act {w : World} {A : Option Addr} {l : List Ac} (hs : Seg w A (flatE encA l)) {i : Nat} {a : Ac} (h : l[i]? = some a) :
    ∃ b o, A = some ⟨b, o, none⟩ ∧ w.cell? ⟨b, o + i * 4, none⟩ = some (.int .u8 a.1.toNat) ∧ w.cell? ⟨b, o + i * 4 + 1, none⟩ = some (str a.2.1.1) ∧ w.cell? ⟨b, o + i * 4 + 2, none⟩ = some (str a.2.1.2) ∧ w.cell? ⟨b, o + i * 4 + 3, none⟩ = some (.int .u8 a.2.2.toNat) := by
  obtain ⟨b, o, hA, hq⟩ := seg_el encA_len (by decide) hs h
  refine ⟨b, o, hA, hq 0 _ rfl, ?_, ?_, ?_⟩
  · rw [Nat.add_assoc]; exact hq 1 _ rfl
  · rw [Nat.add_assoc]; exact hq 2 _ rfl
  · rw [Nat.add_assoc]; exact hq 3 _ rfl
def encS (s : List UInt8) : List Value := [str s]
theorem encS_len (s : List UInt8) : (encS s).length = 1 := rfl
theorem seg_str {w : World} {A : Option Addr} {l : List (List UInt8)} (hs : Seg w A (flatE encS l)) {i : Nat} {a : List UInt8} (h : l[i]? = some a) : ∃ b o, A = some ⟨b, o, none⟩ ∧ w.cell? ⟨b, o + i, none⟩ = some (str a) := by
  obtain ⟨b, o, hA, hq⟩ := seg_el encS_len (by decide) hs h
  refine ⟨b, o, hA, ?_⟩
  have := hq 0 _ rfl
  rwa [Nat.mul_one, Nat.add_zero] at this
def encU (c : UInt8) : List Value := [.int .u8 c.toNat]
theorem encU_len (c : UInt8) : (encU c).length = 1 := rfl
end Go.QS
namespace Go.Proofs.Ytmpeniboccahdaa
open Go.RowKit Go.QS Go.ChangeShapes Go.WideShapes Go.ChangeAt Go.Deep
variable {H : Type} {enc : TypeId × Value → H}

set_option maxRecDepth 100000 in
theorem one_act {W : World} {base : Nat} {spare : Nat → Bool} {held : Bool} (n : Nat) (cs : List Value) (x : DataW H × List MemPlace) (hl : cs.length = 4) (h : DataW.trod enc Try.prog W base spare held n 61 cs = some x) : ∃ a : Ac, cs = encA a ∧ AcShort a := by
  obtain ⟨y0, y1, y2, m, rfl, _, g0, g1, g2⟩ := trod_struct3 Try.underlying61 h
  have k1 : Try.prog.cellsOf 5 = 1 := by kernel_rfl
  have k2 : Try.prog.cellsOf 24 = 2 := by kernel_rfl
  have k3 : Try.prog.cellsOf 9 = 1 := by kernel_rfl
  match cs, hl with
  | [c0, c1, c2, c3], _ =>
    rw [k1] at g0 g2
    rw [k2] at g1
    obtain ⟨z0, z1, m', e, _, s0, s1⟩ := trod_struct2 Try.underlying24 g1
    rw [k3] at s0 s1
    obtain ⟨u0, e0⟩ := one_u8 Try.underlying5 g0
    obtain ⟨u3, e3⟩ := one_u8 Try.underlying5 g2
    obtain ⟨u1, e1, b1⟩ := one_str Try.underlying9 s0
    obtain ⟨u2, e2, b2⟩ := one_str Try.underlying9 s1
    refine ⟨(u0, (u1, u2), u3), ?_, b1, b2⟩
    simp at e0 e1 e2 e3
    simp [encA, e0, e1, e2, e3]

set_option maxRecDepth 100000 in
theorem open_acts {W : World} {base : Nat} {spare : Nat → Bool} {held : Bool} {v : Value} {d : DataW H} {p : List MemPlace} {r : Reach} {b0 : Nat} (hv : Value.okWide Try.prog W r b0 58 v) (h : DataW.Trod enc Try.prog W base spare held 58 v d p) :
    ∃ l : List Ac, Sl W 4 v l.length (flatE encA l) ∧ ∀ a ∈ l, AcShort a :=
  open_el encA encA_len (by decide) AcShort Try.underlying58 (by kernel_rfl) (fun n cs x hl hx => one_act n cs x hl hx) hv h
set_option maxRecDepth 100000 in
theorem open_strs {W : World} {base : Nat} {spare : Nat → Bool} {held : Bool} {v : Value} {d : DataW H} {p : List MemPlace} {r : Reach} {b0 : Nat} (hv : Value.okWide Try.prog W r b0 65 v) (h : DataW.Trod enc Try.prog W base spare held 65 v d p) :
    ∃ l : List (List UInt8), Sl W 1 v l.length (flatE encS l) ∧ ∀ a ∈ l, a.length ≤ 9223372036854775807 :=
  open_el encS encS_len (by decide) (fun s => s.length ≤ 9223372036854775807) Try.underlying65 (by kernel_rfl) (fun n cs x _ hx => by obtain ⟨s, e, b⟩ := one_str Try.underlying9 hx; exact ⟨s, e, b⟩) hv h
set_option maxRecDepth 100000 in
theorem open_u8s {W : World} {base : Nat} {spare : Nat → Bool} {held : Bool} {v : Value} {d : DataW H} {p : List MemPlace} {r : Reach} {b0 : Nat} (hv : Value.okWide Try.prog W r b0 52 v) (h : DataW.Trod enc Try.prog W base spare held 52 v d p) :
    ∃ l : List UInt8, Sl W 1 v l.length (flatE encU l) ∧ ∀ a ∈ l, True :=
  open_el encU encU_len (by decide) (fun _ => True) Try.underlying52 (by kernel_rfl) (fun n cs x _ hx => by obtain ⟨c, e⟩ := one_u8 Try.underlying5 hx; exact ⟨c, e, trivial⟩) hv h
end Go.Proofs.Ytmpeniboccahdaa
