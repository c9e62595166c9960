/- Texts joined. -/
import Derived.Test.YtclcgelbcbnekaaDoorM00
import Derived.ProofKit
import Derived.OpenShut
import Derived.ShutString
import Derived.ChangeOld
import Derived.Deep.Slices
import Derived.Deep.Fields
import Derived.Lib.SmallJoins
import Derived.Deep.Strs
import Derived.Test.YtclcgelbcbnekaaDoorRows
import Derived.Test.YtclcgelbcbnekaaDoorM11
set_option linter.unusedVariables false
set_option linter.unusedSimpArgs false
/- From a law's contract to its row: arguments opened, and read again. No function of the program is named here. -/
namespace Go.QS
open Go.RowKit Go.ChangeShapes Go.WideShapes Go.ChangeAt Go.Deep
open Go.ChangeMaps (open_string shut_string)

section
variable {H : Type} {enc : TypeId × Value → H} {P : Program}

theorem trodAll_below (hl : laidOutB P = true) {W W' : World} (hb : Below W.heap.size W W') : ∀ (ts : List TypeId) (vs : List Value) (ds : List (DataW H)) (ps : List MemPlace),
    (ts.all fun t => P.readableRec t && decide (t < P.types.size)) = true → DataW.TrodAll enc P W 0 (fun _ => true) true ts vs ds ps →
    DataW.TrodAll enc P W' 0 (fun b => decide (b < W.heap.size)) true ts vs ds ps
  | [], vs, ds, ps, _, h => by
    obtain ⟨rfl, rfl, rfl⟩ := trodAll_nil h
    exact trodAll_mk0
  | t :: ts, vs, ds, ps, ht, h => by
    obtain ⟨v, vs', d, ds', p, q, rfl, rfl, rfl, h1, h2⟩ := trodAll_cons h
    simp only [List.all_cons, Bool.and_eq_true, decide_eq_true_eq] at ht
    have lt0 : ∀ x ∈ p, x.block < W.heap.size := by obtain ⟨m, hm⟩ := h1; exact DataW.trod_lt m _ _ _ hm
    exact trodAll_cons_mk (Below.trod hl ht.1.1 ht.1.2 h1 hb lt0) (trodAll_below hl hb ts vs' ds' q (by simpa using ht.2) h2)

theorem law_post (hl : laidOutB P = true) {f : Func} {s : ChangeSpec} (hts : (f.params.toList.all fun t => P.readableRec t && decide (t < P.types.size)) = true) {tb : TypeId} (hres : f.resultTypes = #[tb]) (hb : P.underlying tb = some .bool)
    {W W' : World} {args : Array Value} {ds gs : List (DataW H)} {before : List MemPlace} (hW : DataW.Whole enc P f.params.toList s.vars false W args.toList ds gs before) (hv : s.vars = [])
    (h1 : (s.fn H (ds ++ gs)).results = [.lit (.bool true)]) (h2 : (s.fn H (ds ++ gs)).args = ds) (h3 : (s.fn H (ds ++ gs)).vars = []) (bel : Below W.heap.size W W') :
    s.post enc P f false true false false W args (.bool true) W' := by
  have hW' := hW
  obtain ⟨p, q, hA, hV, rfl, hfz, hnd⟩ := hW
  rw [hv] at hV
  obtain ⟨rfl, rfl⟩ := trodVars_none hV
  refine ⟨_, _, _, [], p, [], hW', ?_, ?_, ?_, ?_, fun h => by cases h⟩
  · rw [h1, hres]; exact trodAll_mk1 (shut_bool hb _)
  · rw [h2]; exact trodAll_below hl bel _ _ _ _ hts hA
  · rw [h3, hv]; rfl
  · exact bel.frame _

/-- A slice of structs of two strings. -/
theorem open_ps {t e : TypeId} {f0 f1 : Field} {W : World} {base : Nat} {spare : Nat → Bool} {held : Bool} {v : Value} {d : DataW H} {p : List MemPlace} (ht : P.underlying t = some (.slice e)) (he : P.underlying e = some (.struct #[f0, f1])) (hC : P.cellsOf e = 2) (hone : oneCellFields P #[f0, f1] = true)
    (u0 : P.underlying f0.type = some .string) (u1 : P.underlying f1.type = some .string) {r : Reach} {b0 : Nat} (hv : Value.okWide P W r b0 t v) (h : DataW.Trod enc P W base spare held t v d p) : ∃ l, PS W v l ∧ ∀ p ∈ l, p.1.length ≤ 9223372036854775807 ∧ p.2.length ≤ 9223372036854775807 := by
  obtain ⟨a, len, cap, rfl⟩ := okWide_slice ht hv
  obtain ⟨fuel, hf⟩ := h
  rcases open_slice ht hf with ⟨h0, _⟩ | ⟨a', len', cap', m, n, D, Pl, hcs, hb, hl, hm, hmm, _, hi⟩
  · simp [Value.cells] at h0
    obtain ⟨rfl, rfl, rfl⟩ := h0
    exact ⟨[], Sl.nil W 2, by simp⟩
  · simp [Value.cells] at hcs
    obtain ⟨rfl, rfl, rfl⟩ := hcs
    have hlm : len ≤ m := by rw [hmm]; split <;> omega
    have one : ∀ i, i < len → ∃ pr : Pr, W.cell? (a'.add (i * 2)) = some (str pr.1) ∧ W.cell? (a'.add (i * 2 + 1)) = some (str pr.2) ∧ pr.1.length ≤ 9223372036854775807 ∧ pr.2.length ≤ 9223372036854775807 := by
      intro i hil
      obtain ⟨cs, hc, hd⟩ := hi i (by omega)
      rw [hC] at hc
      obtain ⟨_, hcl, hat⟩ := World.cells?_some hc
      obtain ⟨xs, n', _, _, _, hxl, hg⟩ := DataW.trod_struct he hd
      obtain ⟨o0, k0⟩ := hone_of hone 0 f0 rfl
      obtain ⟨o1, k1⟩ := hone_of hone 1 f1 rfl
      match cs, hcl with
      | [c0, c1], _ =>
        have g0 := hg 0 f0 rfl
        have g1 := hg 1 f1 rfl
        rw [o0, k0] at g0
        rw [o1, k1] at g1
        have hx0 : ∃ y, xs[0]? = some y := get_of_lt xs (by rw [hxl]; simp)
        have hx1 : ∃ y, xs[1]? = some y := get_of_lt xs (by rw [hxl]; simp)
        obtain ⟨y0, hy0⟩ := hx0
        obtain ⟨y1, hy1⟩ := hx1
        obtain ⟨s0, e0, _, z0⟩ := DataW.trod_string u0 (g0.trans hy0)
        obtain ⟨s1, e1, _, z1⟩ := DataW.trod_string u1 (g1.trans hy1)
        have l0 := Lib.size_eq s0
        have l1 := Lib.size_eq s1
        unfold maxLen at z0 z1
        simp at e0 e1
        subst e0 e1
        refine ⟨(s0.data.toList, s1.data.toList), ?_, ?_, by show s0.data.toList.length ≤ _; omega, by show s1.data.toList.length ≤ _; omega⟩
        · have := hat 0 (by omega)
          rw [add_add] at this
          unfold str; rw [bs_data]
          simpa using this
        · have := hat 1 (by omega)
          rw [add_add] at this
          unfold str; rw [bs_data]
          simpa using this
    obtain ⟨F, hF⟩ := choose_lt one
    refine ⟨(List.range len).map F, ⟨some a', cap, by simp, ?_, by simpa using hl, hm, ?_⟩, ?_⟩
    rotate_left 2
    · intro q hq
      obtain ⟨i, hi, rfl⟩ := List.mem_map.1 hq
      exact (hF i (List.mem_range.1 hi)).2.2
    · rw [flat_length]
    · intro hne
      have hlen : 0 < len := by
        rcases Nat.eq_zero_or_pos len with h | h
        · subst h; simp at hne
        · exact h
      obtain ⟨b, o, sp⟩ := a'
      have hsp : sp = none := by
        have := (hF 0 hlen).1
        rw [Nat.zero_mul] at this
        simpa [Addr.add] using World.cell?_spot this
      subst hsp
      refine ⟨b, o, rfl, fun j u hj => ?_⟩
      have hjl : j < len * 2 := by have := (List.getElem?_eq_some_iff.1 hj).1; rw [flat_length] at this; simpa using this
      have hF2 := hF (j / 2) (by omega)
      have hg := flat_get (l := (List.range len).map F) (i := j / 2) (p := F (j / 2)) (by rw [List.getElem?_map, List.getElem?_range (by omega)]; rfl)
      rw [Addr.add_lit, Addr.add_lit] at hF2
      rcases Nat.mod_two_eq_zero_or_one j with h | h
      · have e : j / 2 * 2 = j := by omega
        rw [e] at hg hF2
        rw [hj] at hg
        rw [Option.some.inj hg.1]
        exact hF2.1
      · have e : j / 2 * 2 + 1 = j := by omega
        rw [e] at hg hF2
        rw [hj] at hg
        rw [Option.some.inj hg.2]
        exact hF2.2.1

/-- A struct of two strings by value. -/
theorem open_pr {t : TypeId} {f0 f1 : Field} {W : World} {base : Nat} {spare : Nat → Bool} {held : Bool} {v : Value} {d : DataW H} {p : List MemPlace} (he : P.underlying t = some (.struct #[f0, f1])) (hC : P.cellsOf t = 2) (hone : oneCellFields P #[f0, f1] = true)
    (u0 : P.underlying f0.type = some .string) (u1 : P.underlying f1.type = some .string) {r : Reach} {b0 : Nat} (hv : Value.okWide P W r b0 t v) (h : DataW.Trod enc P W base spare held t v d p) : ∃ pr : Pr, v = .agg #[str pr.1, str pr.2] ∧ pr.1.length ≤ 9223372036854775807 ∧ pr.2.length ≤ 9223372036854775807 := by
  obtain ⟨v0, v1, y0, y1, n, rfl, _, _, h0, h1⟩ := Joins.open_agg2 he hone hC hv h
  obtain ⟨s0, e0, _, z0⟩ := DataW.trod_string u0 h0
  obtain ⟨s1, e1, _, z1⟩ := DataW.trod_string u1 h1
  have l0 := Lib.size_eq s0
  have l1 := Lib.size_eq s1
  unfold maxLen at z0 z1
  simp at e0 e1
  subst e0 e1
  exact ⟨(s0.data.toList, s1.data.toList), by simp only [str, bs_data], by show s0.data.toList.length ≤ _; omega, by show s1.data.toList.length ≤ _; omega⟩
end
end Go.QS
/- Slices of elements of several cells, opened. No program. -/
namespace Go.QS
open Go.RowKit Go.ChangeShapes Go.WideShapes Go.ChangeAt Go.Deep

section
variable {α : Type} {f : α → List Value} {k : Nat}
def flatE (f : α → List Value) (l : List α) : List Value := l.flatMap f
theorem flatE_length (hk : ∀ a, (f a).length = k) (l : List α) : (flatE f l).length = l.length * k := by
  induction l with
  | nil => simp [flatE]
  | cons x l ih => unfold flatE at ih ⊢; rw [List.flatMap_cons, List.length_append, ih, hk, List.length_cons, Nat.add_mul]; omega
theorem flatE_get (hk : ∀ a, (f a).length = k) : ∀ {l : List α} {i : Nat} {a : α}, l[i]? = some a → ∀ {j : Nat} {u : Value}, (f a)[j]? = some u → (flatE f l)[i * k + j]? = some u
  | [], i, a, h, j, u, hj => by simp at h
  | x :: l, 0, a, h, j, u, hj => by
    have e : x = a := by simpa using h
    subst e
    have : j < (f x).length := (List.getElem?_eq_some_iff.1 hj).1
    unfold flatE
    rw [List.flatMap_cons, Nat.zero_mul, Nat.zero_add, List.getElem?_append_left this]; exact hj
  | x :: l, i + 1, a, h, j, u, hj => by
    have ih := flatE_get hk (l := l) (i := i) (a := a) (by simpa using h) hj
    unfold flatE at ih ⊢
    rw [List.flatMap_cons, List.getElem?_append_right (by rw [hk, Nat.add_mul]; omega), hk, show (i + 1) * k + j - k = i * k + j by rw [Nat.add_mul]; omega]
    exact ih
theorem seg_el {w : World} {A : Option Addr} {l : List α} (hk : ∀ a, (f a).length = k) (hk0 : 0 < k) (hs : Seg w A (flatE f l)) {i : Nat} {a : α} (h : l[i]? = some a) :
    ∃ b o, A = some ⟨b, o, none⟩ ∧ ∀ j u, (f a)[j]? = some u → w.cell? ⟨b, o + (i * k + j), none⟩ = some u := by
  have hne : flatE f l ≠ [] := by
    intro e
    obtain ⟨u, hu⟩ := get_of_lt (f a) (show 0 < (f a).length by rw [hk]; exact hk0)
    have := flatE_get hk h hu
    rw [e] at this; cases this
  obtain ⟨b, o, hA, hc⟩ := hs hne
  exact ⟨b, o, hA, fun j u hj => hc _ _ (flatE_get hk h hj)⟩

variable {H : Type} {enc : TypeId × Value → H} {P : Program}
theorem open_el [Inhabited α] (f : α → List Value) (hk : ∀ a, (f a).length = k) (hk0 : 0 < k) (R : α → Prop) {t e : TypeId} {W : World} {base : Nat} {spare : Nat → Bool} {held : Bool} {v : Value} {d : DataW H} {p : List MemPlace} (ht : P.underlying t = some (.slice e)) (hC : P.cellsOf e = k)
    (one : ∀ (n : Nat) (cs : List Value) (x : DataW H × List MemPlace), cs.length = k → DataW.trod enc P W base spare held n e cs = some x → ∃ a, cs = f a ∧ R a)
    {r : Reach} {b0 : Nat} (hv : Value.okWide P W r b0 t v) (h : DataW.Trod enc P W base spare held t v d p) : ∃ l : List α, Sl W k v l.length (flatE f l) ∧ ∀ a ∈ l, R a := by
  obtain ⟨a, len, cap, rfl⟩ := okWide_slice ht hv
  obtain ⟨fuel, hf⟩ := h
  rcases open_slice ht hf with ⟨h0, _⟩ | ⟨a', len', cap', m, n, D, Pl, hcs, hb, hl, hm, hmm, _, hi⟩
  · simp [Value.cells] at h0
    obtain ⟨rfl, rfl, rfl⟩ := h0
    exact ⟨[], Sl.nil W k, by simp⟩
  · simp [Value.cells] at hcs
    obtain ⟨rfl, rfl, rfl⟩ := hcs
    have hlm : len ≤ m := by rw [hmm]; split <;> omega
    have one' : ∀ i, i < len → ∃ y : α, (∀ j, j < k → W.cell? (a'.add (i * k + j)) = (f y)[j]?) ∧ R y := by
      intro i hil
      obtain ⟨cs, hc, hd⟩ := hi i (by omega)
      rw [hC] at hc
      obtain ⟨_, hcl, hat⟩ := World.cells?_some hc
      obtain ⟨y, hy, hR⟩ := one n cs _ hcl hd
      refine ⟨y, fun j hj => ?_, hR⟩
      have := hat j hj
      rw [add_add, hy] at this
      exact this
    obtain ⟨F, hF⟩ := choose_lt one'
    refine ⟨(List.range len).map F, ⟨some a', cap, by simp, ?_, by simpa using hl, hm, ?_⟩, ?_⟩
    · rw [flatE_length hk]
    · intro hne
      have hlen : 0 < len := by
        rcases Nat.eq_zero_or_pos len with h | h
        · subst h; simp [flatE] at hne
        · exact h
      obtain ⟨b, o, sp⟩ := a'
      have hsp : sp = none := by
        have h0 := (hF 0 hlen).1 0 hk0
        obtain ⟨u, hu⟩ := get_of_lt (f (F 0)) (show 0 < (f (F 0)).length by rw [hk]; exact hk0)
        rw [hu] at h0
        simpa [Addr.add] using World.cell?_spot h0
      subst hsp
      refine ⟨b, o, rfl, fun j u hj => ?_⟩
      have hjl : j < len * k := by have := (List.getElem?_eq_some_iff.1 hj).1; rw [flatE_length hk] at this; simpa using this
      have hdk : j / k < len := Nat.div_lt_of_lt_mul (by rw [Nat.mul_comm]; exact hjl)
      have hmk : j % k < k := Nat.mod_lt _ hk0
      have hF2 := (hF (j / k) hdk).1 (j % k) hmk
      rw [Addr.add_lit, show j / k * k + j % k = j by rw [Nat.mul_comm]; exact Nat.div_add_mod j k] at hF2
      obtain ⟨u', hu'⟩ := get_of_lt (f (F (j / k))) (show j % k < (f (F (j / k))).length by rw [hk]; exact hmk)
      have hg := flatE_get hk (l := (List.range len).map F) (i := j / k) (a := F (j / k)) (by rw [List.getElem?_map, List.getElem?_range hdk]; rfl) hu'
      rw [show j / k * k + j % k = j by rw [Nat.mul_comm]; exact Nat.div_add_mod j k, hj] at hg
      rw [hF2, hu', Option.some.inj hg]
    · intro q hq
      obtain ⟨i, hi, rfl⟩ := List.mem_map.1 hq
      exact (hF i (List.mem_range.1 hi)).2

/-- A string's cell. -/
theorem one_str {t : TypeId} {W : World} {base : Nat} {spare : Nat → Bool} {held : Bool} {n : Nat} {cs : List Value} {x : DataW H × List MemPlace} (ht : P.underlying t = some .string) (h : DataW.trod enc P W base spare held n t cs = some x) : ∃ s : List UInt8, cs = [str s] ∧ s.length ≤ 9223372036854775807 := by
  obtain ⟨s, e, _, z⟩ := DataW.trod_string ht h
  have l0 := Lib.size_eq s
  unfold maxLen at z
  refine ⟨s.data.toList, by rw [e]; simp only [str, bs_data], by omega⟩
/-- A byte's cell. -/
theorem one_u8 {t : TypeId} {W : World} {base : Nat} {spare : Nat → Bool} {held : Bool} {n : Nat} {cs : List Value} {x : DataW H × List MemPlace} (ht : P.underlying t = some (.int .u8)) (h : DataW.trod enc P W base spare held n t cs = some x) : ∃ c : UInt8, cs = [.int .u8 c.toNat] := by
  obtain ⟨m, e, _, z⟩ := DataW.trod_int ht h
  have x1 : 0 ≤ m ∧ m ≤ 255 := by simpa [Lit.wf, IntKind.min, IntKind.max, IntKind.signed, IntKind.bits] using z
  obtain ⟨y, rfl⟩ := Int.eq_ofNat_of_zero_le x1.1
  refine ⟨UInt8.ofNat y, ?_⟩
  rw [e]
  have : ((UInt8.ofNat y).toNat : Int) = (y : Int) := by simp; omega
  rw [this]
end
def encU (c : UInt8) : List Value := [.int .u8 c.toNat]
theorem encU_len (c : UInt8) : (encU c).length = 1 := rfl
end Go.QS
/- Chapter 6: changes, strings, bytes, hashers, opened. -/
namespace Go.QS
open Go.RowKit Go.ChangeShapes Go.WideShapes Go.ChangeAt Go.Deep
variable [Zero (Nat → Prop)]
set_option linter.unusedSectionVars false
/-- A change: what to do, a pair, a version. -/
abbrev Ac := UInt8 × Pr × UInt8 × Bool
def encA (a : Ac) : List Value := [.int .u8 a.1.toNat, str a.2.1.1, str a.2.1.2, .int .u8 a.2.2.1.toNat, .bool a.2.2.2]
theorem encA_len (a : Ac) : (encA a).length = 5 := rfl
def AcShort (a : Ac) : Prop := a.2.1.1.length ≤ 9223372036854775807 ∧ a.2.1.2.length ≤ 9223372036854775807
theorem seg_act {w : World} {A : Option Addr} {l : List Ac} (hs : Seg w A (flatE encA l)) {i : Nat} {a : Ac} (h : l[i]? = some a) :
    ∃ b o, A = some ⟨b, o, none⟩ ∧ w.cell? ⟨b, o + i * 5, none⟩ = some (.int .u8 a.1.toNat) ∧ w.cell? ⟨b, o + i * 5 + 1, none⟩ = some (str a.2.1.1) ∧ w.cell? ⟨b, o + i * 5 + 2, none⟩ = some (str a.2.1.2) ∧ w.cell? ⟨b, o + i * 5 + 3, none⟩ = some (.int .u8 a.2.2.1.toNat) := by
  obtain ⟨b, o, hA, hq⟩ := seg_el encA_len (by decide) hs h
  refine ⟨b, o, hA, hq 0 _ rfl, ?_, ?_, ?_⟩
  · rw [Nat.add_assoc]; exact hq 1 _ rfl
  · rw [Nat.add_assoc]; exact hq 2 _ rfl
  · rw [Nat.add_assoc]; exact hq 3 _ rfl
def encS (s : List UInt8) : List Value := [str s]
theorem encS_len (s : List UInt8) : (encS s).length = 1 := rfl
theorem seg_str {w : World} {A : Option Addr} {l : List (List UInt8)} (hs : Seg w A (flatE encS l)) {i : Nat} {a : List UInt8} (h : l[i]? = some a) : ∃ b o, A = some ⟨b, o, none⟩ ∧ w.cell? ⟨b, o + i, none⟩ = some (str a) := by
  obtain ⟨b, o, hA, hq⟩ := seg_el encS_len (by decide) hs h
  refine ⟨b, o, hA, ?_⟩
  have := hq 0 _ rfl
  rwa [Nat.mul_one, Nat.add_zero] at this
end Go.QS
namespace Go.Proofs.YtclcgelbcbnekaaDoor
open Go.RowKit Go.QS Go.ChangeShapes Go.WideShapes Go.ChangeAt Go.Deep
variable [Zero (Nat → Prop)]
set_option linter.unusedSectionVars false
variable {H : Type} {enc : TypeId × Value → H}

set_option maxRecDepth 100000 in
theorem open_u8s {W : World} {base : Nat} {spare : Nat → Bool} {held : Bool} {v : Value} {d : DataW H} {p : List MemPlace} {r : Reach} {b0 : Nat} (hv : Value.okWide Tryd.prog W r b0 34 v) (h : DataW.Trod enc Tryd.prog W base spare held 34 v d p) :
    ∃ l : List UInt8, Sl W 1 v l.length (flatE encU l) ∧ ∀ a ∈ l, True :=
  open_el encU encU_len (by decide) (fun _ => True) Tryd.underlying34 (by kernel_rfl) (fun n cs x _ hx => by obtain ⟨c, e⟩ := one_u8 Tryd.underlying5 hx; exact ⟨c, e, trivial⟩) hv h

/-- An unsigned number's cell. -/
theorem one_u64 {P : Program} {t : TypeId} {W : World} {base : Nat} {spare : Nat → Bool} {held : Bool} {n : Nat} {cs : List Value} {x : DataW H × List MemPlace} (ht : P.underlying t = some (.int .u64)) (h : DataW.trod enc P W base spare held n t cs = some x) : ∃ c : Nat, cs = [.int .u64 c] ∧ c < 18446744073709551616 := by
  obtain ⟨m, e, _, z⟩ := DataW.trod_int ht h
  have x1 : 0 ≤ m ∧ m ≤ 18446744073709551615 := by simpa [Lit.wf, IntKind.min, IntKind.max, IntKind.signed, IntKind.bits] using z
  obtain ⟨y, rfl⟩ := Int.eq_ofNat_of_zero_le x1.1
  exact ⟨y, e, by omega⟩
set_option maxRecDepth 100000 in
/-- A hasher by value. -/
theorem open_hs {W : World} {base : Nat} {spare : Nat → Bool} {held : Bool} {v : Value} {d : DataW H} {p : List MemPlace} {r : Reach} {b0 : Nat} (hv : Value.okWide Tryd.prog W r b0 26 v) (h : DataW.Trod enc Tryd.prog W base spare held 26 v d p) : ∃ h : Hs, v = hsV h ∧ h.Ok := by
  have k3 : Tryd.prog.cellsOf 26 = 3 := by kernel_rfl
  have k2 : Tryd.prog.cellsOf 24 = 2 := by kernel_rfl
  have k1 : Tryd.prog.cellsOf 22 = 1 := by kernel_rfl
  obtain ⟨cs, rfl, hsz⟩ := okWide_struct Tryd.underlying26 hv
  rw [k3] at hsz
  obtain ⟨fuel, hf⟩ := h
  obtain ⟨c0, c1, c2, rfl⟩ : ∃ a b c, cs = #[a, b, c] := by
    obtain ⟨l⟩ := cs
    match l, hsz with
    | [a, b, c], _ => exact ⟨a, b, c, rfl⟩
  obtain ⟨y0, y1, n, _, _, g0, g1⟩ := trod_struct2 Tryd.underlying26 hf
  simp only [Value.cells] at g0 g1
  rw [k2] at g0
  rw [k1] at g1
  obtain ⟨z0, z1, m', e, _, s0, s1⟩ := trod_struct2 Tryd.underlying24 g0
  rw [k1] at s0 s1
  obtain ⟨u0, e0, l0⟩ := one_u64 Tryd.underlying22 s0
  obtain ⟨u1, e1, l1⟩ := one_u64 Tryd.underlying22 s1
  obtain ⟨u2, e2, l2⟩ := one_u64 Tryd.underlying22 g1
  simp at e0 e1 e2
  exact ⟨⟨u0, u1, u2⟩, by simp [hsV, e0, e1, e2], l0, l1, l2⟩
set_option maxRecDepth 100000 in
/-- A hash's key by value. -/
theorem open_key {W : World} {base : Nat} {spare : Nat → Bool} {held : Bool} {v : Value} {d : DataW H} {p : List MemPlace} {r : Reach} {b0 : Nat} (hv : Value.okWide Tryd.prog W r b0 24 v) (h : DataW.Trod enc Tryd.prog W base spare held 24 v d p) : ∃ a b : Nat, v = .agg #[.int .u64 a, .int .u64 b] ∧ a < 18446744073709551616 ∧ b < 18446744073709551616 := by
  have k2 : Tryd.prog.cellsOf 24 = 2 := by kernel_rfl
  have k1 : Tryd.prog.cellsOf 22 = 1 := by kernel_rfl
  obtain ⟨cs, rfl, hsz⟩ := okWide_struct Tryd.underlying24 hv
  rw [k2] at hsz
  obtain ⟨fuel, hf⟩ := h
  obtain ⟨c0, c1, rfl⟩ : ∃ a b, cs = #[a, b] := by
    obtain ⟨l⟩ := cs
    match l, hsz with
    | [a, b], _ => exact ⟨a, b, rfl⟩
  obtain ⟨z0, z1, m', e, _, s0, s1⟩ := trod_struct2 Tryd.underlying24 hf
  simp only [Value.cells] at s0 s1
  rw [k1] at s0 s1
  obtain ⟨u0, e0, l0⟩ := one_u64 Tryd.underlying22 s0
  obtain ⟨u1, e1, l1⟩ := one_u64 Tryd.underlying22 s1
  simp at e0 e1
  exact ⟨u0, u1, by simp [e0, e1], l0, l1⟩
end Go.Proofs.YtclcgelbcbnekaaDoor
