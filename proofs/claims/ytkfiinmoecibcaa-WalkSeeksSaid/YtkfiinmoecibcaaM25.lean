/- Texts joined. -/
import Derived.Test.YtkfiinmoecibcaaM00
import Derived.ProofKit
import Derived.OpenShut
import Derived.ShutString
import Derived.ChangeOld
import Derived.Deep.Slices
import Derived.Deep.Fields
import Derived.Lib.SmallJoins
import Derived.Deep.Strs
import Derived.Test.YtkfiinmoecibcaaRows
import Derived.Test.YtkfiinmoecibcaaM17
import Derived.Test.YtkfiinmoecibcaaM16
import Derived.Test.YtkfiinmoecibcaaM03
import Derived.Test.YtkfiinmoecibcaaM31
import Derived.Deep.LoopGhost
import Derived.Deep.QuietTactic
import Derived.Test.YtkfiinmoecibcaaM32
import Derived.Test.YtkfiinmoecibcaaM33
set_option linter.unusedVariables false
set_option linter.unusedSimpArgs false
/- From a law's contract to its row: arguments opened, and read again. No function of the program is named here. -/
namespace Go.QS
open Go.RowKit Go.ChangeShapes Go.WideShapes Go.ChangeAt Go.Deep
open Go.ChangeMaps (open_string shut_string)

section
variable {H : Type} {enc : TypeId × Value → H} {P : Program}

theorem trodAll_below (hl : laidOutB P = true) {W W' : World} (hb : Below W.heap.size W W') : ∀ (ts : List TypeId) (vs : List Value) (ds : List (DataW H)) (ps : List MemPlace),
    (ts.all fun t => P.readableRec t && decide (t < P.types.size)) = true → DataW.TrodAll enc P W 0 (fun _ => true) true ts vs ds ps →
    DataW.TrodAll enc P W' 0 (fun b => decide (b < W.heap.size)) true ts vs ds ps
  | [], vs, ds, ps, _, h => by
    obtain ⟨rfl, rfl, rfl⟩ := trodAll_nil h
    exact trodAll_mk0
  | t :: ts, vs, ds, ps, ht, h => by
    obtain ⟨v, vs', d, ds', p, q, rfl, rfl, rfl, h1, h2⟩ := trodAll_cons h
    simp only [List.all_cons, Bool.and_eq_true, decide_eq_true_eq] at ht
    have lt0 : ∀ x ∈ p, x.block < W.heap.size := by obtain ⟨m, hm⟩ := h1; exact DataW.trod_lt m _ _ _ hm
    exact trodAll_cons_mk (Below.trod hl ht.1.1 ht.1.2 h1 hb lt0) (trodAll_below hl hb ts vs' ds' q (by simpa using ht.2) h2)

theorem law_post (hl : laidOutB P = true) {f : Func} {s : ChangeSpec} (hts : (f.params.toList.all fun t => P.readableRec t && decide (t < P.types.size)) = true) {tb : TypeId} (hres : f.resultTypes = #[tb]) (hb : P.underlying tb = some .bool)
    {W W' : World} {args : Array Value} {ds gs : List (DataW H)} {before : List MemPlace} (hW : DataW.Whole enc P f.params.toList s.vars false W args.toList ds gs before) (hv : s.vars = [])
    (h1 : (s.fn H (ds ++ gs)).results = [.lit (.bool true)]) (h2 : (s.fn H (ds ++ gs)).args = ds) (h3 : (s.fn H (ds ++ gs)).vars = []) (bel : Below W.heap.size W W') :
    s.post enc P f false true false false W args (.bool true) W' := by
  have hW' := hW
  obtain ⟨p, q, hA, hV, rfl, hfz, hnd⟩ := hW
  rw [hv] at hV
  obtain ⟨rfl, rfl⟩ := trodVars_none hV
  refine ⟨_, _, _, [], p, [], hW', ?_, ?_, ?_, ?_, fun h => by cases h⟩
  · rw [h1, hres]; exact trodAll_mk1 (shut_bool hb _)
  · rw [h2]; exact trodAll_below hl bel _ _ _ _ hts hA
  · rw [h3, hv]; rfl
  · exact bel.frame _

/-- A slice of structs of two strings. -/
theorem open_ps {t e : TypeId} {f0 f1 : Field} {W : World} {base : Nat} {spare : Nat → Bool} {held : Bool} {v : Value} {d : DataW H} {p : List MemPlace} (ht : P.underlying t = some (.slice e)) (he : P.underlying e = some (.struct #[f0, f1])) (hC : P.cellsOf e = 2) (hone : oneCellFields P #[f0, f1] = true)
    (u0 : P.underlying f0.type = some .string) (u1 : P.underlying f1.type = some .string) {r : Reach} {b0 : Nat} (hv : Value.okWide P W r b0 t v) (h : DataW.Trod enc P W base spare held t v d p) : ∃ l, PS W v l ∧ ∀ p ∈ l, p.1.length ≤ 9223372036854775807 ∧ p.2.length ≤ 9223372036854775807 := by
  obtain ⟨a, len, cap, rfl⟩ := okWide_slice ht hv
  obtain ⟨fuel, hf⟩ := h
  rcases open_slice ht hf with ⟨h0, _⟩ | ⟨a', len', cap', m, n, D, Pl, hcs, hb, hl, hm, hmm, _, hi⟩
  · simp [Value.cells] at h0
    obtain ⟨rfl, rfl, rfl⟩ := h0
    exact ⟨[], Sl.nil W 2, by simp⟩
  · simp [Value.cells] at hcs
    obtain ⟨rfl, rfl, rfl⟩ := hcs
    have hlm : len ≤ m := by rw [hmm]; split <;> omega
    have one : ∀ i, i < len → ∃ pr : Pr, W.cell? (a'.add (i * 2)) = some (str pr.1) ∧ W.cell? (a'.add (i * 2 + 1)) = some (str pr.2) ∧ pr.1.length ≤ 9223372036854775807 ∧ pr.2.length ≤ 9223372036854775807 := by
      intro i hil
      obtain ⟨cs, hc, hd⟩ := hi i (by omega)
      rw [hC] at hc
      obtain ⟨_, hcl, hat⟩ := World.cells?_some hc
      obtain ⟨xs, n', _, _, _, hxl, hg⟩ := DataW.trod_struct he hd
      obtain ⟨o0, k0⟩ := hone_of hone 0 f0 rfl
      obtain ⟨o1, k1⟩ := hone_of hone 1 f1 rfl
      match cs, hcl with
      | [c0, c1], _ =>
        have g0 := hg 0 f0 rfl
        have g1 := hg 1 f1 rfl
        rw [o0, k0] at g0
        rw [o1, k1] at g1
        have hx0 : ∃ y, xs[0]? = some y := get_of_lt xs (by rw [hxl]; simp)
        have hx1 : ∃ y, xs[1]? = some y := get_of_lt xs (by rw [hxl]; simp)
        obtain ⟨y0, hy0⟩ := hx0
        obtain ⟨y1, hy1⟩ := hx1
        obtain ⟨s0, e0, _, z0⟩ := DataW.trod_string u0 (g0.trans hy0)
        obtain ⟨s1, e1, _, z1⟩ := DataW.trod_string u1 (g1.trans hy1)
        have l0 := Lib.size_eq s0
        have l1 := Lib.size_eq s1
        unfold maxLen at z0 z1
        simp at e0 e1
        subst e0 e1
        refine ⟨(s0.data.toList, s1.data.toList), ?_, ?_, by show s0.data.toList.length ≤ _; omega, by show s1.data.toList.length ≤ _; omega⟩
        · have := hat 0 (by omega)
          rw [add_add] at this
          unfold str; rw [bs_data]
          simpa using this
        · have := hat 1 (by omega)
          rw [add_add] at this
          unfold str; rw [bs_data]
          simpa using this
    obtain ⟨F, hF⟩ := choose_lt one
    refine ⟨(List.range len).map F, ⟨some a', cap, by simp, ?_, by simpa using hl, hm, ?_⟩, ?_⟩
    rotate_left 2
    · intro q hq
      obtain ⟨i, hi, rfl⟩ := List.mem_map.1 hq
      exact (hF i (List.mem_range.1 hi)).2.2
    · rw [flat_length]
    · intro hne
      have hlen : 0 < len := by
        rcases Nat.eq_zero_or_pos len with h | h
        · subst h; simp at hne
        · exact h
      obtain ⟨b, o, sp⟩ := a'
      have hsp : sp = none := by
        have := (hF 0 hlen).1
        rw [Nat.zero_mul] at this
        simpa [Addr.add] using World.cell?_spot this
      subst hsp
      refine ⟨b, o, rfl, fun j u hj => ?_⟩
      have hjl : j < len * 2 := by have := (List.getElem?_eq_some_iff.1 hj).1; rw [flat_length] at this; simpa using this
      have hF2 := hF (j / 2) (by omega)
      have hg := flat_get (l := (List.range len).map F) (i := j / 2) (p := F (j / 2)) (by rw [List.getElem?_map, List.getElem?_range (by omega)]; rfl)
      rw [Addr.add_lit, Addr.add_lit] at hF2
      rcases Nat.mod_two_eq_zero_or_one j with h | h
      · have e : j / 2 * 2 = j := by omega
        rw [e] at hg hF2
        rw [hj] at hg
        rw [Option.some.inj hg.1]
        exact hF2.1
      · have e : j / 2 * 2 + 1 = j := by omega
        rw [e] at hg hF2
        rw [hj] at hg
        rw [Option.some.inj hg.2]
        exact hF2.2.1

/-- A struct of two strings by value. -/
theorem open_pr {t : TypeId} {f0 f1 : Field} {W : World} {base : Nat} {spare : Nat → Bool} {held : Bool} {v : Value} {d : DataW H} {p : List MemPlace} (he : P.underlying t = some (.struct #[f0, f1])) (hC : P.cellsOf t = 2) (hone : oneCellFields P #[f0, f1] = true)
    (u0 : P.underlying f0.type = some .string) (u1 : P.underlying f1.type = some .string) {r : Reach} {b0 : Nat} (hv : Value.okWide P W r b0 t v) (h : DataW.Trod enc P W base spare held t v d p) : ∃ pr : Pr, v = .agg #[str pr.1, str pr.2] ∧ pr.1.length ≤ 9223372036854775807 ∧ pr.2.length ≤ 9223372036854775807 := by
  obtain ⟨v0, v1, y0, y1, n, rfl, _, _, h0, h1⟩ := Joins.open_agg2 he hone hC hv h
  obtain ⟨s0, e0, _, z0⟩ := DataW.trod_string u0 h0
  obtain ⟨s1, e1, _, z1⟩ := DataW.trod_string u1 h1
  have l0 := Lib.size_eq s0
  have l1 := Lib.size_eq s1
  unfold maxLen at z0 z1
  simp at e0 e1
  subst e0 e1
  exact ⟨(s0.data.toList, s1.data.toList), by simp only [str, bs_data], by show s0.data.toList.length ≤ _; omega, by show s1.data.toList.length ≤ _; omega⟩
end
end Go.QS
/- Slices of elements of several cells, opened. No program. -/
namespace Go.QS
open Go.RowKit Go.ChangeShapes Go.WideShapes Go.ChangeAt Go.Deep

section
variable {α : Type} {f : α → List Value} {k : Nat}
def flatE (f : α → List Value) (l : List α) : List Value := l.flatMap f
theorem flatE_length (hk : ∀ a, (f a).length = k) (l : List α) : (flatE f l).length = l.length * k := by
  induction l with
  | nil => simp [flatE]
  | cons x l ih => unfold flatE at ih ⊢; rw [List.flatMap_cons, List.length_append, ih, hk, List.length_cons, Nat.add_mul]; omega
theorem flatE_get (hk : ∀ a, (f a).length = k) : ∀ {l : List α} {i : Nat} {a : α}, l[i]? = some a → ∀ {j : Nat} {u : Value}, (f a)[j]? = some u → (flatE f l)[i * k + j]? = some u
  | [], i, a, h, j, u, hj => by simp at h
  | x :: l, 0, a, h, j, u, hj => by
    have e : x = a := by simpa using h
    subst e
    have : j < (f x).length := (List.getElem?_eq_some_iff.1 hj).1
    unfold flatE
    rw [List.flatMap_cons, Nat.zero_mul, Nat.zero_add, List.getElem?_append_left this]; exact hj
  | x :: l, i + 1, a, h, j, u, hj => by
    have ih := flatE_get hk (l := l) (i := i) (a := a) (by simpa using h) hj
    unfold flatE at ih ⊢
    rw [List.flatMap_cons, List.getElem?_append_right (by rw [hk, Nat.add_mul]; omega), hk, show (i + 1) * k + j - k = i * k + j by rw [Nat.add_mul]; omega]
    exact ih
theorem seg_el {w : World} {A : Option Addr} {l : List α} (hk : ∀ a, (f a).length = k) (hk0 : 0 < k) (hs : Seg w A (flatE f l)) {i : Nat} {a : α} (h : l[i]? = some a) :
    ∃ b o, A = some ⟨b, o, none⟩ ∧ ∀ j u, (f a)[j]? = some u → w.cell? ⟨b, o + (i * k + j), none⟩ = some u := by
  have hne : flatE f l ≠ [] := by
    intro e
    obtain ⟨u, hu⟩ := get_of_lt (f a) (show 0 < (f a).length by rw [hk]; exact hk0)
    have := flatE_get hk h hu
    rw [e] at this; cases this
  obtain ⟨b, o, hA, hc⟩ := hs hne
  exact ⟨b, o, hA, fun j u hj => hc _ _ (flatE_get hk h hj)⟩

variable {H : Type} {enc : TypeId × Value → H} {P : Program}
theorem open_el [Inhabited α] (f : α → List Value) (hk : ∀ a, (f a).length = k) (hk0 : 0 < k) (R : α → Prop) {t e : TypeId} {W : World} {base : Nat} {spare : Nat → Bool} {held : Bool} {v : Value} {d : DataW H} {p : List MemPlace} (ht : P.underlying t = some (.slice e)) (hC : P.cellsOf e = k)
    (one : ∀ (n : Nat) (cs : List Value) (x : DataW H × List MemPlace), cs.length = k → DataW.trod enc P W base spare held n e cs = some x → ∃ a, cs = f a ∧ R a)
    {r : Reach} {b0 : Nat} (hv : Value.okWide P W r b0 t v) (h : DataW.Trod enc P W base spare held t v d p) : ∃ l : List α, Sl W k v l.length (flatE f l) ∧ ∀ a ∈ l, R a := by
  obtain ⟨a, len, cap, rfl⟩ := okWide_slice ht hv
  obtain ⟨fuel, hf⟩ := h
  rcases open_slice ht hf with ⟨h0, _⟩ | ⟨a', len', cap', m, n, D, Pl, hcs, hb, hl, hm, hmm, _, hi⟩
  · simp [Value.cells] at h0
    obtain ⟨rfl, rfl, rfl⟩ := h0
    exact ⟨[], Sl.nil W k, by simp⟩
  · simp [Value.cells] at hcs
    obtain ⟨rfl, rfl, rfl⟩ := hcs
    have hlm : len ≤ m := by rw [hmm]; split <;> omega
    have one' : ∀ i, i < len → ∃ y : α, (∀ j, j < k → W.cell? (a'.add (i * k + j)) = (f y)[j]?) ∧ R y := by
      intro i hil
      obtain ⟨cs, hc, hd⟩ := hi i (by omega)
      rw [hC] at hc
      obtain ⟨_, hcl, hat⟩ := World.cells?_some hc
      obtain ⟨y, hy, hR⟩ := one n cs _ hcl hd
      refine ⟨y, fun j hj => ?_, hR⟩
      have := hat j hj
      rw [add_add, hy] at this
      exact this
    obtain ⟨F, hF⟩ := choose_lt one'
    refine ⟨(List.range len).map F, ⟨some a', cap, by simp, ?_, by simpa using hl, hm, ?_⟩, ?_⟩
    · rw [flatE_length hk]
    · intro hne
      have hlen : 0 < len := by
        rcases Nat.eq_zero_or_pos len with h | h
        · subst h; simp [flatE] at hne
        · exact h
      obtain ⟨b, o, sp⟩ := a'
      have hsp : sp = none := by
        have h0 := (hF 0 hlen).1 0 hk0
        obtain ⟨u, hu⟩ := get_of_lt (f (F 0)) (show 0 < (f (F 0)).length by rw [hk]; exact hk0)
        rw [hu] at h0
        simpa [Addr.add] using World.cell?_spot h0
      subst hsp
      refine ⟨b, o, rfl, fun j u hj => ?_⟩
      have hjl : j < len * k := by have := (List.getElem?_eq_some_iff.1 hj).1; rw [flatE_length hk] at this; simpa using this
      have hdk : j / k < len := Nat.div_lt_of_lt_mul (by rw [Nat.mul_comm]; exact hjl)
      have hmk : j % k < k := Nat.mod_lt _ hk0
      have hF2 := (hF (j / k) hdk).1 (j % k) hmk
      rw [Addr.add_lit, show j / k * k + j % k = j by rw [Nat.mul_comm]; exact Nat.div_add_mod j k] at hF2
      obtain ⟨u', hu'⟩ := get_of_lt (f (F (j / k))) (show j % k < (f (F (j / k))).length by rw [hk]; exact hmk)
      have hg := flatE_get hk (l := (List.range len).map F) (i := j / k) (a := F (j / k)) (by rw [List.getElem?_map, List.getElem?_range hdk]; rfl) hu'
      rw [show j / k * k + j % k = j by rw [Nat.mul_comm]; exact Nat.div_add_mod j k, hj] at hg
      rw [hF2, hu', Option.some.inj hg]
    · intro q hq
      obtain ⟨i, hi, rfl⟩ := List.mem_map.1 hq
      exact (hF i (List.mem_range.1 hi)).2

/-- A string's cell. -/
theorem one_str {t : TypeId} {W : World} {base : Nat} {spare : Nat → Bool} {held : Bool} {n : Nat} {cs : List Value} {x : DataW H × List MemPlace} (ht : P.underlying t = some .string) (h : DataW.trod enc P W base spare held n t cs = some x) : ∃ s : List UInt8, cs = [str s] ∧ s.length ≤ 9223372036854775807 := by
  obtain ⟨s, e, _, z⟩ := DataW.trod_string ht h
  have l0 := Lib.size_eq s
  unfold maxLen at z
  refine ⟨s.data.toList, by rw [e]; simp only [str, bs_data], by omega⟩
/-- A byte's cell. -/
theorem one_u8 {t : TypeId} {W : World} {base : Nat} {spare : Nat → Bool} {held : Bool} {n : Nat} {cs : List Value} {x : DataW H × List MemPlace} (ht : P.underlying t = some (.int .u8)) (h : DataW.trod enc P W base spare held n t cs = some x) : ∃ c : UInt8, cs = [.int .u8 c.toNat] := by
  obtain ⟨m, e, _, z⟩ := DataW.trod_int ht h
  have x1 : 0 ≤ m ∧ m ≤ 255 := by simpa [Lit.wf, IntKind.min, IntKind.max, IntKind.signed, IntKind.bits] using z
  obtain ⟨y, rfl⟩ := Int.eq_ofNat_of_zero_le x1.1
  refine ⟨UInt8.ofNat y, ?_⟩
  rw [e]
  have : ((UInt8.ofNat y).toNat : Int) = (y : Int) := by simp; omega
  rw [this]
end
def encU (c : UInt8) : List Value := [.int .u8 c.toNat]
theorem encU_len (c : UInt8) : (encU c).length = 1 := rfl
end Go.QS
/- Chapter 6: changes, strings, bytes, hashers, opened. -/
namespace Go.QS
open Go.RowKit Go.ChangeShapes Go.WideShapes Go.ChangeAt Go.Deep
/-- A change: what to do, a pair, a version. -/
abbrev Ac := UInt8 × Pr × UInt8 × Bool
def encA (a : Ac) : List Value := [.int .u8 a.1.toNat, str a.2.1.1, str a.2.1.2, .int .u8 a.2.2.1.toNat, .bool a.2.2.2]
theorem encA_len (a : Ac) : (encA a).length = 5 := rfl
def AcShort (a : Ac) : Prop := a.2.1.1.length ≤ 9223372036854775807 ∧ a.2.1.2.length ≤ 9223372036854775807
theorem seg_act {w : World} {A : Option Addr} {l : List Ac} (hs : Seg w A (flatE encA l)) {i : Nat} {a : Ac} (h : l[i]? = some a) :
    ∃ b o, A = some ⟨b, o, none⟩ ∧ w.cell? ⟨b, o + i * 5, none⟩ = some (.int .u8 a.1.toNat) ∧ w.cell? ⟨b, o + i * 5 + 1, none⟩ = some (str a.2.1.1) ∧ w.cell? ⟨b, o + i * 5 + 2, none⟩ = some (str a.2.1.2) ∧ w.cell? ⟨b, o + i * 5 + 3, none⟩ = some (.int .u8 a.2.2.1.toNat) := by
  obtain ⟨b, o, hA, hq⟩ := seg_el encA_len (by decide) hs h
  refine ⟨b, o, hA, hq 0 _ rfl, ?_, ?_, ?_⟩
  · rw [Nat.add_assoc]; exact hq 1 _ rfl
  · rw [Nat.add_assoc]; exact hq 2 _ rfl
  · rw [Nat.add_assoc]; exact hq 3 _ rfl
def encS (s : List UInt8) : List Value := [str s]
theorem encS_len (s : List UInt8) : (encS s).length = 1 := rfl
theorem seg_str {w : World} {A : Option Addr} {l : List (List UInt8)} (hs : Seg w A (flatE encS l)) {i : Nat} {a : List UInt8} (h : l[i]? = some a) : ∃ b o, A = some ⟨b, o, none⟩ ∧ w.cell? ⟨b, o + i, none⟩ = some (str a) := by
  obtain ⟨b, o, hA, hq⟩ := seg_el encS_len (by decide) hs h
  refine ⟨b, o, hA, ?_⟩
  have := hq 0 _ rfl
  rwa [Nat.mul_one, Nat.add_zero] at this
end Go.QS
namespace Go.Proofs.Ytkfiinmoecibcaa
open Go.RowKit Go.QS Go.ChangeShapes Go.WideShapes Go.ChangeAt Go.Deep
variable {H : Type} {enc : TypeId × Value → H}

set_option maxRecDepth 100000 in
theorem open_strs {W : World} {base : Nat} {spare : Nat → Bool} {held : Bool} {v : Value} {d : DataW H} {p : List MemPlace} {r : Reach} {b0 : Nat} (hv : Value.okWide Try.prog W r b0 82 v) (h : DataW.Trod enc Try.prog W base spare held 82 v d p) :
    ∃ l : List (List UInt8), Sl W 1 v l.length (flatE encS l) ∧ ∀ a ∈ l, a.length ≤ 9223372036854775807 :=
  open_el encS encS_len (by decide) (fun s => s.length ≤ 9223372036854775807) Try.underlying82 (by kernel_rfl) (fun n cs x _ hx => by obtain ⟨s, e, b⟩ := one_str Try.underlying9 hx; exact ⟨s, e, b⟩) hv h
set_option maxRecDepth 100000 in
theorem open_u8s {W : World} {base : Nat} {spare : Nat → Bool} {held : Bool} {v : Value} {d : DataW H} {p : List MemPlace} {r : Reach} {b0 : Nat} (hv : Value.okWide Try.prog W r b0 28 v) (h : DataW.Trod enc Try.prog W base spare held 28 v d p) :
    ∃ l : List UInt8, Sl W 1 v l.length (flatE encU l) ∧ ∀ a ∈ l, True :=
  open_el encU encU_len (by decide) (fun _ => True) Try.underlying28 (by kernel_rfl) (fun n cs x _ hx => by obtain ⟨c, e⟩ := one_u8 Try.underlying5 hx; exact ⟨c, e, trivial⟩) hv h

/-- An unsigned number's cell. -/
theorem one_u64 {P : Program} {t : TypeId} {W : World} {base : Nat} {spare : Nat → Bool} {held : Bool} {n : Nat} {cs : List Value} {x : DataW H × List MemPlace} (ht : P.underlying t = some (.int .u64)) (h : DataW.trod enc P W base spare held n t cs = some x) : ∃ c : Nat, cs = [.int .u64 c] ∧ c < 18446744073709551616 := by
  obtain ⟨m, e, _, z⟩ := DataW.trod_int ht h
  have x1 : 0 ≤ m ∧ m ≤ 18446744073709551615 := by simpa [Lit.wf, IntKind.min, IntKind.max, IntKind.signed, IntKind.bits] using z
  obtain ⟨y, rfl⟩ := Int.eq_ofNat_of_zero_le x1.1
  exact ⟨y, e, by omega⟩
set_option maxRecDepth 100000 in
/-- A hasher by value. -/
theorem open_hs {W : World} {base : Nat} {spare : Nat → Bool} {held : Bool} {v : Value} {d : DataW H} {p : List MemPlace} {r : Reach} {b0 : Nat} (hv : Value.okWide Try.prog W r b0 26 v) (h : DataW.Trod enc Try.prog W base spare held 26 v d p) : ∃ h : Hs, v = hsV h ∧ h.Ok := by
  have k3 : Try.prog.cellsOf 26 = 3 := by kernel_rfl
  have k2 : Try.prog.cellsOf 24 = 2 := by kernel_rfl
  have k1 : Try.prog.cellsOf 22 = 1 := by kernel_rfl
  obtain ⟨cs, rfl, hsz⟩ := okWide_struct Try.underlying26 hv
  rw [k3] at hsz
  obtain ⟨fuel, hf⟩ := h
  obtain ⟨c0, c1, c2, rfl⟩ : ∃ a b c, cs = #[a, b, c] := by
    obtain ⟨l⟩ := cs
    match l, hsz with
    | [a, b, c], _ => exact ⟨a, b, c, rfl⟩
  obtain ⟨y0, y1, n, _, _, g0, g1⟩ := trod_struct2 Try.underlying26 hf
  simp only [Value.cells] at g0 g1
  rw [k2] at g0
  rw [k1] at g1
  obtain ⟨z0, z1, m', e, _, s0, s1⟩ := trod_struct2 Try.underlying24 g0
  rw [k1] at s0 s1
  obtain ⟨u0, e0, l0⟩ := one_u64 Try.underlying22 s0
  obtain ⟨u1, e1, l1⟩ := one_u64 Try.underlying22 s1
  obtain ⟨u2, e2, l2⟩ := one_u64 Try.underlying22 g1
  simp at e0 e1 e2
  exact ⟨⟨u0, u1, u2⟩, by simp [hsV, e0, e1, e2], l0, l1, l2⟩
set_option maxRecDepth 100000 in
/-- A hash's key by value. -/
theorem open_key {W : World} {base : Nat} {spare : Nat → Bool} {held : Bool} {v : Value} {d : DataW H} {p : List MemPlace} {r : Reach} {b0 : Nat} (hv : Value.okWide Try.prog W r b0 24 v) (h : DataW.Trod enc Try.prog W base spare held 24 v d p) : ∃ a b : Nat, v = .agg #[.int .u64 a, .int .u64 b] ∧ a < 18446744073709551616 ∧ b < 18446744073709551616 := by
  have k2 : Try.prog.cellsOf 24 = 2 := by kernel_rfl
  have k1 : Try.prog.cellsOf 22 = 1 := by kernel_rfl
  obtain ⟨cs, rfl, hsz⟩ := okWide_struct Try.underlying24 hv
  rw [k2] at hsz
  obtain ⟨fuel, hf⟩ := h
  obtain ⟨c0, c1, rfl⟩ : ∃ a b, cs = #[a, b] := by
    obtain ⟨l⟩ := cs
    match l, hsz with
    | [a, b], _ => exact ⟨a, b, rfl⟩
  obtain ⟨z0, z1, m', e, _, s0, s1⟩ := trod_struct2 Try.underlying24 hf
  simp only [Value.cells] at s0 s1
  rw [k1] at s0 s1
  obtain ⟨u0, e0, l0⟩ := one_u64 Try.underlying22 s0
  obtain ⟨u1, e1, l1⟩ := one_u64 Try.underlying22 s1
  simp at e0 e1
  exact ⟨u0, u1, by simp [e0, e1], l0, l1⟩
end Go.Proofs.Ytkfiinmoecibcaa
/- Contracts: the document's Find and Get. -/
namespace Go.Proofs.Ytkfiinmoecibcaa
open Go.RowKit Go.QS
set_option linter.unusedVariables false

set_option maxRecDepth 100000 in
set_option maxHeartbeats 400000 in
theorem rfind_c (w : World) (v : Value) (l : List Pr) (key : List UInt8) (h : PS w v l) (hr : Rise l) (h9 : l.length ≤ 1000000000) (hk9 : ∀ p ∈ l, p.1.length ≤ 9223372036854775807) :
    Calls Try.prog 52 #[v, str key] w fun e w' => e = .returned (.tuple #[.int .i64 (fndI l key), .bool (hasK l key)]) ∧ Ext w w' := by
  obtain ⟨A, c, rfl, hl, hn, hc, hs⟩ := h
  obtain ⟨n, hn2⟩ : ∃ n, n = l.length := ⟨_, rfl⟩
  rw [← hn2] at h9 hn ⊢
  have Hn : Hid (_ ∧ _ ∧ _) := Lib.hid ⟨hn2, hr, hk9⟩
  clear hn2 hl hr hk9
  go_enter Try.func52, Try.ntmps52
  repeat' go_step
  go_loopg [6] n (fun gk vi wr => ∃ i : Nat, vi = .int .i64 i ∧ i ≤ n ∧ n - i ≤ gk ∧ Ext w wr ∧ Hid (∀ t q, t < i → l[t]? = some q → q.1 < key))
  case atStart => exact ⟨0, rfl, Nat.zero_le _, by omega, Ext.refl _, Lib.hid fun t q h => by omega⟩
  case round =>
    obtain ⟨i, rfl, hin, hgk, hE, HI⟩ := hrel
    rcases Nat.lt_or_ge i n with hlt | hge
    · have d1 : decide (i < n) = true := by simp [hlt]
      obtain ⟨q, hq⟩ := get_of_lt l (show i < l.length by have := Hn.out.1; omega)
      obtain ⟨b, o, rfl, hq1, hq2⟩ := seg_pair (hs.below hE) hq
      have hi1 : (i : Int) < (n : Int) := by omega
      have hql := Hn.out.2.2 q (List.mem_of_getElem? hq)
      have HQ := Lib.hid hq
      clear hq
      repeat' (first | go_skip | go_guarded | go_step)
      refine (less_c' _ q.1 key hql).mono ?_
      rintro e w1 ⟨rfl, hb1⟩
      have hE1 : Ext w w1 := Ext.trans hE hb1
      by_cases hlt2 : q.1 < key
      · have hd : decide (q.1 < key) = true := by simp [hlt2]
        have HL := Lib.hid hlt2
        clear hlt2
        go_simp
        repeat' (first | go_skip | go_guarded | go_step)
        go_roundg (n - (i + 1))
        case measure => omega
        case rel =>
          refine ⟨i + 1, by go_num, by omega, Nat.le_refl _, hE1, Lib.hid fun t p ht hp => ?_⟩
          rcases Nat.lt_or_eq_of_le (Nat.le_of_lt_succ ht) with h | rfl
          · exact HI.out t p h hp
          · rw [HQ.out] at hp; cases hp; exact HL.out
      · have hd : decide (q.1 < key) = false := by simp [hlt2]
        have hfi : i = fndI l key := fnd_first (by have := Hn.out.1; omega) (fun t q ht hq => HI.out t q ht hq) (fun q' hq' => by rw [HQ.out] at hq'; cases hq'; exact hlt2)
        have hha := hasK_at (k := key) Hn.out.2.1
        rw [← hfi, HQ.out] at hha
        have HF : Hid (_ ∧ _) := Lib.hid ⟨hfi, hha⟩
        obtain ⟨b1, b2⟩ := seg_pair (hs.below hE1) HQ.out
        clear hfi hha hlt2
        obtain ⟨_, hbo, c1, c2⟩ := b2
        cases hbo
        go_simp
        repeat' (first | go_skip | go_guarded | go_step)
        go_quiet (fail)
        repeat' go_step
        go_ret2
        refine ⟨?_, below_drewN hE1 _⟩
        rw [← HF.out.1, HF.out.2]
        first | rfl | simp
    · obtain rfl : i = n := by omega
      have d1 : decide (i < i) = false := by simp
      have hno : l[i]? = none := List.getElem?_eq_none (by have := Hn.out.1; omega)
      have hfi : i = fndI l key := fnd_first (by have := Hn.out.1; omega) (fun t q ht hq => HI.out t q ht hq) (fun q' hq' => by rw [hno] at hq'; cases hq')
      have hha := hasK_at (k := key) Hn.out.2.1
      rw [← hfi, hno] at hha
      have HF : Hid (_ ∧ _) := Lib.hid ⟨hfi, hha⟩
      clear hfi hha hno
      repeat' (first | go_skip | go_guarded | go_step)
      go_quiet (fail)
      repeat' go_step
      go_ret2
      refine ⟨?_, below_drewN hE _⟩
      rw [← HF.out.1, HF.out.2]
      rfl

set_option maxRecDepth 100000 in
theorem rget_c (w : World) (v : Value) (l : List Pr) (key : List UInt8) (h : PS w v l) (hr : Rise l) (h9 : l.length ≤ 1000) (hk9 : ∀ p ∈ l, p.1.length ≤ 1000) :
    Calls Try.prog 21 #[v, str key] w fun e w' => e = .returned (.tuple #[str ((getL key l).getD []), .bool (hasK l key)]) ∧ Ext w w' := by
  have hha := hasK_at (k := key) hr
  have hgl : ∀ v, getL key l = some v ↔ (key, v) ∈ l := fun v => getL_iff hr
  have hgh := getL_has hr key
  have HF := Lib.hid (rfind_c w v l key h hr (by omega) (fun p hp => by have := hk9 p hp; omega))
  obtain ⟨A, c, rfl, hl, hn, hc, hs⟩ := h
  obtain ⟨n, hn2⟩ : ∃ n, n = l.length := ⟨_, rfl⟩
  rw [← hn2] at h9 hn HF ⊢
  have Hn := Lib.hid hn2
  obtain ⟨f, hf⟩ : ∃ f, f = fndI l key := ⟨_, rfl⟩
  rw [← hf] at hha HF
  have HS := Lib.hid hs
  clear hn2 hl hr hk9 hf hs
  cases hb : hasK l key with
  | false =>
    rw [hb] at HF
    have hgn : getL key l = none := by rw [hb] at hgh; cases hg : getL key l with | none => rfl | some v => rw [hg] at hgh; cases hgh
    rw [hgn]
    clear hb hha hgl hgh hgn
    go_enter Try.func21, Try.ntmps21
    repeat' (first | go_at_call 52 | go_skip | go_guarded | go_step)
    refine HF.out.mono ?_
    rintro e w1 ⟨rfl, f1⟩
    have F1 := Lib.hid f1
    clear f1
    go_simp
    repeat' (first | go_skip | go_guarded | go_step)
    go_ret2
    exact ⟨rfl, F1.out⟩
  | true =>
    rw [hb] at HF hha
    have hlt : f < l.length := by
      rcases Nat.lt_or_ge f l.length with h | h
      · exact h
      · rw [List.getElem?_eq_none_iff.2 h] at hha; cases hha
    obtain ⟨q, hq⟩ := get_of_lt l hlt
    obtain ⟨b, o, rfl, hq1, hq2⟩ := seg_pair HS.out hq
    have hi1 : (f : Int) < (n : Int) := by have := Hn.out; omega
    have hbl : b < w.heap.size := World.block_lt_of_cell? w _ hq1
    have HQ := Lib.hid hq2
    have hgs : getL key l = some q.2 := by
      rw [hq] at hha
      have e : q.1 = key := by simpa using hha.symm
      exact (hgl q.2).2 (by rw [← e]; exact List.mem_of_getElem? hq)
    rw [hgs]
    clear hb hha hq hlt hq1 hq2 hgl hgh hgs
    go_enter Try.func21, Try.ntmps21
    repeat' (first | go_at_call 52 | go_skip | go_guarded | go_step)
    refine HF.out.mono ?_
    rintro e w1 ⟨rfl, f1⟩
    have F1 := Lib.hid f1
    have hq2 := (f1.cell (p := ⟨b, o + f * 2 + 1, none⟩) hbl).trans HQ.out
    clear f1
    go_simp
    repeat' (first | go_skip | go_guarded | go_step)
    go_ret2
    exact ⟨rfl, F1.out⟩

end Go.Proofs.Ytkfiinmoecibcaa
/- Contracts: where a key lies in a list of pairs (slices.IndexFunc with Seek's own function). -/
namespace Go.QS
open Go.RowKit Go.QS.Nk
/-- The place of the first pair of a key. -/
def kplace (k : List UInt8) (l : List Pr) : Nat := (l.takeWhile fun p => p.1 != k).length
theorem kplace_cut {k v : List UInt8} : ∀ {a b : List Pr}, (∀ p ∈ a, p.1 ≠ k) → kplace k (a ++ (k, v) :: b) = a.length
  | [], b, _ => by simp [kplace]
  | q :: a, b, h => by
    have ih := kplace_cut (a := a) (b := b) (fun p hp => h p (List.mem_cons_of_mem _ hp)) (v := v)
    have hq := h q (List.mem_cons_self ..)
    unfold kplace at ih ⊢
    rw [List.cons_append, List.takeWhile_cons_of_pos (by simpa using hq), List.length_cons, ih, List.length_cons]
end Go.QS
namespace Go.Proofs.Ytkfiinmoecibcaa
open Go.RowKit Go.QS Go.QS.Nk
set_option linter.unusedVariables false

set_option maxRecDepth 100000 in
theorem sfn_c (W : World) (x : Pr) (a : Nat) (k : List UInt8) (ha : W.cell? ⟨a, 0, none⟩ = some (str k)) :
    Calls Try.prog 49 #[.agg #[str x.1, str x.2], ptr a] W fun e w' => e = .returned (.bool (decide (x.1 = k))) ∧ Ext W w' := by
  obtain ⟨s1, s2⟩ := x
  have hla : a < W.heap.size := World.block_lt_of_cell? W _ ha
  have hEA : Ext W (W.alloc (.cells #[str s1, str s2] 40)) := (Ext.refl W).alloc (Nat.le_refl _) _
  have HEA := Lib.hid hEA
  clear hEA
  go_enter Try.func49, Try.ntmps49
  repeat' (first | go_skip | go_guarded | go_step)
  go_ret
  refine ⟨?_, HEA.out⟩
  show Ending.returned (.bool (s1 == k)) = .returned (.bool (decide (s1 = k)))
  by_cases h : s1 = k <;> simp [h]

abbrev sfnV (a : Nat) : Value := .func (.func 49) #[] #[ptr a]

set_option maxRecDepth 100000 in
theorem idxs_c (w : World) (v : Value) (l P1 P2 : List Pr) (a : Nat) (k kv : List UInt8) (h : PS w v l) (ha : w.cell? ⟨a, 0, none⟩ = some (str k)) (hl : l = P1 ++ (k, kv) :: P2) (hP : ∀ p ∈ P1, p.1 ≠ k) :
    Calls Try.prog 48 #[v, sfnV a] w fun e w' => e = .returned (.int .i64 (P1.length : Int)) ∧ Ext w w' := by
  obtain ⟨A, C, rfl, _, hn, hC, hs⟩ := h
  obtain ⟨m, hm⟩ : ∃ m, m = l.length := ⟨_, rfl⟩
  rw [← hm] at hn ⊢
  have hm9 : m ≤ 9223372036854775807 := by unfold maxLen at hC; omega
  have hPm : P1.length < m := by rw [hm, hl]; simp
  have HN : Hid (m = l.length ∧ Seg w A (flat l) ∧ w.cell? ⟨a, 0, none⟩ = some (str k) ∧ l = P1 ++ (k, kv) :: P2 ∧ ∀ p ∈ P1, p.1 ≠ k) := Lib.hid ⟨hm, hs, ha, hl, hP⟩
  have hla := World.block_lt_of_cell? w _ ha
  obtain ⟨K, hK⟩ : ∃ K, K = P1.length := ⟨_, rfl⟩
  rw [← hK] at hPm ⊢
  have HK := Lib.hid hK
  clear hm hs ha hl hP hK
  go_enter Try.func48, Try.ntmps48
  repeat' (go_not_at_region 2; (first | go_skip | go_guarded | go_step))
  go_loopg [5, 8] m (fun gk v5 v8 wr => ∃ j : Nat, v8 = .int .i64 j ∧ j ≤ K ∧ m - j ≤ gk ∧ Ext w wr)
  case atStart => exact ⟨0, rfl, Nat.zero_le _, Nat.le_refl _, Ext.refl _⟩
  case round =>
    obtain ⟨j, rfl, hjK, hgk, hE⟩ := hrel
    have hlt : j < m := by omega
    have d1 : decide (j < m) = true := by simp [hlt]
    obtain ⟨p, hp⟩ := get_of_lt l (show j < l.length by have := HN.out.1; omega)
    obtain ⟨bb, o, hA, q1, q2⟩ := seg_pair (Seg.below HN.out.2.1 hE) hp
    subst hA
    have hi1 : (j : Int) < (m : Int) := by omega
    have HC := Lib.hid (sfn_c wr p a k ((World.cell?_of_block (hE.block a hla)).trans HN.out.2.2.1))
    have HP := Lib.hid hp
    clear hp
    repeat' (first | go_skip | go_guarded | go_step)
    refine HC.out.mono ?_
    rintro e w1 ⟨rfl, f1⟩
    have HE1 : Hid (Ext w w1) := Lib.hid (hE.trans f1)
    clear f1
    rcases Nat.lt_or_ge j K with hjk | hjk
    · have hf : decide (p.1 = k) = false := by
        have h1 := HP.out
        rw [HN.out.2.2.2.1, List.getElem?_append_left (by have := HK.out; omega)] at h1
        simpa using HN.out.2.2.2.2 p (List.mem_of_getElem? h1)
      rw [hf]
      clear hf
      go_simp
      repeat' (first | go_skip | go_guarded | go_step)
      go_roundg (m - (j + 1))
      case measure => omega
      case rel => exact ⟨j + 1, by go_num, by omega, Nat.le_refl _, HE1.out⟩
    · obtain rfl : j = K := by omega
      have hf : decide (p.1 = k) = true := by
        have h1 := HP.out
        rw [HN.out.2.2.2.1, HK.out] at h1
        simp at h1
        rw [← h1]; simp
      rw [hf]
      clear hf
      go_simp
      repeat' (first | go_skip | go_guarded | go_step)
      go_ret
      exact ⟨rfl, HE1.out⟩
end Go.Proofs.Ytkfiinmoecibcaa
/- walk.Seek: a frame more: its regions as laws of their own. -/
namespace Go.Proofs.Ytkfiinmoecibcaa
open Go.RowKit Go.QS Go.QS.Nk
set_option linter.unusedVariables false

set_option maxRecDepth 100000 in
set_option maxHeartbeats 2000000 in
theorem seek_14 (W0 wr : World) (cn gf m1 C1 d n3 C3 n4 C4 : Nat) (A1 A3 A4 : Option Addr) (ms1 : List Fm) (st1 : List Fp) (s9 : Fp) (H : Hid (Cur W0 wr cn (.slice A1 m1 C1) ms1 st1 d ∧ wr.heap[gf]? = some (.cells #[.slice A3 n3 C3, .slice A4 n4 C4] WFT (0, 0)) ∧ FrOk ND W0 wr cn (Value.slice A1 m1 C1).ownBlock (.slice A3 n3 C3, .slice A4 n4 C4) s9 ∧ m1 = ms1.length)) (hm9 : m1 ≤ 2000000) (HGN : Hid ((Value.slice A1 m1 C1).ownBlock ≠ some gf)) (c : Code) (Q : Exit → Act → World → Prop) (t0 t1 t2 t3 t4 t5 t6 t7 t8 t9 t10 t12 t13 t15 t16 t17 t18 t19 t20 t21 t22 t23 t24 t25 t26 t27 t28 t29 t30 t31 t32 t33 t34 t35 t36 t37 t38 t39 t40 t41 t42 t43 t44 t45 t46 t47 t48 t49 t50 t51 t52 t53 t54 t55 t56 t57 t58 t59 t60 t61 t62 t63 t64 t65 t66 t67 t68 t69 t70 t71 t72 t73 t74 t75 t76 t77 t78 t79 t80 t81 t82 t83 t84 t85 t86 t87 t88 t89 t90 t91 t92 t93 t94 t95 t96 t97 t98 : Value)
    (hc : (Try.f19.body.bind (findR 14)) = some c)
    (hQ : ∀ (u59 u60 u61 u62 u63 u64 u65 u66 u67 u68 : Value) (wx : World), ∀ (V' : Value), Cur W0 wx cn V' (ms1 ++ [(.slice A3 n3 C3, .slice A4 n4 C4)]) (st1 ++ [s9]) d → TwoW cn (.slice A1 m1 C1) wr wx → NewW wr (.slice A1 m1 C1) V' → Q .normal { tmps := List.toArray (t0 :: t1 :: t2 :: t3 :: t4 :: t5 :: t6 :: t7 :: t8 :: t9 :: t10 :: (ptr cn) :: t12 :: t13 :: (ptr gf) :: t15 :: t16 :: t17 :: t18 :: t19 :: t20 :: t21 :: t22 :: t23 :: t24 :: t25 :: t26 :: t27 :: t28 :: t29 :: t30 :: t31 :: t32 :: t33 :: t34 :: t35 :: t36 :: t37 :: t38 :: t39 :: t40 :: t41 :: t42 :: t43 :: t44 :: t45 :: t46 :: t47 :: t48 :: t49 :: t50 :: t51 :: t52 :: t53 :: t54 :: t55 :: t56 :: t57 :: t58 :: u59 :: u60 :: u61 :: u62 :: u63 :: u64 :: u65 :: u66 :: u67 :: u68 :: t69 :: t70 :: t71 :: t72 :: t73 :: t74 :: t75 :: t76 :: t77 :: t78 :: t79 :: t80 :: t81 :: t82 :: t83 :: t84 :: t85 :: t86 :: t87 :: t88 :: t89 :: t90 :: t91 :: t92 :: t93 :: t94 :: t95 :: t96 :: t97 :: t98 :: []), defers := [] } wx) :
    c.wp Try.prog Q { tmps := List.toArray (t0 :: t1 :: t2 :: t3 :: t4 :: t5 :: t6 :: t7 :: t8 :: t9 :: t10 :: (ptr cn) :: t12 :: t13 :: (ptr gf) :: t15 :: t16 :: t17 :: t18 :: t19 :: t20 :: t21 :: t22 :: t23 :: t24 :: t25 :: t26 :: t27 :: t28 :: t29 :: t30 :: t31 :: t32 :: t33 :: t34 :: t35 :: t36 :: t37 :: t38 :: t39 :: t40 :: t41 :: t42 :: t43 :: t44 :: t45 :: t46 :: t47 :: t48 :: t49 :: t50 :: t51 :: t52 :: t53 :: t54 :: t55 :: t56 :: t57 :: t58 :: t59 :: t60 :: t61 :: t62 :: t63 :: t64 :: t65 :: t66 :: t67 :: t68 :: t69 :: t70 :: t71 :: t72 :: t73 :: t74 :: t75 :: t76 :: t77 :: t78 :: t79 :: t80 :: t81 :: t82 :: t83 :: t84 :: t85 :: t86 :: t87 :: t88 :: t89 :: t90 :: t91 :: t92 :: t93 :: t94 :: t95 :: t96 :: t97 :: t98 :: []), defers := [] } wr := by
  change some _ = some c at hc
  cases hc
  have HQF := Lib.hid hQ
  clear hQ
  have hcell : wr.cell? ⟨cn, 0, none⟩ = some (.slice A1 m1 C1) ∧ wr.cell? ⟨gf, 0, none⟩ = some (.slice A3 n3 C3) ∧ wr.cell? ⟨gf, 1, none⟩ = some (.slice A4 n4 C4) := by
    have h1 := H.out.1.cell
    have h2 := H.out.2.1
    refine ⟨?_, ?_, ?_⟩
    · simp [World.cell?, h1]
    · simp [World.cell?, h2]
    · simp [World.cell?, h2]
  have hcl : cn < wr.heap.size := heap_lt H.out.1.cell
  have HC := Lib.hid hcell
  refine wp_region_noPanic ?_
  refine wp_region_T (n := 8) (S := (fun w' : World => w'.cell? ⟨cn, 0, none⟩ = some (.slice A1 m1 C1) ∧ w'.cell? ⟨gf, 0, none⟩ = some (.slice A3 n3 C3) ∧ w'.cell? ⟨gf, 1, none⟩ = some (.slice A4 n4 C4))) (by kernel_rfl) ?_
  change wpAnyT _ _ _ _ _ _ 11 _ _ wr.drew
  have hH : (fun w' : World => w'.cell? ⟨cn, 0, none⟩ = some (.slice A1 m1 C1) ∧ w'.cell? ⟨gf, 0, none⟩ = some (.slice A3 n3 C3) ∧ w'.cell? ⟨gf, 1, none⟩ = some (.slice A4 n4 C4)) wr.drew := ⟨Ext.cell' (ext_drew (Ext.refl wr)) hcell.1, Ext.cell' (ext_drew (Ext.refl wr)) hcell.2.1, Ext.cell' (ext_drew (Ext.refl wr)) hcell.2.2⟩
  refine wpAnyT_take (i := 0) (v := ?_) rfl (by kernel_rfl) (by kernel_rfl) (by kernel_rfl) (by kernel_rfl) (fun _ _ _ h => h) (Or.inl ⟨by rfl, ?_⟩) hH ?_
  rotate_left
  · (intro w hSw; (try dsimp only at hSw); obtain ⟨s0, s1, s2⟩ := hSw; go_simp; try with_reducible rfl)
  try simp only [Act.put, List.setIfInBounds_toArray, List.set_cons_zero, List.set_cons_succ]
  refine wpAnyT_take (i := 1) (v := ?_) rfl (by kernel_rfl) (by kernel_rfl) (by kernel_rfl) (by kernel_rfl) (fun _ _ _ h => h) (Or.inl ⟨by rfl, ?_⟩) hH ?_
  rotate_left
  · (intro w hSw; (try dsimp only at hSw); obtain ⟨s0, s1, s2⟩ := hSw; go_simp; try with_reducible rfl)
  try simp only [Act.put, List.setIfInBounds_toArray, List.set_cons_zero, List.set_cons_succ]
  refine wpAnyT_take (i := 2) (v := ?_) rfl (by kernel_rfl) (by kernel_rfl) (by kernel_rfl) (by kernel_rfl) (fun _ _ _ h => h) (Or.inl ⟨by rfl, ?_⟩) hH ?_
  rotate_left
  · (intro w hSw; (try dsimp only at hSw); obtain ⟨s0, s1, s2⟩ := hSw; go_simp; try with_reducible rfl)
  try simp only [Act.put, List.setIfInBounds_toArray, List.set_cons_zero, List.set_cons_succ]
  refine wpAnyT_take (i := 3) (v := ?_) rfl (by kernel_rfl) (by kernel_rfl) (by kernel_rfl) (by kernel_rfl) (fun _ _ _ h => h) (Or.inl ⟨by rfl, ?_⟩) hH ?_
  rotate_left
  · (intro w hSw; (try dsimp only at hSw); obtain ⟨s0, s1, s2⟩ := hSw; go_simp; try with_reducible rfl)
  try simp only [Act.put, List.setIfInBounds_toArray, List.set_cons_zero, List.set_cons_succ]
  refine wpAnyT_take (i := 4) (v := ?_) rfl (by kernel_rfl) (by kernel_rfl) (by kernel_rfl) (by kernel_rfl) (fun _ _ _ h => h) (Or.inl ⟨by rfl, ?_⟩) hH ?_
  rotate_left
  · (intro w hSw; (try dsimp only at hSw); obtain ⟨s0, s1, s2⟩ := hSw; go_simp; try with_reducible rfl)
  try simp only [Act.put, List.setIfInBounds_toArray, List.set_cons_zero, List.set_cons_succ]
  refine wpAnyT_take (i := 5) (v := ?_) rfl (by kernel_rfl) (by kernel_rfl) (by kernel_rfl) (by kernel_rfl) (fun _ _ _ h => h) (Or.inl ⟨by rfl, ?_⟩) hH ?_
  rotate_left
  · (intro w hSw; (try dsimp only at hSw); obtain ⟨s0, s1, s2⟩ := hSw; go_simp; try with_reducible rfl)
  try simp only [Act.put, List.setIfInBounds_toArray, List.set_cons_zero, List.set_cons_succ]
  refine wpAnyT_all (rs := [6]) (by kernel_rfl) (by simp) ?_
  intro i9 hi9
  obtain rfl := List.mem_singleton.1 hi9
  refine wpOp_goK rfl rfl (fun K9 hK9 => ?_)
  go_simp
  have k1 : Hid (Ext wr wr.drew) := Lib.hid (ext_drew (Ext.refl wr))
  refine hK9.out _ _ ⟨.inr ⟨Ext.cell' (ext_alloc k1.out _) HC.out.1, Ext.cell' (ext_alloc k1.out _) HC.out.2.1, Ext.cell' (ext_alloc k1.out _) HC.out.2.2⟩, ?_⟩
  clear hK9 K9
  obtain ⟨x2, hx2⟩ : ∃ x2, x2 = (wr.alloc (.cells #[.slice A3 n3 C3, .slice A4 n4 C4] WFT)).drew := ⟨_, rfl⟩
  have e2 : Ext wr x2 := by rw [hx2]; exact ext_drew (ext_alloc (Ext.refl wr) _)
  have hseg : Seg x2 (some ⟨wr.heap.size, 0, none⟩) [.slice A3 n3 C3, .slice A4 n4 C4] := by rw [hx2]; exact (Seg.new wr [_, _] WFT (by simp)).below (ext_drew (Ext.refl _))
  rw [← hx2]
  have HX2 : Hid (Cur W0 x2 cn (.slice A1 m1 C1) ms1 st1 d ∧ FrOk ND W0 x2 cn (Value.slice A1 m1 C1).ownBlock (.slice A3 n3 C3, .slice A4 n4 C4) s9 ∧ Ext wr x2 ∧ Seg x2 (some ⟨wr.heap.size, 0, none⟩) [.slice A3 n3 C3, .slice A4 n4 C4]) := Lib.hid ⟨H.out.1.keep e2, H.out.2.2.1.keep e2.size (fun b hb _ _ => e2.block b hb) (.inl rfl), e2, hseg⟩
  have hrow : x2.ownsRow W0.heap.size WFT 2 (.slice A1 m1 C1) m1 (flatF ms1) := by have := HX2.out.1.row; rw [← H.out.2.2.2] at this; exact this
  have HR := Lib.hid hrow
  clear hx2 e2 hseg hrow hH
  refine wpAnyT_all (rs := [7]) (by kernel_rfl) (by simp) ?_
  intro i9 hi9
  obtain rfl := List.mem_singleton.1 hi9
  refine wpOp_goK rfl rfl (fun K9 hK9 => ?_)
  refine oper_app (.tmp 63) (.tmp 65) _ rfl W0.heap.size WFT 2 48 Try.underlying103 infoWF (by decide) (.slice A1 m1 C1) m1 (flatF ms1) rfl HR.out _ 1 1 [.slice A3 n3 C3, .slice A4 n4 C4] rfl rfl HX2.out.2.2.2 (by intro u hu; simp at hu; rcases hu with rfl | rfl <;> rfl) (by unfold maxLen; omega) (by omega) (by have := HX2.out.1.ext.size; omega) ?_
  intro V' x3 r3 g3 n9
  obtain ⟨A5, C5, rfl⟩ := own_slice r3
  have hx3 : x3.heap[cn]? = some (.cells #[.slice A1 m1 C1, .int .i64 (d : Int)] WCT (0, 0)) := (g3.block cn (heap_lt HX2.out.1.cell) (fun e => HX2.out.1.ne e.symm)).trans HX2.out.1.cell
  have hc3 : x3.cell? ⟨cn, 0, none⟩ = some (.slice A1 m1 C1) := by simp [World.cell?, hx3]
  have hf3 : ∀ j, x3.frozen? ⟨cn, j, none⟩ = false := fun j => by simp [World.frozen?, hx3]
  have hg2 : x2.heap[gf]? = some (.cells #[.slice A3 n3 C3, .slice A4 n4 C4] WFT (0, 0)) := (HX2.out.2.2.1.block gf (heap_lt H.out.2.1)).trans H.out.2.1
  have hgne : (Value.slice A1 m1 C1).ownBlock ≠ some gf := HGN.out
  have hg3 : x3.heap[gf]? = some (.cells #[.slice A3 n3 C3, .slice A4 n4 C4] WFT (0, 0)) := (g3.block gf (heap_lt hg2) (fun e => hgne e.symm)).trans hg2
  have HX3 := Lib.hid (And.intro r3 (And.intro g3 n9))
  have hcl3 : cn < x3.heap.size := heap_lt hx3
  have hS3 : x3.cell? ⟨cn, 0, none⟩ = some (.slice A1 m1 C1) ∧ x3.cell? ⟨gf, 0, none⟩ = some (.slice A3 n3 C3) ∧ x3.cell? ⟨gf, 1, none⟩ = some (.slice A4 n4 C4) := ⟨hc3, by simp [World.cell?, hg3], by simp [World.cell?, hg3]⟩
  clear r3 g3 n9 hx3 hg2 hgne hg3
  refine hK9.out _ _ ⟨.inr hS3, ?_⟩
  clear hK9 K9 hS3
  try simp only [Act.put, List.setIfInBounds_toArray, List.set_cons_zero, List.set_cons_succ]
  refine wpAnyT_tail 8 (Nat.le_refl _) rfl (by kernel_rfl) ?_
  simp only [List.drop_succ_cons, List.drop_zero]
  repeat' go_step
  refine NoPanic.normal ?_
  have hm1 := H.out.2.2.2
  have hT : TwoW cn (.slice A1 m1 C1) wr x3 := by
    have h1 : TwoW cn (.slice A1 m1 C1) x2 x3 := (Only.of_grown HX3.out.2.1).mono fun i _ e => .inr e
    exact Only.trans (Only.of_ext HX2.out.2.2.1) h1
  refine HQF.out _ _ _ _ _ _ _ _ _ _ _ (.slice A5 (m1 + 1) C5) ?_ ?_ ?_
  · exact HX2.out.1.push (V' := .slice A5 (m1 + 1) C5) (by rw [← hm1]; exact HX3.out.1) HX3.out.2.1 HX3.out.2.2 HX2.out.2.1
  · exact hT.setC 0 _
  · rcases HX3.out.2.2 with e | e
    · exact .inl e
    · exact .inr fun b hb => by rw [e] at hb; cases hb; exact HX2.out.2.2.1.size

set_option maxRecDepth 100000 in
set_option maxHeartbeats 2000000 in
theorem seek_18 (W0 wr : World) (cn gf m1 C1 d n3 C3 n4 C4 : Nat) (A1 A3 A4 : Option Addr) (ms1 : List Fm) (st1 : List Fp) (s9 : Fp) (H : Hid (Cur W0 wr cn (.slice A1 m1 C1) ms1 st1 d ∧ wr.heap[gf]? = some (.cells #[.slice A3 n3 C3, .slice A4 n4 C4] WFT (0, 0)) ∧ FrOk ND W0 wr cn (Value.slice A1 m1 C1).ownBlock (.slice A3 n3 C3, .slice A4 n4 C4) s9 ∧ m1 = ms1.length)) (hm9 : m1 ≤ 2000000) (HGN : Hid ((Value.slice A1 m1 C1).ownBlock ≠ some gf)) (c : Code) (Q : Exit → Act → World → Prop) (t0 t1 t2 t3 t4 t5 t6 t7 t8 t9 t10 t12 t13 t15 t16 t17 t18 t19 t20 t21 t22 t23 t24 t25 t26 t27 t28 t29 t30 t31 t32 t33 t34 t35 t36 t37 t38 t39 t40 t41 t42 t43 t44 t45 t46 t47 t48 t49 t50 t51 t52 t53 t54 t55 t56 t57 t58 t59 t60 t61 t62 t63 t64 t65 t66 t67 t68 t69 t70 t71 t72 t73 t74 t75 t76 t77 t78 t79 t80 t81 t82 t83 t84 t85 t86 t87 t88 t89 t90 t91 t92 t93 t94 t95 t96 t97 t98 : Value)
    (hc : (Try.f19.body.bind (findR 18)) = some c)
    (hQ : ∀ (u88 u89 u90 u91 u92 u93 u94 u95 u96 u97 : Value) (wx : World), ∀ (V' : Value), Cur W0 wx cn V' (ms1 ++ [(.slice A3 n3 C3, .slice A4 n4 C4)]) (st1 ++ [s9]) d → TwoW cn (.slice A1 m1 C1) wr wx → NewW wr (.slice A1 m1 C1) V' → Q .normal { tmps := List.toArray (t0 :: t1 :: t2 :: t3 :: t4 :: t5 :: t6 :: t7 :: t8 :: t9 :: t10 :: (ptr cn) :: t12 :: t13 :: (ptr gf) :: t15 :: t16 :: t17 :: t18 :: t19 :: t20 :: t21 :: t22 :: t23 :: t24 :: t25 :: t26 :: t27 :: t28 :: t29 :: t30 :: t31 :: t32 :: t33 :: t34 :: t35 :: t36 :: t37 :: t38 :: t39 :: t40 :: t41 :: t42 :: t43 :: t44 :: t45 :: t46 :: t47 :: t48 :: t49 :: t50 :: t51 :: t52 :: t53 :: t54 :: t55 :: t56 :: t57 :: t58 :: t59 :: t60 :: t61 :: t62 :: t63 :: t64 :: t65 :: t66 :: t67 :: t68 :: t69 :: t70 :: t71 :: t72 :: t73 :: t74 :: t75 :: t76 :: t77 :: t78 :: t79 :: t80 :: t81 :: t82 :: t83 :: t84 :: t85 :: t86 :: t87 :: u88 :: u89 :: u90 :: u91 :: u92 :: u93 :: u94 :: u95 :: u96 :: u97 :: t98 :: []), defers := [] } wx) :
    c.wp Try.prog Q { tmps := List.toArray (t0 :: t1 :: t2 :: t3 :: t4 :: t5 :: t6 :: t7 :: t8 :: t9 :: t10 :: (ptr cn) :: t12 :: t13 :: (ptr gf) :: t15 :: t16 :: t17 :: t18 :: t19 :: t20 :: t21 :: t22 :: t23 :: t24 :: t25 :: t26 :: t27 :: t28 :: t29 :: t30 :: t31 :: t32 :: t33 :: t34 :: t35 :: t36 :: t37 :: t38 :: t39 :: t40 :: t41 :: t42 :: t43 :: t44 :: t45 :: t46 :: t47 :: t48 :: t49 :: t50 :: t51 :: t52 :: t53 :: t54 :: t55 :: t56 :: t57 :: t58 :: t59 :: t60 :: t61 :: t62 :: t63 :: t64 :: t65 :: t66 :: t67 :: t68 :: t69 :: t70 :: t71 :: t72 :: t73 :: t74 :: t75 :: t76 :: t77 :: t78 :: t79 :: t80 :: t81 :: t82 :: t83 :: t84 :: t85 :: t86 :: t87 :: t88 :: t89 :: t90 :: t91 :: t92 :: t93 :: t94 :: t95 :: t96 :: t97 :: t98 :: []), defers := [] } wr := by
  change some _ = some c at hc
  cases hc
  have HQF := Lib.hid hQ
  clear hQ
  have hcell : wr.cell? ⟨cn, 0, none⟩ = some (.slice A1 m1 C1) ∧ wr.cell? ⟨gf, 0, none⟩ = some (.slice A3 n3 C3) ∧ wr.cell? ⟨gf, 1, none⟩ = some (.slice A4 n4 C4) := by
    have h1 := H.out.1.cell
    have h2 := H.out.2.1
    refine ⟨?_, ?_, ?_⟩
    · simp [World.cell?, h1]
    · simp [World.cell?, h2]
    · simp [World.cell?, h2]
  have hcl : cn < wr.heap.size := heap_lt H.out.1.cell
  have HC := Lib.hid hcell
  refine wp_region_noPanic ?_
  refine wp_region_T (n := 8) (S := (fun w' : World => w'.cell? ⟨cn, 0, none⟩ = some (.slice A1 m1 C1) ∧ w'.cell? ⟨gf, 0, none⟩ = some (.slice A3 n3 C3) ∧ w'.cell? ⟨gf, 1, none⟩ = some (.slice A4 n4 C4))) (by kernel_rfl) ?_
  change wpAnyT _ _ _ _ _ _ 11 _ _ wr.drew
  have hH : (fun w' : World => w'.cell? ⟨cn, 0, none⟩ = some (.slice A1 m1 C1) ∧ w'.cell? ⟨gf, 0, none⟩ = some (.slice A3 n3 C3) ∧ w'.cell? ⟨gf, 1, none⟩ = some (.slice A4 n4 C4)) wr.drew := ⟨Ext.cell' (ext_drew (Ext.refl wr)) hcell.1, Ext.cell' (ext_drew (Ext.refl wr)) hcell.2.1, Ext.cell' (ext_drew (Ext.refl wr)) hcell.2.2⟩
  refine wpAnyT_take (i := 0) (v := ?_) rfl (by kernel_rfl) (by kernel_rfl) (by kernel_rfl) (by kernel_rfl) (fun _ _ _ h => h) (Or.inl ⟨by rfl, ?_⟩) hH ?_
  rotate_left
  · (intro w hSw; (try dsimp only at hSw); obtain ⟨s0, s1, s2⟩ := hSw; go_simp; try with_reducible rfl)
  try simp only [Act.put, List.setIfInBounds_toArray, List.set_cons_zero, List.set_cons_succ]
  refine wpAnyT_take (i := 1) (v := ?_) rfl (by kernel_rfl) (by kernel_rfl) (by kernel_rfl) (by kernel_rfl) (fun _ _ _ h => h) (Or.inl ⟨by rfl, ?_⟩) hH ?_
  rotate_left
  · (intro w hSw; (try dsimp only at hSw); obtain ⟨s0, s1, s2⟩ := hSw; go_simp; try with_reducible rfl)
  try simp only [Act.put, List.setIfInBounds_toArray, List.set_cons_zero, List.set_cons_succ]
  refine wpAnyT_take (i := 2) (v := ?_) rfl (by kernel_rfl) (by kernel_rfl) (by kernel_rfl) (by kernel_rfl) (fun _ _ _ h => h) (Or.inl ⟨by rfl, ?_⟩) hH ?_
  rotate_left
  · (intro w hSw; (try dsimp only at hSw); obtain ⟨s0, s1, s2⟩ := hSw; go_simp; try with_reducible rfl)
  try simp only [Act.put, List.setIfInBounds_toArray, List.set_cons_zero, List.set_cons_succ]
  refine wpAnyT_take (i := 3) (v := ?_) rfl (by kernel_rfl) (by kernel_rfl) (by kernel_rfl) (by kernel_rfl) (fun _ _ _ h => h) (Or.inl ⟨by rfl, ?_⟩) hH ?_
  rotate_left
  · (intro w hSw; (try dsimp only at hSw); obtain ⟨s0, s1, s2⟩ := hSw; go_simp; try with_reducible rfl)
  try simp only [Act.put, List.setIfInBounds_toArray, List.set_cons_zero, List.set_cons_succ]
  refine wpAnyT_take (i := 4) (v := ?_) rfl (by kernel_rfl) (by kernel_rfl) (by kernel_rfl) (by kernel_rfl) (fun _ _ _ h => h) (Or.inl ⟨by rfl, ?_⟩) hH ?_
  rotate_left
  · (intro w hSw; (try dsimp only at hSw); obtain ⟨s0, s1, s2⟩ := hSw; go_simp; try with_reducible rfl)
  try simp only [Act.put, List.setIfInBounds_toArray, List.set_cons_zero, List.set_cons_succ]
  refine wpAnyT_take (i := 5) (v := ?_) rfl (by kernel_rfl) (by kernel_rfl) (by kernel_rfl) (by kernel_rfl) (fun _ _ _ h => h) (Or.inl ⟨by rfl, ?_⟩) hH ?_
  rotate_left
  · (intro w hSw; (try dsimp only at hSw); obtain ⟨s0, s1, s2⟩ := hSw; go_simp; try with_reducible rfl)
  try simp only [Act.put, List.setIfInBounds_toArray, List.set_cons_zero, List.set_cons_succ]
  refine wpAnyT_all (rs := [6]) (by kernel_rfl) (by simp) ?_
  intro i9 hi9
  obtain rfl := List.mem_singleton.1 hi9
  refine wpOp_goK rfl rfl (fun K9 hK9 => ?_)
  go_simp
  have k1 : Hid (Ext wr wr.drew) := Lib.hid (ext_drew (Ext.refl wr))
  refine hK9.out _ _ ⟨.inr ⟨Ext.cell' (ext_alloc k1.out _) HC.out.1, Ext.cell' (ext_alloc k1.out _) HC.out.2.1, Ext.cell' (ext_alloc k1.out _) HC.out.2.2⟩, ?_⟩
  clear hK9 K9
  obtain ⟨x2, hx2⟩ : ∃ x2, x2 = (wr.alloc (.cells #[.slice A3 n3 C3, .slice A4 n4 C4] WFT)).drew := ⟨_, rfl⟩
  have e2 : Ext wr x2 := by rw [hx2]; exact ext_drew (ext_alloc (Ext.refl wr) _)
  have hseg : Seg x2 (some ⟨wr.heap.size, 0, none⟩) [.slice A3 n3 C3, .slice A4 n4 C4] := by rw [hx2]; exact (Seg.new wr [_, _] WFT (by simp)).below (ext_drew (Ext.refl _))
  rw [← hx2]
  have HX2 : Hid (Cur W0 x2 cn (.slice A1 m1 C1) ms1 st1 d ∧ FrOk ND W0 x2 cn (Value.slice A1 m1 C1).ownBlock (.slice A3 n3 C3, .slice A4 n4 C4) s9 ∧ Ext wr x2 ∧ Seg x2 (some ⟨wr.heap.size, 0, none⟩) [.slice A3 n3 C3, .slice A4 n4 C4]) := Lib.hid ⟨H.out.1.keep e2, H.out.2.2.1.keep e2.size (fun b hb _ _ => e2.block b hb) (.inl rfl), e2, hseg⟩
  have hrow : x2.ownsRow W0.heap.size WFT 2 (.slice A1 m1 C1) m1 (flatF ms1) := by have := HX2.out.1.row; rw [← H.out.2.2.2] at this; exact this
  have HR := Lib.hid hrow
  clear hx2 e2 hseg hrow hH
  refine wpAnyT_all (rs := [7]) (by kernel_rfl) (by simp) ?_
  intro i9 hi9
  obtain rfl := List.mem_singleton.1 hi9
  refine wpOp_goK rfl rfl (fun K9 hK9 => ?_)
  refine oper_app (.tmp 92) (.tmp 94) _ rfl W0.heap.size WFT 2 48 Try.underlying103 infoWF (by decide) (.slice A1 m1 C1) m1 (flatF ms1) rfl HR.out _ 1 1 [.slice A3 n3 C3, .slice A4 n4 C4] rfl rfl HX2.out.2.2.2 (by intro u hu; simp at hu; rcases hu with rfl | rfl <;> rfl) (by unfold maxLen; omega) (by omega) (by have := HX2.out.1.ext.size; omega) ?_
  intro V' x3 r3 g3 n9
  obtain ⟨A5, C5, rfl⟩ := own_slice r3
  have hx3 : x3.heap[cn]? = some (.cells #[.slice A1 m1 C1, .int .i64 (d : Int)] WCT (0, 0)) := (g3.block cn (heap_lt HX2.out.1.cell) (fun e => HX2.out.1.ne e.symm)).trans HX2.out.1.cell
  have hc3 : x3.cell? ⟨cn, 0, none⟩ = some (.slice A1 m1 C1) := by simp [World.cell?, hx3]
  have hf3 : ∀ j, x3.frozen? ⟨cn, j, none⟩ = false := fun j => by simp [World.frozen?, hx3]
  have hg2 : x2.heap[gf]? = some (.cells #[.slice A3 n3 C3, .slice A4 n4 C4] WFT (0, 0)) := (HX2.out.2.2.1.block gf (heap_lt H.out.2.1)).trans H.out.2.1
  have hgne : (Value.slice A1 m1 C1).ownBlock ≠ some gf := HGN.out
  have hg3 : x3.heap[gf]? = some (.cells #[.slice A3 n3 C3, .slice A4 n4 C4] WFT (0, 0)) := (g3.block gf (heap_lt hg2) (fun e => hgne e.symm)).trans hg2
  have HX3 := Lib.hid (And.intro r3 (And.intro g3 n9))
  have hcl3 : cn < x3.heap.size := heap_lt hx3
  have hS3 : x3.cell? ⟨cn, 0, none⟩ = some (.slice A1 m1 C1) ∧ x3.cell? ⟨gf, 0, none⟩ = some (.slice A3 n3 C3) ∧ x3.cell? ⟨gf, 1, none⟩ = some (.slice A4 n4 C4) := ⟨hc3, by simp [World.cell?, hg3], by simp [World.cell?, hg3]⟩
  clear r3 g3 n9 hx3 hg2 hgne hg3
  refine hK9.out _ _ ⟨.inr hS3, ?_⟩
  clear hK9 K9 hS3
  try simp only [Act.put, List.setIfInBounds_toArray, List.set_cons_zero, List.set_cons_succ]
  refine wpAnyT_tail 8 (Nat.le_refl _) rfl (by kernel_rfl) ?_
  simp only [List.drop_succ_cons, List.drop_zero]
  repeat' go_step
  refine NoPanic.normal ?_
  have hm1 := H.out.2.2.2
  have hT : TwoW cn (.slice A1 m1 C1) wr x3 := by
    have h1 : TwoW cn (.slice A1 m1 C1) x2 x3 := (Only.of_grown HX3.out.2.1).mono fun i _ e => .inr e
    exact Only.trans (Only.of_ext HX2.out.2.2.1) h1
  refine HQF.out _ _ _ _ _ _ _ _ _ _ _ (.slice A5 (m1 + 1) C5) ?_ ?_ ?_
  · exact HX2.out.1.push (V' := .slice A5 (m1 + 1) C5) (by rw [← hm1]; exact HX3.out.1) HX3.out.2.1 HX3.out.2.2 HX2.out.2.1
  · exact hT.setC 0 _
  · rcases HX3.out.2.2 with e | e
    · exact .inl e
    · exact .inr fun b hb => by rw [e] at hb; cases hb; exact HX2.out.2.2.1.size

end Go.Proofs.Ytkfiinmoecibcaa
/- walk.Seek: a frame is cut to what lies behind a kid: its region as a law of its own. -/
namespace Go.Proofs.Ytkfiinmoecibcaa
open Go.RowKit Go.QS Go.QS.Nk
set_option linter.unusedVariables false

set_option maxRecDepth 100000 in
set_option maxHeartbeats 2000000 in
theorem seek_17 (wr : World) (g gf i nk Ck r : Nat) (v3 : Value) (Ak A2 : Option Addr) (sl : List (Slot Nat)) (H : Hid (In ND wr g sl ∧ wr.heap[gf]? = some (.cells #[v3, .slice Ak nk Ck] WFT (0, 0)) ∧ r = rkK sl i ∧ g ≠ gf)) (hi : i < 32) (hr : r + 1 ≤ nk) (hnk : nk ≤ Ck) (hr9 : r ≤ 32)
    (hrun0 : ∀ w, (Instr.slice 99 (.slice Ak nk Ck) (some (.int .i64 ((r + 1 : Nat) : Int))) none none).run Try.prog w = .ok (.slice A2 (nk - (r + 1)) (Ck - (r + 1))) w) (c : Code) (Q : Exit → Act → World → Prop) (t0 t1 t2 t3 t4 t5 t6 t7 t8 t9 t10 t11 t13 t16 t17 t18 t19 t20 t21 t22 t23 t24 t25 t26 t27 t28 t29 t30 t31 t32 t33 t34 t35 t36 t37 t38 t39 t40 t41 t42 t43 t44 t45 t46 t47 t48 t49 t50 t51 t52 t53 t54 t55 t56 t57 t58 t59 t60 t61 t62 t63 t64 t65 t66 t67 t68 t69 t70 t71 t72 t73 t74 t75 t76 t77 t78 t79 t80 t81 t82 t83 t84 t85 t86 t87 t88 t89 t90 t91 t92 t93 t94 t95 t96 t97 t98 : Value)
    (hc : (Try.f19.body.bind (findR 17)) = some c)
    (hQ : ∀ (u78 u79 u80 u81 u82 u83 u84 u85 u86 u87 : Value) (wx : World), wx.heap[gf]? = some (.cells #[.slice none 0 0, .slice A2 (nk - (r + 1)) (Ck - (r + 1))] WFT (0, 0)) ∧ Only (fun k => k = gf) wr wx → Q .normal { tmps := List.toArray (t0 :: t1 :: t2 :: t3 :: t4 :: t5 :: t6 :: t7 :: t8 :: t9 :: t10 :: t11 :: (ptr g) :: t13 :: (ptr gf) :: (.int .i64 i) :: t16 :: t17 :: t18 :: t19 :: t20 :: t21 :: t22 :: t23 :: t24 :: t25 :: t26 :: t27 :: t28 :: t29 :: t30 :: t31 :: t32 :: t33 :: t34 :: t35 :: t36 :: t37 :: t38 :: t39 :: t40 :: t41 :: t42 :: t43 :: t44 :: t45 :: t46 :: t47 :: t48 :: t49 :: t50 :: t51 :: t52 :: t53 :: t54 :: t55 :: t56 :: t57 :: t58 :: t59 :: t60 :: t61 :: t62 :: t63 :: t64 :: t65 :: t66 :: t67 :: t68 :: t69 :: t70 :: t71 :: t72 :: t73 :: t74 :: t75 :: t76 :: t77 :: u78 :: u79 :: u80 :: u81 :: u82 :: u83 :: u84 :: u85 :: u86 :: u87 :: t88 :: t89 :: t90 :: t91 :: t92 :: t93 :: t94 :: t95 :: t96 :: t97 :: t98 :: []), defers := [] } wx) :
    c.wp Try.prog Q { tmps := List.toArray (t0 :: t1 :: t2 :: t3 :: t4 :: t5 :: t6 :: t7 :: t8 :: t9 :: t10 :: t11 :: (ptr g) :: t13 :: (ptr gf) :: (.int .i64 i) :: t16 :: t17 :: t18 :: t19 :: t20 :: t21 :: t22 :: t23 :: t24 :: t25 :: t26 :: t27 :: t28 :: t29 :: t30 :: t31 :: t32 :: t33 :: t34 :: t35 :: t36 :: t37 :: t38 :: t39 :: t40 :: t41 :: t42 :: t43 :: t44 :: t45 :: t46 :: t47 :: t48 :: t49 :: t50 :: t51 :: t52 :: t53 :: t54 :: t55 :: t56 :: t57 :: t58 :: t59 :: t60 :: t61 :: t62 :: t63 :: t64 :: t65 :: t66 :: t67 :: t68 :: t69 :: t70 :: t71 :: t72 :: t73 :: t74 :: t75 :: t76 :: t77 :: t78 :: t79 :: t80 :: t81 :: t82 :: t83 :: t84 :: t85 :: t86 :: t87 :: t88 :: t89 :: t90 :: t91 :: t92 :: t93 :: t94 :: t95 :: t96 :: t97 :: t98 :: []), defers := [] } wr := by
  change some _ = some c at hc
  cases hc
  have HQF := Lib.hid hQ
  clear hQ
  have hcell : wr.cell? ⟨gf, 1, none⟩ = some (.slice Ak nk Ck) := by have := H.out.2.1; simp [World.cell?, this]
  have hfz : ∀ j, wr.frozen? ⟨gf, j, none⟩ = false := fun j => by have := H.out.2.1; simp [World.frozen?, this]
  have hgl : gf < wr.heap.size := heap_lt H.out.2.1
  obtain ⟨n, hn⟩ : ∃ n, n = nodesOf sl := ⟨_, rfl⟩
  have hn9 : n < 4294967296 := by rw [hn]; exact (in_sizes H.out.1).2
  have hrk : rnk n i = r := by rw [hn, H.out.2.2.1]; exact rk_nodes (by rw [H.out.1.1]; decide) i
  have hnc : wr.cell? ⟨g, 1, none⟩ = some (.int .u32 n) := by
    obtain ⟨_, ow, pv, kv, nd⟩ := H.out.1
    rw [hn]; exact nd.node.cells.2.1
  have hwr : IntKind.i64.wrap ((r : Int) + 1) = (r : Int) + 1 := by rw [IntKind.wrap_i64]; omega
  have hrun : ∀ w, (Instr.slice 99 (.slice Ak nk Ck) (some (.int .i64 ((r : Int) + 1))) none none).run Try.prog w = .ok (.slice A2 (nk - (r + 1)) (Ck - (r + 1))) w := hrun0
  have HF := Lib.hid (And.intro hnc (And.intro hcell (And.intro hfz hrk)))
  clear hn hnc hrun0
  have hne : g ≠ gf := H.out.2.2.2
  have HND : Hid (∀ W, Only (fun k => k = gf) wr W → Calls Try.prog 50 #[ptr g] W fun e w' => e = .returned (.int .u32 (n : Int)) ∧ W = w') := Lib.hid (fun W hW => nodes_c W g n (hW.cell HF.out.1 hne))
  refine wp_region_noPanic ?_
  refine wp_region_T (n := 11) (S := (fun w' : World => w'.cell? ⟨gf, 1, none⟩ = some (.slice Ak nk Ck))) (by kernel_rfl) ?_
  change wpAnyT _ _ _ _ _ _ 12 _ _ wr.drew
  have hH : (fun w' : World => w'.cell? ⟨gf, 1, none⟩ = some (.slice Ak nk Ck)) wr.drew := Ext.cell' (ext_drew (Ext.refl wr)) HF.out.2.1
  refine wpAnyT_take (i := 0) (v := ?_) rfl (by kernel_rfl) (by kernel_rfl) (by kernel_rfl) (by kernel_rfl) (fun _ _ _ h => h) (Or.inl ⟨by rfl, ?_⟩) hH ?_
  rotate_left
  · (intro w hSw; (try dsimp only at hSw); go_simp; try with_reducible rfl)
  try simp only [Act.put, List.setIfInBounds_toArray, List.set_cons_zero, List.set_cons_succ]
  refine wpAnyT_take (i := 1) (v := ?_) rfl (by kernel_rfl) (by kernel_rfl) (by kernel_rfl) (by kernel_rfl) (fun _ _ _ h => h) (Or.inl ⟨by rfl, ?_⟩) hH ?_
  rotate_left
  · (intro w hSw; (try dsimp only at hSw); go_simp; try with_reducible rfl)
  try simp only [Act.put, List.setIfInBounds_toArray, List.set_cons_zero, List.set_cons_succ]
  refine wpAnyT_take (i := 2) (v := ?_) rfl (by kernel_rfl) (by kernel_rfl) (by kernel_rfl) (by kernel_rfl) (fun _ _ _ h => h) (Or.inl ⟨by rfl, ?_⟩) hH ?_
  rotate_left
  · (intro w hSw; (try dsimp only at hSw); go_simp; try with_reducible rfl)
  try simp only [Act.put, List.setIfInBounds_toArray, List.set_cons_zero, List.set_cons_succ]
  refine wpAnyT_take (i := 4) (v := ?_) rfl (by kernel_rfl) (by kernel_rfl) (by kernel_rfl) (by kernel_rfl) (fun _ _ _ h => h) (Or.inl ⟨by rfl, ?_⟩) hH ?_
  rotate_left
  · (intro w hSw; (try dsimp only at hSw); go_simp; try with_reducible rfl)
  try simp only [Act.put, List.setIfInBounds_toArray, List.set_cons_zero, List.set_cons_succ]
  refine wpAnyT_take (i := 8) (v := ?_) rfl (by kernel_rfl) (by kernel_rfl) (by kernel_rfl) (by kernel_rfl) (fun _ _ _ h => h) (Or.inl ⟨by rfl, ?_⟩) hH ?_
  rotate_left
  · (intro w hSw; (try dsimp only at hSw); go_simp; try with_reducible rfl)
  try simp only [Act.put, List.setIfInBounds_toArray, List.set_cons_zero, List.set_cons_succ]
  refine wpAnyT_all (rs := [3]) (by kernel_rfl) (by simp) ?_
  intro i9 hi9
  obtain rfl := List.mem_singleton.1 hi9
  refine wpOp_goK rfl rfl (fun K9 hK9 => ?_)
  go_simp
  refine (HND.out _ (Only.drew (Only.refl _))).mono ?_
  rintro e x1 ⟨rfl, rfl⟩
  go_simp
  refine hK9.out _ _ ⟨.inr hH, ?_⟩
  clear hK9 K9
  refine wpAnyT_all (rs := [5]) (by kernel_rfl) (by simp) ?_
  intro i9 hi9
  obtain rfl := List.mem_singleton.1 hi9
  refine wpOp_goK rfl rfl (fun K9 hK9 => ?_)
  go_simp
  refine (rank_c _ n i hn9 hi).mono ?_
  rintro e x2 ⟨rfl, f2⟩
  rw [HF.out.2.2.2]
  have k2 : Hid (Ext wr x2) := Lib.hid (Ext.trans (ext_drew (Ext.refl wr)) f2)
  have hH2 : (fun w' : World => w'.cell? ⟨gf, 1, none⟩ = some (.slice Ak nk Ck)) x2 := Ext.cell' k2.out HF.out.2.1
  go_simp
  refine hK9.out _ _ ⟨.inr hH2, ?_⟩
  clear hK9 K9 hH f2
  have hH := hH2
  refine wpAnyT_take (i := 6) (v := ?_) rfl (by kernel_rfl) (by kernel_rfl) (by kernel_rfl) (by kernel_rfl) (fun _ _ _ h => h) (Or.inl ⟨by rfl, ?_⟩) hH ?_
  rotate_left
  · (intro w hSw; (try dsimp only at hSw); go_simp; try with_reducible rfl)
  try simp only [Act.put, List.setIfInBounds_toArray, List.set_cons_zero, List.set_cons_succ]
  refine wpAnyT_take (i := 7) (v := ?_) rfl (by kernel_rfl) (by kernel_rfl) (by kernel_rfl) (by kernel_rfl) (fun _ _ _ h => h) (Or.inl ⟨by rfl, ?_⟩) hH ?_
  rotate_left
  · (intro w hSw; (try dsimp only at hSw); go_simp; try with_reducible rfl)
  try simp only [Act.put, List.setIfInBounds_toArray, List.set_cons_zero, List.set_cons_succ]
  refine wpAnyT_all (rs := [9]) (by kernel_rfl) (by simp) ?_
  intro i9 hi9
  obtain rfl := List.mem_singleton.1 hi9
  refine wpOp_goK rfl rfl (fun K9 hK9 => ?_)
  have hgl2 : gf < x2.heap.size := by have := k2.out.size; omega
  have hgx : x2.heap[gf]? = some (.cells #[v3, .slice Ak nk Ck] WFT (0, 0)) := (k2.out.block gf hgl).trans H.out.2.1
  have hc0 : x2.cell? ⟨gf, 0, none⟩ = some v3 := by simp [World.cell?, hgx]
  have hf0 : ∀ j, x2.frozen? ⟨gf, j, none⟩ = false := fun j => by simp [World.frozen?, hgx]
  go_simp
  have hH3 : (fun w' : World => w'.cell? ⟨gf, 1, none⟩ = some (.slice Ak nk Ck)) (x2.setCell ⟨gf, 0, none⟩ (.slice none 0 0)) := by
    have := heap_set hgx 0 (.slice none 0 0)
    simp [World.cell?, this]
  refine hK9.out _ _ ⟨.inr hH3, ?_⟩
  clear hK9 K9
  refine wpAnyT_take (i := 10) (v := ?_) rfl (by kernel_rfl) (by kernel_rfl) (by kernel_rfl) (by kernel_rfl) (fun _ _ _ h => h) (Or.inl ⟨by rfl, ?_⟩) hH3 ?_
  rotate_left
  · (intro w hSw; (try dsimp only at hSw); go_simp; try with_reducible rfl)
  try simp only [Act.put, List.setIfInBounds_toArray, List.set_cons_zero, List.set_cons_succ]
  refine wpAnyT_tail 11 (Nat.le_refl _) rfl (by kernel_rfl) ?_
  simp only [List.drop_succ_cons, List.drop_zero]
  have hb3 := heap_set hgx 0 (.slice none 0 0)
  have hc3 : (x2.setCell ⟨gf, 0, none⟩ (.slice none 0 0)).cell? ⟨gf, 1, none⟩ = some (.slice Ak nk Ck) := hH3
  have hf3 : (x2.setCell ⟨gf, 0, none⟩ (.slice none 0 0)).frozen? ⟨gf, 1, none⟩ = false := by simp [World.frozen?, hb3]
  repeat' go_step
  refine NoPanic.normal ?_
  refine HQF.out _ _ _ _ _ _ _ _ _ _ _ ⟨?_, ?_⟩
  · exact heap_set hb3 1 _
  · exact Only.setCell (S := fun k => k = gf) (p := ⟨gf, 1, none⟩) (Only.setCell (S := fun k => k = gf) (p := ⟨gf, 0, none⟩) (Only.of_ext k2.out) (.inl rfl) _) (.inl rfl) _

end Go.Proofs.Ytkfiinmoecibcaa
/- walk.Seek: where a key lies at a node: plain, and by Kid. -/
namespace Go.QS
open Go.RowKit Go.QS.Nk

theorem ones_in {H : List UInt8 → Nat} {lv i : Nat} {l : List Pr} {p : Pr} (hp : p ∈ ones ((parts H lv l).take i)) (hi : i ≤ 32) : ∃ c, c < i ∧ chk (H p.1) lv = c := by
  obtain ⟨x, hx, ho⟩ := List.mem_filterMap.1 hp
  obtain ⟨c, hc⟩ := List.mem_iff_getElem?.1 hx
  have hci : c < i := by
    have := (List.getElem?_eq_some_iff.1 hc).1
    rw [List.length_take] at this
    omega
  rw [List.getElem?_take_of_lt hci, parts_get H lv l (by omega)] at hc
  cases hc
  refine ⟨c, hci, ?_⟩
  have hm : p ∈ part H lv c l := by
    revert ho
    generalize part H lv c l = y
    intro ho
    match y, ho with
    | [q], h => cases h; exact List.mem_singleton.2 rfl
  exact (mem_part.1 hm).2
theorem tr_mid {T : TypeId} {H : List UInt8 → Nat} {w : World} {f : Nat} {l : List Pr} {sl : List (Slot Nat)} (h32 : sl.length = 32) (hs : ∀ c s, sl[c]? = some s → SlotOk (TR T H w f) s (part H (12 - f) c l)) {key v : List UInt8} (hm : (key, v) ∈ l) :
    ∃ s, sl[chk (H key) (12 - f)]? = some s ∧
      ((s.isK = false ∧ ∃ P1 P2, (trieOf H (f + 1) l).ps = P1 ++ (key, v) :: P2 ∧ ∀ p ∈ P1, p.1 ≠ key) ∨
       ∃ k A B, s = .kid k ∧ TR T H w f k (part H (12 - f) (chk (H key) (12 - f)) l) ∧ (trieOf H (f + 1) l).ks = A ++ trieOf H f (part H (12 - f) (chk (H key) (12 - f)) l) :: B ∧ A.length = rkK sl (chk (H key) (12 - f))) := by
  obtain ⟨i, hi⟩ : ∃ i, i = chk (H key) (12 - f) := ⟨_, rfl⟩
  have hi32 : i < 32 := by rw [hi]; exact chk_lt _ _
  obtain ⟨s, hsl⟩ := get_of_lt sl (show i < sl.length by omega)
  have hok := hs i s hsl
  have hpg := parts_get H (12 - f) l hi32
  have hmX : (key, v) ∈ part H (12 - f) i l := mem_part.2 ⟨hm, hi.symm⟩
  have hcut : parts H (12 - f) l = (parts H (12 - f) l).take i ++ part H (12 - f) i l :: (parts H (12 - f) l).drop (i + 1) := by
    obtain ⟨hl, he⟩ := List.getElem?_eq_some_iff.1 hpg
    rw [← he]; simp
  have hlen := parts_length H (12 - f) l
  have hT := (slots_parts (R := TR T H w f) (sl.take i) ((parts H (12 - f) l).take i) (by rw [List.length_take, List.length_take, h32, hlen]) (fun j s' x a b => by
    have hj : j < i := by have := (List.getElem?_eq_some_iff.1 a).1; rw [List.length_take] at this; omega
    rw [List.getElem?_take_of_lt hj] at a b
    rw [parts_get H _ l (by omega)] at b
    cases b
    exact hs j s' a)).2.1
  rw [← hi]
  refine ⟨s, hsl, ?_⟩
  cases s with
  | no => rw [show part H (12 - f) i l = [] from hok] at hmX; cases hmX
  | pr p =>
    have e : part H (12 - f) i l = [p] := hok
    rw [e] at hmX hcut
    obtain rfl := List.mem_singleton.1 hmX
    refine .inl ⟨rfl, ones ((parts H (12 - f) l).take i), ones ((parts H (12 - f) l).drop (i + 1)), ?_, fun q hq h => ?_⟩
    · show ones (parts H (12 - f) l) = _
      conv => lhs; rw [hcut]
      simp only [ones, List.filterMap_append]
      rfl
    · obtain ⟨c, hc, he⟩ := ones_in hq (by omega)
      rw [h, ← hi] at he
      omega
  | kid k =>
    have e : 2 ≤ (part H (12 - f) i l).length ∧ TR T H w f k (part H (12 - f) i l) := hok
    refine .inr ⟨k, (twos ((parts H (12 - f) l).take i)).map (trieOf H f), (twos ((parts H (12 - f) l).drop (i + 1))).map (trieOf H f), rfl, e.2, ?_, ?_⟩
    · show (twos (parts H (12 - f) l)).map (trieOf H f) = _
      conv => lhs; rw [hcut]
      simp only [twos, List.filter_append, List.map_append]
      rw [List.filter_cons, if_pos (by simpa using e.1), List.map_cons]
    · rw [List.length_map, ← hT]; rfl
theorem bk_mid : ∀ {l : List Pr} {key v : List UInt8}, (key, v) ∈ l → Rise l → ∃ P1 P2, l = P1 ++ (key, v) :: P2 ∧ ∀ p ∈ P1, p.1 ≠ key := by
  intro l key v hm hr
  obtain ⟨A, B, rfl⟩ := List.append_of_mem hm
  refine ⟨A, B, rfl, fun p hp h => ?_⟩
  have := (List.pairwise_append.1 hr).2.2 p hp (key, v) (List.mem_cons_self ..)
  rw [h] at this
  exact absurd this (by simp [Rise] at this ⊢)

/-! ### What is still to come, behind a key -/
theorem walk_end {t : WT} {P1 P2 : List Pr} {p : Pr} (h : t.ps = P1 ++ p :: P2) (st : List Fp) :
    walkT t (st.length + 1) ++ comB st 1 = P1.map (fun q => (q, st.length + 1)) ++ (p, st.length + 1) :: comB (st ++ [(P2, t.ks)]) 1 := by
  rw [walkT_eq, comB_snoc, h, Nat.add_comm 1 st.length]
  simp
theorem walk_kid {t u : WT} {A B : List WT} (h : t.ks = A ++ u :: B) (st : List Fp) :
    walkT t (st.length + 1) ++ comB st 1 = (t.ps.map (fun q => (q, st.length + 1)) ++ walkL A (st.length + 1 + 1)) ++ (walkT u ((st ++ [(([] : List Pr), B)]).length + 1) ++ comB (st ++ [([], B)]) 1) := by
  rw [walkT_eq, comB_snoc, h, Nat.add_comm 1 st.length, walkL_append, walkL_cons, List.length_append]
  simp
theorem wt_kid {t u : WT} {A B : List WT} (h : t.ks = A ++ u :: B) (st : List Fp) : wtB ((st ++ [(([] : List Pr), B)]) ++ [(u.ps, u.ks)]) ≤ wtB (st ++ [(t.ps, t.ks)]) := by
  rw [wtB_snoc, wtB_snoc, wtB_snoc, h, cntL_append, cntL_cons, cntT_eq]; simp only; omega
theorem wt_end (t : WT) (P2 : List Pr) (st : List Fp) : wtB (st ++ [(P2, t.ks)]) = wtB (st ++ [(t.ps, t.ks)]) := by
  rw [wtB_snoc, wtB_snoc]
end Go.QS
namespace Go.Proofs.Ytkfiinmoecibcaa
open Go.RowKit Go.QS Go.QS.Nk
set_option linter.unusedVariables false

set_option maxRecDepth 100000 in
theorem at_13 (w : World) (x : Nat) :
    Calls Try.prog 46 #[.int .u64 x, .int .i64 13] w fun e w' => e = .returned (.int .i64 0) ∧ w = w' := by
  go_enter Try.func46, Try.ntmps46
  repeat' (go_not_at_region 3; (first | go_skip | go_guarded | go_step))
  repeat' (first | go_skip | go_guarded | go_step)
  go_ret
  exact ⟨rfl, rfl⟩
theorem seek_at {H : List UInt8 → Nat} {w : World} {f g : Nat} {l : List Pr} {key v : List UInt8} (hT : TR ND H w f g l) (hr : Rise l) (hm : (key, v) ∈ l) (hf : f ≤ 13) (hx : H key < 18446744073709551616) :
    ∃ i : Nat, i < 32 ∧ (∀ W, Calls Try.prog 46 #[.int .u64 (H key : Int), .int .i64 ((13 - f : Nat) : Int)] W fun e w' => e = .returned (.int .i64 (i : Int)) ∧ W = w') ∧
      (((∀ W, Ext w W → Calls Try.prog 47 #[ptr g, .int .i64 (i : Int)] W fun e w' => e = .returned (.tuple #[.pointer none, .bool false]) ∧ Ext W w') ∧ ∃ P1 P2, (trieOf H f l).ps = P1 ++ (key, v) :: P2 ∧ ∀ p ∈ P1, p.1 ≠ key) ∨
       ∃ f' k X A B sl, f = f' + 1 ∧ (∀ W, Ext w W → Calls Try.prog 47 #[ptr g, .int .i64 (i : Int)] W fun e w' => e = .returned (.tuple #[ptr k, .bool true]) ∧ Ext W w') ∧ In ND w g sl ∧ TR ND H w f' k X ∧ Rise X ∧ (key, v) ∈ X ∧ X.length ≤ l.length ∧ (trieOf H f l).ks = A ++ trieOf H f' X :: B ∧ A.length = rkK sl i) := by
  cases f with
  | zero =>
    obtain ⟨ow, pv, kv, nd⟩ := hT
    obtain ⟨P1, P2, h1, h2⟩ := bk_mid hm hr
    have hnc := nd.node.cells.2.1
    refine ⟨0, by decide, fun W => at_13 W _, .inl ⟨fun W f => kid_noD W (ptr g) 0 0 (Lib.hid fun w' k => nodes_c w' g 0 ((k.cell (World.block_lt_of_cell? W _ ((f.cell (World.block_lt_of_cell? w _ hnc)).trans hnc))).trans ((f.cell (World.block_lt_of_cell? w _ hnc)).trans hnc))) (Lib.hid fun w' k => has_zero w' 0), P1, P2, h1, h2⟩⟩
  | succ f =>
    obtain ⟨sl, hN, hs⟩ := hT
    obtain ⟨s, hsl, hc⟩ := tr_mid hN.1 hs hm
    refine ⟨chk (H key) (12 - f), chk_lt _ _, fun W => by rw [show 13 - (f + 1) = 12 - f by omega]; exact at_c W (H key) (12 - f) hx (by omega), ?_⟩
    rcases hc with ⟨h1, h2⟩ | ⟨k, A, B, rfl, hR, hk, hA⟩
    · exact .inl ⟨fun W f => kid_no W g _ sl s (hN.ext f) hsl h1, h2⟩
    · exact .inr ⟨f, k, _, A, B, sl, rfl, fun W f => kid_yes W g _ sl k (hN.ext f) hsl, hN, hR, part_rise hr, mem_part.2 ⟨hm, rfl⟩, part_length, hk, hA⟩
end Go.Proofs.Ytkfiinmoecibcaa
