/- RadixRaw's words: nodes and the document's trees, one by one the same; slices cut; the list of what is built, opened. -/
import Derived.Test.YtmpeniboccahdaaJb
import Derived.Test.YtmpeniboccahdaaJc
import Derived.Test.YtmpeniboccahdaaVr
import Derived.Test.YtmpeniboccahdaaVl
import Derived.Test.YtmpeniboccahdaaMb
namespace Go.QS
open Go.RowKit

theorem run_fromB {P : Program} {t e : TypeId} {size bytes : Nat} (ht : P.underlying t = some (.slice e)) (hi : ∃ i z, P.info? e = some i ∧ i.zero = some z ∧ i.size = size ∧ i.bytes = bytes ∧ z.cells.size = size) (A : Option Addr) {n c i : Nat} (hin : i ≤ n) (hnc : n ≤ c) :
    ∃ A2, (∀ w, (Instr.slice t (.slice A n c) (some (.int .i64 (i : Int))) none none).run P w = .ok (.slice A2 (n - i) (c - i)) w) ∧
      ∀ (w : World) (xs : List Value), xs.length = n * size → Seg w A xs → Seg w A2 (xs.drop (i * size)) := by
  obtain ⟨inf, z, hi, hz, hs, hb, hzs⟩ := hi
  refine ⟨if c = i then A else A.map (·.add (i * size)), fun w => ?_, fun w xs hl hs => ?_⟩
  · have h1 : (0 : Int) ≤ (i : Int) := by omega
    have h2 : (i : Int) ≤ (n : Int) := by omega
    simp [Instr.slice, Instr.sliceBounds, Instr.sliceBound, asIntOf, run_underlying ht, sizeOf, typeInfo, hi, hs, hin]
  · by_cases h : c = i
    · have : xs.drop (i * size) = [] := List.drop_eq_nil_of_le (by rw [hl]; exact Nat.mul_le_mul_right _ (by omega))
      rw [this]; exact Seg.nil _ _
    · rw [if_neg h]
      intro hne
      obtain ⟨b, o, hA, hc⟩ := hs (fun e => hne (by simp [e]))
      subst hA
      have := Seg.drop (w := w) (b := b) (o := o) hs (i * size)
      obtain ⟨b', o', hA', hc'⟩ := this hne
      cases hA'
      exact ⟨b, o + i * size, by simp [Addr.add_lit], hc'⟩
/-- s[:k:k]. -/
theorem run_toB {P : Program} {t e : TypeId} {size bytes : Nat} (ht : P.underlying t = some (.slice e)) (hi : ∃ i z, P.info? e = some i ∧ i.zero = some z ∧ i.size = size ∧ i.bytes = bytes ∧ z.cells.size = size) (A : Option Addr) {n c i : Nat} (hin : i ≤ n) (hnc : n ≤ c) :
    ∃ A2, (∀ w, (Instr.slice t (.slice A n c) none (some (.int .i64 (i : Int))) (some (.int .i64 (i : Int)))).run P w = .ok (.slice A2 i i) w) ∧
      ∀ (w : World) (xs : List Value), xs.length = n * size → Seg w A xs → Seg w A2 (xs.take (i * size)) := by
  obtain ⟨inf, z, hi, hz, hs, hb, hzs⟩ := hi
  refine ⟨A, fun w => ?_, fun w xs hl hs => hs.take _⟩
  have h1 : (0 : Int) ≤ (i : Int) := by omega
  have h2 : (i : Int) ≤ (n : Int) := by omega
  have h3 : (i : Int) ≤ (c : Int) := by omega
  have h4 : i ≤ c := by omega
  simp [Instr.slice, Instr.sliceBounds, Instr.sliceBound, asIntOf, run_underlying ht, sizeOf, typeInfo, hi, hs, hin, h4]
  intro _
  cases A <;> simp [Addr.add]
end Go.QS
namespace Go.Proofs.Ytmpeniboccahdaa
open Go.RowKit Go.QS Go.ChangeShapes Go.WideShapes Go.ChangeAt Go.Deep
set_option linter.unusedVariables false

structure Raws (W w : World) (v3 v4 : Value) (gs qs : List Nat) (ts : List RT) : Prop where
  ext : Ext W w
  nodes : Sl w 1 v3 gs.length (ptrs gs)
  trees : Sl w 1 v4 qs.length (ptrs qs)
  rep : Reps NT w gs ts
  doc : RepsS DT DP (fun _ => True) w qs ts
  good : ∀ t ∈ ts, Gd t
theorem Raws.ext' {W w w' : World} {v3 v4 : Value} {gs qs : List Nat} {ts : List RT} (h : Raws W w v3 v4 gs qs ts) (f : Ext w w') : Raws W w' v3 v4 gs qs ts :=
  ⟨h.ext.trans f, h.nodes.below f, h.trees.below f, h.rep.ext f, h.doc.ext f, h.good⟩
theorem Raws.nil (w : World) : Raws w w (.slice none 0 0) (.slice none 0 0) [] [] [] :=
  ⟨Ext.refl _, Sl.nil _ _, Sl.nil _ _, Reps.nil _ _, RepsS.nil, fun t h => by cases h⟩
theorem reps_drop {T : TypeId} {w : World} {ps : List Nat} {ks : List RT} (h : Reps T w ps ks) (i : Nat) : Reps T w (ps.drop i) (ks.drop i) :=
  ⟨by simp [h.1], fun j p k h1 h2 => h.2 (i + j) p k (by rw [← List.getElem?_drop]; exact h1) (by rw [← List.getElem?_drop]; exact h2)⟩
theorem reps_take {T : TypeId} {w : World} {ps : List Nat} {ks : List RT} (h : Reps T w ps ks) (i : Nat) : Reps T w (ps.take i) (ks.take i) := by
  refine ⟨by simp [h.1], fun j p k h1 h2 => ?_⟩
  rw [List.getElem?_take] at h1 h2
  split at h1
  · rename_i hj
    rw [if_pos hj] at h2
    exact h.2 j p k h1 h2
  · cases h1
theorem reps_snoc {T : TypeId} {w : World} {ps : List Nat} {ks : List RT} {p : Nat} {k : RT} (h : Reps T w ps ks) (hp : Rep T w p k) : Reps T w (ps ++ [p]) (ks ++ [k]) := by
  refine ⟨by simp [h.1], fun j q t h1 h2 => ?_⟩
  rcases Nat.lt_or_ge j ps.length with hj | hj
  · rw [List.getElem?_append_left hj] at h1
    rw [List.getElem?_append_left (by rw [← h.1]; exact hj)] at h2
    exact h.2 j q t h1 h2
  · rw [List.getElem?_append_right hj] at h1
    rw [List.getElem?_append_right (by rw [← h.1]; exact hj)] at h2
    have e : j - ps.length = 0 := by have := (List.getElem?_eq_some_iff.1 h1).1; simpa using this
    rw [e] at h1
    rw [show j - ks.length = 0 by rw [← h.1]; exact e] at h2
    cases h1; cases h2
    exact hp
theorem repsS_drop {T TP : TypeId} {S : Nat → Prop} {w : World} {ps : List Nat} {ks : List RT} (h : RepsS T TP S w ps ks) (i : Nat) : RepsS T TP S w (ps.drop i) (ks.drop i) :=
  ⟨by simp [h.1], fun j p k h1 h2 => h.2 (i + j) p k (by rw [← List.getElem?_drop]; exact h1) (by rw [← List.getElem?_drop]; exact h2)⟩
theorem repsS_take {T TP : TypeId} {S : Nat → Prop} {w : World} {ps : List Nat} {ks : List RT} (h : RepsS T TP S w ps ks) (i : Nat) : RepsS T TP S w (ps.take i) (ks.take i) := by
  refine ⟨by simp [h.1], fun j p k h1 h2 => ?_⟩
  rw [List.getElem?_take] at h1 h2
  split at h1
  · rename_i hj
    rw [if_pos hj] at h2
    exact h.2 j p k h1 h2
  · cases h1

/-- What is built. -/
structure Rw where
  do_ : UInt8
  lab : List UInt8
  has : Bool
  val : List UInt8
  n : UInt8
instance : Inhabited Rw := ⟨⟨0, [], false, [], 0⟩⟩
def encR (a : Rw) : List Value := [.int .u8 a.do_.toNat, str a.lab, .bool a.has, str a.val, .int .u8 a.n.toNat]
theorem encR_len (a : Rw) : (encR a).length = 5 := rfl
theorem seg_raw {w : World} {A : Option Addr} {l : List Rw} (hs : Seg w A (flatE encR l)) {i : Nat} {a : Rw} (h : l[i]? = some a) :
    ∃ b o, A = some ⟨b, o, none⟩ ∧ w.cell? ⟨b, o + i * 5, none⟩ = some (.int .u8 a.do_.toNat) ∧ w.cell? ⟨b, o + i * 5 + 1, none⟩ = some (str a.lab) ∧ w.cell? ⟨b, o + i * 5 + 2, none⟩ = some (.bool a.has) ∧ w.cell? ⟨b, o + i * 5 + 3, none⟩ = some (str a.val) ∧ w.cell? ⟨b, o + i * 5 + 4, none⟩ = some (.int .u8 a.n.toNat) := by
  obtain ⟨b, o, hA, hq⟩ := seg_el encR_len (by decide) hs h
  refine ⟨b, o, hA, hq 0 _ rfl, ?_, ?_, ?_, ?_⟩
  · rw [Nat.add_assoc]; exact hq 1 _ rfl
  · rw [Nat.add_assoc]; exact hq 2 _ rfl
  · rw [Nat.add_assoc]; exact hq 3 _ rfl
  · rw [Nat.add_assoc]; exact hq 4 _ rfl
variable {H : Type} {enc : TypeId × Value → H} {P : Program} {w : World} {base : Nat} {spare : Nat → Bool} {held : Bool}
theorem trod_struct5 {t : TypeId} {f0 f1 f2 f3 f4 : Field} {fuel : Nat} {cs : List Value} {x : DataW H × List MemPlace} (ht : P.underlying t = some (.struct #[f0, f1, f2, f3, f4])) (h : DataW.trod enc P w base spare held fuel t cs = some x) :
    ∃ y0 y1 y2 y3 y4 n, DataW.trod enc P w base spare held n f0.type ((cs.drop f0.offset).take (P.cellsOf f0.type)) = some y0 ∧
      DataW.trod enc P w base spare held n f1.type ((cs.drop f1.offset).take (P.cellsOf f1.type)) = some y1 ∧ DataW.trod enc P w base spare held n f2.type ((cs.drop f2.offset).take (P.cellsOf f2.type)) = some y2 ∧
      DataW.trod enc P w base spare held n f3.type ((cs.drop f3.offset).take (P.cellsOf f3.type)) = some y3 ∧ DataW.trod enc P w base spare held n f4.type ((cs.drop f4.offset).take (P.cellsOf f4.type)) = some y4 := by
  obtain ⟨xs, n, _, rfl, hl, hlen, hf⟩ := DataW.trod_struct ht h
  match xs, hlen with
  | [y0, y1, y2, y3, y4], _ => exact ⟨y0, y1, y2, y3, y4, n, by simpa using hf 0 f0 rfl, by simpa using hf 1 f1 rfl, by simpa using hf 2 f2 rfl, by simpa using hf 3 f3 rfl, by simpa using hf 4 f4 rfl⟩
/-- A bool's cell. -/
theorem one_bool {t : TypeId} {n : Nat} {cs : List Value} {x : DataW H × List MemPlace} (ht : P.underlying t = some .bool) (h : DataW.trod enc P w base spare held n t cs = some x) : ∃ b : Bool, cs = [.bool b] := by
  obtain ⟨b, e, _⟩ := DataW.trod_bool ht h
  exact ⟨b, e⟩
def RwShort (a : Rw) : Prop := a.lab.length ≤ 9223372036854775807 ∧ a.val.length ≤ 9223372036854775807
set_option maxRecDepth 100000 in
theorem one_raw {W : World} (n : Nat) (cs : List Value) (x : DataW H × List MemPlace) (hl : cs.length = 5) (h : DataW.trod enc Try.prog W base spare held n 45 cs = some x) : ∃ a : Rw, cs = encR a ∧ RwShort a := by
  obtain ⟨y0, y1, y2, y3, y4, m, g0, g1, g2, g3, g4⟩ := trod_struct5 Try.underlying45 h
  have k1 : Try.prog.cellsOf 5 = 1 := by kernel_rfl
  have k2 : Try.prog.cellsOf 4 = 1 := by kernel_rfl
  have k3 : Try.prog.cellsOf 9 = 1 := by kernel_rfl
  match cs, hl with
  | [c0, c1, c2, c3, c4], _ =>
    rw [k1] at g0 g4
    rw [k2] at g2
    rw [k3] at g1 g3
    obtain ⟨u0, e0⟩ := one_u8 Try.underlying5 g0
    obtain ⟨u4, e4⟩ := one_u8 Try.underlying5 g4
    obtain ⟨u1, e1, b1⟩ := one_str Try.underlying9 g1
    obtain ⟨u3, e3, b3⟩ := one_str Try.underlying9 g3
    obtain ⟨u2, e2⟩ := one_bool Try.underlying4 g2
    refine ⟨⟨u0, u1, u2, u3, u4⟩, ?_, b1, b3⟩
    simp at e0 e1 e2 e3 e4
    simp [encR, e0, e1, e2, e3, e4]
set_option maxRecDepth 100000 in
theorem open_raws {W : World} {v : Value} {d : DataW H} {p : List MemPlace} {r : Reach} {b0 : Nat} (hv : Value.okWide Try.prog W r b0 41 v) (h : DataW.Trod enc Try.prog W base spare held 41 v d p) :
    ∃ l : List Rw, Sl W 5 v l.length (flatE encR l) ∧ ∀ a ∈ l, RwShort a :=
  open_el encR encR_len (by decide) RwShort Try.underlying41 (by kernel_rfl) (fun n cs x hl hx => one_raw n cs x hl hx) hv h
end Go.Proofs.Ytmpeniboccahdaa
