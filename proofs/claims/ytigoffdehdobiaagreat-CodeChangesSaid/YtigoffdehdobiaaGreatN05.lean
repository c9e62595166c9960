/- Texts joined. -/
import Derived.OrdersHeld
import Derived.StillTail
import Derived.Test.YtigoffdehdobiaaGreatM00
import Derived.Test.YtigoffdehdobiaaGreatCxg
import Derived.Test.YtigoffdehdobiaaGreatN00
import Derived.Test.YtigoffdehdobiaaGreatM26
import Derived.RegionTactic
import Derived.Deep.OwnRows
set_option linter.unusedVariables false
set_option linter.unusedSimpArgs false
/- A region that draws its order, whose last operations wait for all others: a condition on the world is kept up to these alone. After the kit's own law (its condition is kept to the end). No program. -/
namespace Go.QS
open Go Go.RowKit
section
variable {P : Program} {ops : Array Oper} {Q : Exit → Act → World → Prop} {md : Region.Mode} {S : World → Prop} {n : Nat}

/-- Whatever order is picked; behind each operation ahead of number n the condition holds. -/
def wpAnyT (P : Program) (md : Region.Mode) (ops : Array Oper) (Q : Exit → Act → World → Prop) (S : World → Prop) (n : Nat) : Nat → Array Bool → Act → World → Prop
  | 0, listed, a, w => Region.ready md ops listed = [] ∧ Q .normal a w
  | fuel + 1, listed, a, w =>
    (Region.ready md ops listed = [] → Q .normal a w) ∧
    ∀ i ∈ Region.ready md ops listed, wpOp P ops Q i (fun a' w' => (n ≤ i ∨ S w') ∧ wpAnyT P md ops Q S n fuel (listed.setIfInBounds i true) a' w') a w
theorem wpAny_of_T : ∀ (fuel : Nat) (listed : Array Bool) (a : Act) (w : World), wpAnyT P md ops Q S n fuel listed a w → wpAny P md ops Q fuel listed a w
  | 0, _, _, _, h => h
  | fuel + 1, _, _, _, h => ⟨h.1, fun i hi => wpOp_mono (fun a' w' h' => wpAny_of_T fuel _ a' w' h'.2) (h.2 i hi)⟩
/-- Each operation from number n on waits for number i. -/
def awaited (md : Region.Mode) (ops : Array Oper) (n i : Nat) : Bool := (List.range ops.size).all fun j => decide (j < n) || Region.waitsFor md ops j i
theorem wpAnyT_first {i : Nat} {oi : Oper} {v : Value} (hi : ops[i]? = some oi) (hsel : ∀ (j : Nat) (o : Oper) cs b, ops[j]? = some o → o.op ≠ .select cs b)
    (hQ : ∀ c a w, Q (.panic c) (a.put oi.dst v) w → Q (.panic c) a w) (hin : i < n) (haw : awaited md ops n i = true) :
    ∀ (fuel : Nat) (listed : Array Bool) (a : Act) (w : World),
      (∀ j oj, ops[j]? = some oj → j ≠ i → listed.getD j true = false → (∀ e ∈ oj.after, Region.binds md e = true → e.on ≠ i) → oi.apart ops oj = true) →
      i ∈ Region.ready md ops listed → YieldsIf P ops S oi v a → S w →
      wpAnyT P md ops Q S n fuel (listed.setIfInBounds i true) (a.put oi.dst v) w → wpAnyT P md ops Q S n (fuel + 1) listed a w := by
  intro fuel
  induction fuel with
  | zero =>
    intro listed a w _ hr hy hS H
    refine ⟨fun h => (by rw [h] at hr; cases hr), fun j hj => ?_⟩
    by_cases hji : j = i
    · subst hji; exact hy.wpOp hi hS ⟨.inr hS, H⟩
    · have := ready_mono hj hji
      rw [H.1] at this
      cases this
  | succ fuel ih =>
    intro listed a w hfree hr hy hS H
    refine ⟨fun h => (by rw [h] at hr; cases hr), fun j hj => ?_⟩
    by_cases hji : j = i
    · subst hji; exact hy.wpOp hi hS ⟨.inr hS, H⟩
    · have h1 := H.2 j (ready_mono hj hji)
      obtain ⟨hjun, oj, hoj, hall⟩ := mem_ready.1 hj
      have hnot : ∀ e ∈ oj.after, Region.binds md e = true → e.on ≠ i := fun e he hb heq => by
        have h1 := hall e he hb
        have h0 := (mem_ready.1 hr).1
        rw [heq] at h1
        rw [getD_both h0] at h1
        cases h1
      have hjn : j < n := by
        rcases Nat.lt_or_ge j n with h | h
        · exact h
        · exfalso
          have hjs : j < ops.size := (Array.getElem?_eq_some_iff.1 hoj).1
          have h2 := List.all_eq_true.1 haw j (List.mem_range.2 hjs)
          simp only [Bool.or_eq_true, decide_eq_true_eq] at h2
          rcases h2 with h2 | h2
          · omega
          · obtain ⟨o', ho', e, he, hb, hon⟩ := Region.waitsFor_spec h2
            have : o' = oj := Option.some.inj (ho'.symm.trans hoj)
            subst this
            exact hnot e he hb hon
      have h2 := wpOp_putIf hoj (hfree j oj hoj hji hjun hnot) (fun cs b => hsel i oi cs b hi) (fun cs b => hsel j oj cs b hoj) hQ hy h1
      have hfree' : ∀ k ok, ops[k]? = some ok → k ≠ i → (listed.setIfInBounds j true).getD k true = false →
          (∀ e ∈ ok.after, Region.binds md e = true → e.on ≠ i) → oi.apart ops ok = true := fun k ok hk hki hun hno => by
        refine hfree k ok hk hki ?_ hno
        by_cases hjk : j = k
        · subst hjk; exact hjun
        · rw [getD_set_ne true hjk] at hun; exact hun
      refine wpOp_mono (fun a' w' h3 => ?_) h2
      have hSw : S w' := h3.2.1.resolve_left (by omega)
      refine ⟨.inr hSw, ih (listed.setIfInBounds j true) a' w' hfree' (ready_mono hr (Ne.symm hji)) h3.1 hSw ?_⟩
      rw [Array.setIfInBounds_comm _ _ hji]
      exact h3.2.2
theorem wpAnyT_take {i : Nat} {oi : Oper} {v : Value} {fuel : Nat} {listed : Array Bool} {a : Act} {w : World} (hi : ops[i]? = some oi)
    (hs : Region.noSelect ops = true) (hf : Region.free md ops listed i = true) (hr : (Region.ready md ops listed).contains i = true) (haw : (decide (i < n) && awaited md ops n i) = true)
    (hQ : ∀ c a w, Q (.panic c) (a.put oi.dst v) w → Q (.panic c) a w) (hy : YieldsIf P ops S oi v a) (hS : S w)
    (h : wpAnyT P md ops Q S n fuel (listed.setIfInBounds i true) (a.put oi.dst v) w) : wpAnyT P md ops Q S n (fuel + 1) listed a w := by
  simp only [Bool.and_eq_true, decide_eq_true_eq] at haw
  exact wpAnyT_first hi (Region.noSelect_spec hs) hQ haw.1 haw.2 fuel listed a w (Region.free_spec hi hf) (by simpa using hr) hy hS h
theorem wpAnyT_all {rs : List Nat} {fuel : Nat} {listed : Array Bool} {a : Act} {w : World} (hr : Region.ready md ops listed = rs) (hne : rs ≠ [])
    (h : ∀ i ∈ rs, wpOp P ops Q i (fun a' w' => (n ≤ i ∨ S w') ∧ wpAnyT P md ops Q S n fuel (listed.setIfInBounds i true) a' w') a w) : wpAnyT P md ops Q S n (fuel + 1) listed a w :=
  ⟨fun h0 => absurd (hr ▸ h0) hne, hr ▸ h⟩
/-- The last operations, one behind the other. -/
theorem wpAnyT_seq : ∀ (l : List Oper) (k : Nat) (listed : Array Bool) (a : Act) (w : World), n ≤ k → (∀ j, l[j]? = ops[k + j]?) →
    Region.seqB md ops l.length k listed = true → wpList P ops Q l a w → wpAnyT P md ops Q S n l.length listed a w
  | [], _, _, _, _, _, _, hB, h => ⟨by simpa [Region.seqB] using hB, h⟩
  | o :: l, k, listed, a, w, hk, hl, hB, h => by
    have h0 : ops[k]? = some o := by simpa using (hl 0).symm
    simp only [List.length_cons, Region.seqB, Bool.and_eq_true, decide_eq_true_eq] at hB
    refine ⟨fun h1 => (by rw [hB.1] at h1; cases h1), fun i hi => ?_⟩
    rw [hB.1] at hi
    have hik : i = k := by simpa using hi
    subst hik
    have hw : wpOp P ops Q i (wpList P ops Q l) a w := by unfold wpOp; simp only [h0]; exact h
    exact wpOp_mono (fun a' w' h' => ⟨.inl hk, wpAnyT_seq l (i + 1) _ a' w' (Nat.le_succ_of_le hk) (fun j => by have := hl (j + 1); simpa [Nat.add_assoc, Nat.add_comm 1 j] using this) hB.2 h'⟩) hw
theorem wp_region_T {id : Nat} {a : Act} {w : World} (hm : P.follows .mixedOrders = true)
    (h : wpAnyT P .any ops Q S n ops.size (Array.replicate ops.size false) a { w with drawn := w.drawn + 1 }) : (Code.region id ops true).wp P Q a w :=
  wp_region_any hm (wpAny_of_T _ _ _ _ h)
/-- An operation that is not guarded, as it is carried out. -/
theorem wpOp_go {i : Nat} {o : Oper} {a : Act} {w : World} {K : Act → World → Prop} (hi : ops[i]? = some o) (hg : o.guard = none) (h : o.wp P a w K Q) : wpOp P ops Q i K a w := by
  unfold wpOp
  simp only [hi]
  have hw : Region.wanted o (yielded ops a.tmps) = true := by simp [Region.wanted, hg]
  rw [if_pos hw]
  exact .inl h
theorem wpOp_goK {i : Nat} {o : Oper} {a : Act} {w : World} {K : Act → World → Prop} (hi : ops[i]? = some o) (hg : o.guard = none) (h : ∀ K' : Act → World → Prop, Hid (∀ a w, K a w → K' a w) → o.wp P a w K' Q) : wpOp P ops Q i K a w :=
  wpOp_go hi hg (h K fun _ _ h => h)
theorem wpAnyT_tail (k : Nat) {fuel : Nat} {listed : Array Bool} {a : Act} {w : World} (hk : n ≤ k) (hf : (ops.toList.drop k).length = fuel) (hB : Region.seqB md ops fuel k listed = true) (h : wpList P ops Q (ops.toList.drop k) a w) : wpAnyT P md ops Q S n fuel listed a w := by
  subst hf
  exact wpAnyT_seq (ops.toList.drop k) k listed a w hk (fun j => by rw [List.getElem?_drop, Array.getElem?_toList]) hB h
end
end Go.QS
/- A region that draws its order, with several stores at its end: loads ahead of the first store, arithmetic whenever. No program. -/
namespace Go.QS
open Go Go.RowKit
section
variable {P : Program} {ops : Array Oper} {Q : Exit → Act → World → Prop} {md : Region.Mode} {S : World → Prop} {D : Nat → Bool} {s0 : Nat}

/-- Whatever order is picked; until the first store (number s0) has been made the condition holds behind each operation that is no store (D). -/
def wpAnyV (P : Program) (md : Region.Mode) (ops : Array Oper) (Q : Exit → Act → World → Prop) (S : World → Prop) (D : Nat → Bool) (s0 : Nat) : Nat → Array Bool → Act → World → Prop
  | 0, listed, a, w => Region.ready md ops listed = [] ∧ Q .normal a w
  | fuel + 1, listed, a, w =>
    (Region.ready md ops listed = [] → Q .normal a w) ∧
    ∀ i ∈ Region.ready md ops listed, wpOp P ops Q i (fun a' w' => (D i = true ∨ (listed.setIfInBounds i true).getD s0 false = true ∨ S w') ∧ wpAnyV P md ops Q S D s0 fuel (listed.setIfInBounds i true) a' w') a w
theorem wpAny_of_V : ∀ (fuel : Nat) (listed : Array Bool) (a : Act) (w : World), wpAnyV P md ops Q S D s0 fuel listed a w → wpAny P md ops Q fuel listed a w
  | 0, _, _, _, h => h
  | fuel + 1, _, _, _, h => ⟨h.1, fun i hi => wpOp_mono (fun a' w' h' => wpAny_of_V fuel _ a' w' h'.2) (h.2 i hi)⟩
theorem getD_set_self (l : Array Bool) (j : Nat) (h : l.getD j true = false) : (l.setIfInBounds j true).getD j false = true := by
  have hj : j < l.size := by
    rcases Nat.lt_or_ge j l.size with h1 | h1
    · exact h1
    · rw [Array.getD_eq_getD_getElem?, Array.getElem?_eq_none h1] at h
      cases h
  rw [Array.getD_eq_getD_getElem?, Array.getElem?_setIfInBounds_self_of_lt hj]; rfl
def awaitedD (md : Region.Mode) (ops : Array Oper) (D : Nat → Bool) (i : Nat) : Bool := (List.range ops.size).all fun j => !D j || Region.waitsFor md ops j i
/-- Of the stores all but the first wait for it. -/
def firstD (md : Region.Mode) (ops : Array Oper) (D : Nat → Bool) (s0 : Nat) : Bool := (List.range ops.size).all fun j => !D j || decide (j = s0) || Region.waitsFor md ops j s0
theorem not_ready_of_waits {j i : Nat} {listed : Array Bool} (h : Region.waitsFor md ops j i = true) (hj : j ∈ Region.ready md ops listed) : listed.getD i false = true := by
  obtain ⟨_, oj, hoj, hall⟩ := mem_ready.1 hj
  obtain ⟨o', ho', e, he, hb, hon⟩ := Region.waitsFor_spec h
  have : o' = oj := Option.some.inj (ho'.symm.trans hoj)
  subst this
  have := hall e he hb
  rw [hon] at this
  exact this

theorem wpAnyV_load {i : Nat} {oi : Oper} {v : Value} (hi : ops[i]? = some oi) (hsel : ∀ (j : Nat) (o : Oper) cs b, ops[j]? = some o → o.op ≠ .select cs b)
    (hQ : ∀ c a w, Q (.panic c) (a.put oi.dst v) w → Q (.panic c) a w) (hD0 : D s0 = true) (hDi : D i = false) (haw : awaitedD md ops D i = true) :
    ∀ (fuel : Nat) (listed : Array Bool) (a : Act) (w : World),
      (∀ j oj, ops[j]? = some oj → j ≠ i → listed.getD j true = false → (∀ e ∈ oj.after, Region.binds md e = true → e.on ≠ i) → oi.apart ops oj = true) →
      i ∈ Region.ready md ops listed → listed.getD s0 false = false → YieldsIf P ops S oi v a → S w →
      wpAnyV P md ops Q S D s0 fuel (listed.setIfInBounds i true) (a.put oi.dst v) w → wpAnyV P md ops Q S D s0 (fuel + 1) listed a w := by
  have his0 : i ≠ s0 := fun e => by rw [e, hD0] at hDi; cases hDi
  intro fuel
  induction fuel with
  | zero =>
    intro listed a w _ hr hl hy hS H
    refine ⟨fun h => (by rw [h] at hr; cases hr), fun j hj => ?_⟩
    by_cases hji : j = i
    · subst hji; exact hy.wpOp hi hS ⟨.inr (.inr hS), H⟩
    · have := ready_mono hj hji
      rw [H.1] at this
      cases this
  | succ fuel ih =>
    intro listed a w hfree hr hl hy hS H
    refine ⟨fun h => (by rw [h] at hr; cases hr), fun j hj => ?_⟩
    by_cases hji : j = i
    · subst hji; exact hy.wpOp hi hS ⟨.inr (.inr hS), H⟩
    · have h1 := H.2 j (ready_mono hj hji)
      obtain ⟨hjun, oj, hoj, hall⟩ := mem_ready.1 hj
      have hiun := (mem_ready.1 hr).1
      have hnot : ∀ e ∈ oj.after, Region.binds md e = true → e.on ≠ i := fun e he hb heq => by
        have h1 := hall e he hb
        rw [heq, getD_both hiun] at h1
        cases h1
      have hDj : D j = false := by
        cases hd : D j with
        | false => rfl
        | true =>
          exfalso
          have hjs : j < ops.size := (Array.getElem?_eq_some_iff.1 hoj).1
          have h2 := List.all_eq_true.1 haw j (List.mem_range.2 hjs)
          rw [hd] at h2
          have h3 := not_ready_of_waits (by simpa using h2) hj
          rw [getD_both hiun] at h3
          cases h3
      have hjs0 : j ≠ s0 := fun e => by rw [e, hD0] at hDj; cases hDj
      have h2 := wpOp_putIf hoj (hfree j oj hoj hji hjun hnot) (fun cs b => hsel i oi cs b hi) (fun cs b => hsel j oj cs b hoj) hQ hy h1
      have hfree' : ∀ k ok, ops[k]? = some ok → k ≠ i → (listed.setIfInBounds j true).getD k true = false →
          (∀ e ∈ ok.after, Region.binds md e = true → e.on ≠ i) → oi.apart ops ok = true := fun k ok hk hki hun hno => by
        refine hfree k ok hk hki ?_ hno
        by_cases hjk : j = k
        · subst hjk; exact hjun
        · rw [getD_set_ne true hjk] at hun; exact hun
      refine wpOp_mono (fun a' w' h3 => ?_) h2
      have hl' : (listed.setIfInBounds j true).getD s0 false = false := by rw [getD_set_ne false hjs0]; exact hl
      have hSw : S w' := by
        rcases h3.2.1 with h | h | h
        · rw [hDj] at h; cases h
        · rw [getD_set_ne false hjs0, getD_set_ne false his0, hl] at h; cases h
        · exact h
      refine ⟨.inr (.inr hSw), ih (listed.setIfInBounds j true) a' w' hfree' (ready_mono hr (Ne.symm hji)) hl' h3.1 hSw ?_⟩
      rw [Array.setIfInBounds_comm _ _ hji]
      exact h3.2.2

theorem wpAnyV_pure {i : Nat} {oi : Oper} {v : Value} (hi : ops[i]? = some oi) (hsel : ∀ (j : Nat) (o : Oper) cs b, ops[j]? = some o → o.op ≠ .select cs b)
    (hQ : ∀ c a w, Q (.panic c) (a.put oi.dst v) w → Q (.panic c) a w) (hD0 : D s0 = true) (hDi : D i = false) (hor : firstD md ops D s0 = true) :
    ∀ (fuel : Nat) (listed : Array Bool) (a : Act) (w : World),
      (∀ j oj, ops[j]? = some oj → j ≠ i → listed.getD j true = false → (∀ e ∈ oj.after, Region.binds md e = true → e.on ≠ i) → oi.apart ops oj = true) →
      i ∈ Region.ready md ops listed → (listed.getD s0 false = true ∨ S w) → YieldsIf P ops (fun _ => True) oi v a →
      wpAnyV P md ops Q S D s0 fuel (listed.setIfInBounds i true) (a.put oi.dst v) w → wpAnyV P md ops Q S D s0 (fuel + 1) listed a w := by
  have his0 : i ≠ s0 := fun e => by rw [e, hD0] at hDi; cases hDi
  have here : ∀ {listed : Array Bool} {w : World}, (listed.getD s0 false = true ∨ S w) → (D i = true ∨ (listed.setIfInBounds i true).getD s0 false = true ∨ S w) := fun h => by
    rcases h with h | h
    · exact .inr (.inl (by rw [getD_set_ne false his0]; exact h))
    · exact .inr (.inr h)
  intro fuel
  induction fuel with
  | zero =>
    intro listed a w _ hr hc hy H
    refine ⟨fun h => (by rw [h] at hr; cases hr), fun j hj => ?_⟩
    by_cases hji : j = i
    · subst hji; exact hy.wpOp hi trivial ⟨here hc, H⟩
    · have := ready_mono hj hji
      rw [H.1] at this
      cases this
  | succ fuel ih =>
    intro listed a w hfree hr hc hy H
    refine ⟨fun h => (by rw [h] at hr; cases hr), fun j hj => ?_⟩
    by_cases hji : j = i
    · subst hji; exact hy.wpOp hi trivial ⟨here hc, H⟩
    · have h1 := H.2 j (ready_mono hj hji)
      obtain ⟨hjun, oj, hoj, hall⟩ := mem_ready.1 hj
      have hiun := (mem_ready.1 hr).1
      have hnot : ∀ e ∈ oj.after, Region.binds md e = true → e.on ≠ i := fun e he hb heq => by
        have h1 := hall e he hb
        rw [heq, getD_both hiun] at h1
        cases h1
      have h2 := wpOp_putIf hoj (hfree j oj hoj hji hjun hnot) (fun cs b => hsel i oi cs b hi) (fun cs b => hsel j oj cs b hoj) hQ hy h1
      have hfree' : ∀ k ok, ops[k]? = some ok → k ≠ i → (listed.setIfInBounds j true).getD k true = false →
          (∀ e ∈ ok.after, Region.binds md e = true → e.on ≠ i) → oi.apart ops ok = true := fun k ok hk hki hun hno => by
        refine hfree k ok hk hki ?_ hno
        by_cases hjk : j = k
        · subst hjk; exact hjun
        · rw [getD_set_ne true hjk] at hun; exact hun
      refine wpOp_mono (fun a' w' h3 => ?_) h2
      have hc' : (listed.setIfInBounds j true).getD s0 false = true ∨ S w' := by
        by_cases hjs : j = s0
        · subst hjs; exact .inl (getD_set_self listed _ hjun)
        · rcases h3.2.1 with h | h | h
          · left
            have hjz : j < ops.size := (Array.getElem?_eq_some_iff.1 hoj).1
            have h2 := List.all_eq_true.1 hor j (List.mem_range.2 hjz)
            rw [h] at h2
            have h4 := not_ready_of_waits (md := md) (ops := ops) (i := s0) (by simpa [hjs] using h2) hj
            rw [getD_set_ne false hjs]; exact h4
          · left
            rw [getD_set_ne false hjs, getD_set_ne false his0] at h
            rw [getD_set_ne false hjs]; exact h
          · exact .inr h
      refine ⟨.inr hc', ih (listed.setIfInBounds j true) a' w' hfree' (ready_mono hr (Ne.symm hji)) hc' h3.1 ?_⟩
      rw [Array.setIfInBounds_comm _ _ hji]
      exact h3.2.2
theorem wpAnyV_takeL {i : Nat} {oi : Oper} {v : Value} {fuel : Nat} {listed : Array Bool} {a : Act} {w : World} (hi : ops[i]? = some oi)
    (hs : Region.noSelect ops = true) (hf : Region.free md ops listed i = true) (hr : (Region.ready md ops listed).contains i = true) (haw : (D s0 && !D i && awaitedD md ops D i && !listed.getD s0 false) = true)
    (hQ : ∀ c a w, Q (.panic c) (a.put oi.dst v) w → Q (.panic c) a w) (hy : YieldsIf P ops S oi v a) (hS : S w)
    (h : wpAnyV P md ops Q S D s0 fuel (listed.setIfInBounds i true) (a.put oi.dst v) w) : wpAnyV P md ops Q S D s0 (fuel + 1) listed a w := by
  simp only [Bool.and_eq_true, Bool.not_eq_true'] at haw
  exact wpAnyV_load hi (Region.noSelect_spec hs) hQ haw.1.1.1 haw.1.1.2 haw.1.2 fuel listed a w (Region.free_spec hi hf) (by simpa using hr) haw.2 hy hS h
theorem wpAnyV_takeP {i : Nat} {oi : Oper} {v : Value} {fuel : Nat} {listed : Array Bool} {a : Act} {w : World} (hi : ops[i]? = some oi)
    (hs : Region.noSelect ops = true) (hf : Region.free md ops listed i = true) (hr : (Region.ready md ops listed).contains i = true) (haw : (D s0 && !D i && firstD md ops D s0) = true)
    (hQ : ∀ c a w, Q (.panic c) (a.put oi.dst v) w → Q (.panic c) a w) (hy : YieldsIf P ops (fun _ => True) oi v a) (hS : listed.getD s0 false = true ∨ S w)
    (h : wpAnyV P md ops Q S D s0 fuel (listed.setIfInBounds i true) (a.put oi.dst v) w) : wpAnyV P md ops Q S D s0 (fuel + 1) listed a w := by
  simp only [Bool.and_eq_true, Bool.not_eq_true'] at haw
  exact wpAnyV_pure hi (Region.noSelect_spec hs) hQ haw.1.1 haw.1.2 haw.2 fuel listed a w (Region.free_spec hi hf) (by simpa using hr) hS hy h
theorem wpAnyV_all {rs : List Nat} {fuel : Nat} {listed : Array Bool} {a : Act} {w : World} (hr : Region.ready md ops listed = rs) (hne : rs ≠ [])
    (h : ∀ i ∈ rs, wpOp P ops Q i (fun a' w' => (D i = true ∨ (listed.setIfInBounds i true).getD s0 false = true ∨ S w') ∧ wpAnyV P md ops Q S D s0 fuel (listed.setIfInBounds i true) a' w') a w) : wpAnyV P md ops Q S D s0 (fuel + 1) listed a w :=
  ⟨fun h0 => absurd (hr ▸ h0) hne, hr ▸ h⟩
theorem wpAnyV_one (i : Nat) {fuel : Nat} {listed : Array Bool} {a : Act} {w : World} (hr : Region.ready md ops listed = [i])
    (h : wpOp P ops Q i (fun a' w' => (D i = true ∨ (listed.setIfInBounds i true).getD s0 false = true ∨ S w') ∧ wpAnyV P md ops Q S D s0 fuel (listed.setIfInBounds i true) a' w') a w) : wpAnyV P md ops Q S D s0 (fuel + 1) listed a w :=
  wpAnyV_all hr (by simp) (fun j hj => by cases List.mem_singleton.1 hj; exact h)
theorem wpAnyV_done {listed : Array Bool} {a : Act} {w : World} (hr : Region.ready md ops listed = []) (h : Q .normal a w) : wpAnyV P md ops Q S D s0 0 listed a w := ⟨hr, h⟩
theorem wp_region_V {id : Nat} {a : Act} {w : World} (hm : P.follows .mixedOrders = true)
    (h : wpAnyV P .any ops Q S D s0 ops.size (Array.replicate ops.size false) a { w with drawn := w.drawn + 1 }) : (Code.region id ops true).wp P Q a w :=
  wp_region_any hm (wpAny_of_V _ _ _ _ h)
end
end Go.QS
/- Contracts: the law's changes; lists of changes alike: diff.Same, the document's. -/
namespace Go.Proofs.YtigoffdehdobiaaGreat
open Go.RowKit Go.QS Go.QS.Nk
set_option linter.unusedVariables false

theorem infoRcP : ∃ i z, Tryz.prog.info? RcT = some i ∧ i.zero = some z ∧ i.size = 5 ∧ i.bytes = 56 ∧ z.cells.size = 5 := info_of (z := .agg #[.string ⟨#[]⟩, .string ⟨#[]⟩, .string ⟨#[]⟩, .bool false, .bool false]) (by kernel_rfl) rfl
set_option maxRecDepth 100000 in
theorem neqCh (w : World) (p q : Ch) : (binOp .neq ChT (chV p) (chV q)).run Tryz.prog w = .ok (.bool (decide (p ≠ q))) w := by
  obtain ⟨a, b, c, d, e⟩ := p
  obtain ⟨a', b', c', d', e'⟩ := q
  simp only [go_sem]
  by_cases h1 : a = a' <;> by_cases h2 : b = b' <;> by_cases h3 : c = c' <;> by_cases h4 : d = d' <;> by_cases h5 : e = e' <;> simp [h1, h2, h3, h4, h5, go_sem]
set_option maxRecDepth 100000 in
theorem neqRc (w : World) (p q : Ch) : (binOp .neq RcT (chV p) (chV q)).run Tryz.prog w = .ok (.bool (decide (p ≠ q))) w := by
  obtain ⟨a, b, c, d, e⟩ := p
  obtain ⟨a', b', c', d', e'⟩ := q
  simp only [go_sem]
  by_cases h1 : a = a' <;> by_cases h2 : b = b' <;> by_cases h3 : c = c' <;> by_cases h4 : d = d' <;> by_cases h5 : e = e' <;> simp [h1, h2, h3, h4, h5, go_sem]

set_option maxRecDepth 100000 in
theorem chgs_c (w : World) (v : Value) (l : List Ch) (h : Sl w 5 v l.length (flatE encCh l)) (h9 : l.length ≤ 1000000000) :
    Calls Tryz.prog 11 #[v] w fun e w' => ∃ v', e = .returned v' ∧ w'.ownsRow w.heap.size RcT 5 v' l.length (flatE encCh l) ∧ Ext w w' := by
  obtain ⟨A, c, rfl, _, hn, hc, hs⟩ := h
  obtain ⟨n, hn2⟩ : ∃ n, n = l.length := ⟨_, rfl⟩
  rw [← hn2] at h9 hn ⊢
  have Hn := Lib.hid (And.intro hn2 hs)
  clear hn2 hs
  go_enter Tryz.func11, Tryz.ntmps11
  repeat' (go_not_at_region 3; (first | go_skip | go_guarded | go_step))
  go_loopg [3, 8] n (fun gk v3 v8 wr => ∃ j : Nat, v8 = .int .i64 j ∧ j ≤ n ∧ n - j ≤ gk ∧ Hid (wr.ownsRow w.heap.size RcT 5 v3 j (flatE encCh (l.take j)) ∧ Ext w wr))
  case atStart => exact ⟨0, rfl, Nat.zero_le _, Nat.le_refl _, Lib.hid ⟨World.ownsRow_nil _ _ _ _, Ext.refl _⟩⟩
  case round =>
    obtain ⟨j, rfl, hjn, hgk, HJ⟩ := hrel
    rcases Nat.lt_or_ge j n with hjl | hjg
    · have d2 : decide (j < n) = true := by simp [hjl]
      obtain ⟨x, hx⟩ := get_of_lt l (show j < l.length by have := Hn.out.1; omega)
      obtain ⟨b, o, rfl, q0, q1, q2, q3, q4⟩ := seg_ch (Seg.below Hn.out.2 HJ.out.2) hx
      have hi1 : (j : Int) < (n : Int) := by omega
      obtain ⟨xk, xo, xn, xa, xb⟩ := x
      have HX : Hid (flatE encCh (l.take (j + 1)) = flatE encCh (l.take j) ++ encCh (xk, xo, xn, xa, xb)) := Lib.hid (by rw [take_snoc hx, flatE_snoc])
      clear hx
      simp only at q0 q1 q2 q3 q4
      repeat' (first | go_skip | go_guarded | (at_builtin; refine wpList_appE (W := w) rfl (.tmp 12) (.tmp 14) _ rfl RcT 5 56 Tryz.underlying29 infoRcP (by decide) u3 j (flatE encCh (l.take j)) rfl ((HJ.out.1.alloc _).alloc _) ((HJ.out.2.alloc HJ.out.2.size _).alloc (by simp; have := HJ.out.2.size; omega) _) _ 1 1 (encCh (xk, xo, xn, xa, xb)) rfl rfl (Seg.new _ [_, _, _, _, _] _ (by simp)) (encCh_one _) (by unfold maxLen; omega) (by omega) ?_; intro v4 w4 r4 f4) | go_step)
      have H4 := Lib.hid (And.intro r4 f4)
      clear r4 f4
      go_roundg (n - (j + 1))
      case measure => omega
      case rel => exact ⟨j + 1, by go_num, by omega, Nat.le_refl _, Lib.hid ⟨by rw [HX.out]; exact H4.out.1, H4.out.2⟩⟩
    · obtain rfl : n = j := by omega
      have d2 : decide (n < n) = false := by simp
      repeat' (first | go_skip | go_guarded | go_step)
      go_ret
      have := HJ.out
      rw [List.take_of_length_le (by have := Hn.out.1; omega)] at this
      exact ⟨_, rfl, this.1, this.2⟩

set_option maxRecDepth 100000 in
theorem eqCh_c (w : World) (va vb : Value) (la lb : List Ch) (ha : Sl w 5 va la.length (flatE encCh la)) (hb : Sl w 5 vb lb.length (flatE encCh lb)) (h9 : la.length ≤ 1000000000) (h9b : lb.length ≤ 1000000000) :
    Calls Tryz.prog 41 #[va, vb] w fun e w' => e = .returned (.bool (decide (la = lb))) ∧ Ext w w' := by
  obtain ⟨A, c, rfl, hl, hn, hc, hs⟩ := ha
  obtain ⟨A', c', rfl, hl', hn', hc', hs'⟩ := hb
  by_cases hlen : la.length = lb.length
  · have HL : Hid (la.length = lb.length) := Lib.hid hlen
    have hd : ((la.length : Int) != (lb.length : Int)) = false := by rw [bne_eq_false_iff_eq]; omega
    clear hlen
    go_enter Tryz.func41, Tryz.ntmps41
    repeat' go_step
    go_loopw [13] (fun i wr => ∃ k : Nat, k ≤ la.length ∧ i = .int .i64 k ∧ Ext w wr ∧ Hid (la.take k = lb.take k)) (fun i _ => la.length - (intOf i).toNat)
    case atStart => exact ⟨0, Nat.zero_le _, rfl, Ext.refl _, Lib.hid (by simp)⟩
    case round =>
      obtain ⟨k, hk, rfl, hb, HT⟩ := hrel
      by_cases hlt : k < la.length
      · obtain ⟨p, hp⟩ := get_of_lt la hlt
        obtain ⟨q, hq⟩ := get_of_lt lb (show k < lb.length by have := HL.out; omega)
        obtain ⟨b, o, rfl, h0, h1, h2, h3, h4⟩ := seg_ch (hs.below hb) hp
        obtain ⟨b', o', rfl, h0', h1', h2', h3', h4'⟩ := seg_ch (hs'.below hb) hq
        have HP := Lib.hid hp
        have HQ := Lib.hid hq
        clear hp hq
        have hi1 : (k : Int) < (la.length : Int) := by omega
        have hi2 : (k : Int) < (lb.length : Int) := by have := HL.out; omega
        by_cases hpq : p = q
        · have hne : ∀ w, (binOp .neq ChT (chV p) (chV q)).run Tryz.prog w = .ok (.bool false) w := fun w => by rw [neqCh]; simp [hpq]
          have HE := Lib.hid hpq
          clear hpq
          repeat' go_step
          go_quiet (fail)
          repeat' go_step
          go_roundw
          case rel => exact ⟨k + 1, by omega, by go_num, below_drewN hb _, Lib.hid (by rw [take_snoc HP.out, take_snoc HQ.out, HT.out, HE.out])⟩
          case measure => simp [intOf]; omega
        · have hne : ∀ w, (binOp .neq ChT (chV p) (chV q)).run Tryz.prog w = .ok (.bool true) w := fun w => by rw [neqCh]; simp [hpq]
          have HE := Lib.hid hpq
          clear hpq
          repeat' go_step
          go_quiet (fail)
          repeat' go_step
          go_ret
          refine ⟨?_, below_drewN hb _⟩
          have : la ≠ lb := fun e => HE.out (by have h1 := HP.out; have h2 := HQ.out; rw [e] at h1; rw [h1] at h2; exact Option.some.inj h2)
          simp [this]
      · obtain rfl : k = la.length := by omega
        repeat' go_step
        go_ret
        refine ⟨?_, hb⟩
        have : la = lb := by have h1 := HT.out; rw [List.take_length, HL.out, List.take_length] at h1; exact h1
        simp [this]
  · have hd : ((la.length : Int) != (lb.length : Int)) = true := by rw [bne_iff_ne]; omega
    have HL := Lib.hid hlen
    clear hlen
    go_enter Tryz.func41, Tryz.ntmps41
    repeat' go_step
    go_ret
    refine ⟨?_, Ext.refl _⟩
    have : la ≠ lb := fun e => HL.out (by rw [e])
    simp [this]

set_option maxRecDepth 100000 in
theorem dsame_c (w : World) (va vb : Value) (la lb : List Ch) (ha : Sl w 5 va la.length (flatE encCh la)) (hb : Sl w 5 vb lb.length (flatE encCh lb)) (h9 : la.length ≤ 1000000000) (h9b : lb.length ≤ 1000000000) :
    Calls Tryz.prog 16 #[va, vb] w fun e w' => e = .returned (.bool (decide (la = lb))) ∧ Ext w w' := by
  go_enter Tryz.func16, Tryz.ntmps16
  repeat' (first | (go_at_call 41; refine (eqCh_c _ _ _ la lb ha hb h9 h9b).mono ?_; rintro e w' ⟨rfl, hb'⟩; go_simp) | go_step)
  go_ret
  exact ⟨rfl, hb'⟩

set_option maxRecDepth 100000 in
theorem rsameCh_c (w : World) (va vb : Value) (la lb : List Ch) (ha : Sl w 5 va la.length (flatE encCh la)) (hb : Sl w 5 vb lb.length (flatE encCh lb)) (h9 : la.length ≤ 1000000000) (h9b : lb.length ≤ 1000000000) :
    Calls Tryz.prog 10 #[va, vb] w fun e w' => e = .returned (.bool (decide (la = lb))) ∧ Ext w w' := by
  obtain ⟨A, c, rfl, hl, hn, hc, hs⟩ := ha
  obtain ⟨A', c', rfl, hl', hn', hc', hs'⟩ := hb
  by_cases hlen : la.length = lb.length
  · have HL : Hid (la.length = lb.length) := Lib.hid hlen
    have hd : ((la.length : Int) != (lb.length : Int)) = false := by rw [bne_eq_false_iff_eq]; omega
    clear hlen
    go_enter Tryz.func10, Tryz.ntmps10
    repeat' go_step
    go_loopw [13] (fun i wr => ∃ k : Nat, k ≤ la.length ∧ i = .int .i64 k ∧ Ext w wr ∧ Hid (la.take k = lb.take k)) (fun i _ => la.length - (intOf i).toNat)
    case atStart => exact ⟨0, Nat.zero_le _, rfl, Ext.refl _, Lib.hid (by simp)⟩
    case round =>
      obtain ⟨k, hk, rfl, hb, HT⟩ := hrel
      by_cases hlt : k < la.length
      · obtain ⟨p, hp⟩ := get_of_lt la hlt
        obtain ⟨q, hq⟩ := get_of_lt lb (show k < lb.length by have := HL.out; omega)
        obtain ⟨b, o, rfl, h0, h1, h2, h3, h4⟩ := seg_ch (hs.below hb) hp
        obtain ⟨b', o', rfl, h0', h1', h2', h3', h4'⟩ := seg_ch (hs'.below hb) hq
        have HP := Lib.hid hp
        have HQ := Lib.hid hq
        clear hp hq
        have hi1 : (k : Int) < (la.length : Int) := by omega
        have hi2 : (k : Int) < (lb.length : Int) := by have := HL.out; omega
        by_cases hpq : p = q
        · have hne : ∀ w, (binOp .neq RcT (chV p) (chV q)).run Tryz.prog w = .ok (.bool false) w := fun w => by rw [neqRc]; simp [hpq]
          have HE := Lib.hid hpq
          clear hpq
          repeat' go_step
          go_quiet (fail)
          repeat' go_step
          go_roundw
          case rel => exact ⟨k + 1, by omega, by go_num, below_drewN hb _, Lib.hid (by rw [take_snoc HP.out, take_snoc HQ.out, HT.out, HE.out])⟩
          case measure => simp [intOf]; omega
        · have hne : ∀ w, (binOp .neq RcT (chV p) (chV q)).run Tryz.prog w = .ok (.bool true) w := fun w => by rw [neqRc]; simp [hpq]
          have HE := Lib.hid hpq
          clear hpq
          repeat' go_step
          go_quiet (fail)
          repeat' go_step
          go_ret
          refine ⟨?_, below_drewN hb _⟩
          have : la ≠ lb := fun e => HE.out (by have h1 := HP.out; have h2 := HQ.out; rw [e] at h1; rw [h1] at h2; exact Option.some.inj h2)
          simp [this]
      · obtain rfl : k = la.length := by omega
        repeat' go_step
        go_ret
        refine ⟨?_, hb⟩
        have : la = lb := by have h1 := HT.out; rw [List.take_length, HL.out, List.take_length] at h1; exact h1
        simp [this]
  · have hd : ((la.length : Int) != (lb.length : Int)) = true := by rw [bne_iff_ne]; omega
    have HL := Lib.hid hlen
    clear hlen
    go_enter Tryz.func10, Tryz.ntmps10
    repeat' go_step
    go_ret
    refine ⟨?_, Ext.refl _⟩
    have : la ≠ lb := fun e => HL.out (by rw [e])
    simp [this]
end Go.Proofs.YtigoffdehdobiaaGreat
/- A list of changes, opened. -/
namespace Go.Proofs.YtigoffdehdobiaaGreat
open Go.RowKit Go.QS Go.ChangeShapes Go.WideShapes Go.ChangeAt Go.Deep
variable {H : Type} {enc : TypeId × Value → H} {P : Program} {w : World} {base : Nat} {spare : Nat → Bool} {held : Bool}
theorem trod_struct5c {t : TypeId} {f0 f1 f2 f3 f4 : Field} {fuel : Nat} {cs : List Value} {x : DataW H × List MemPlace} (ht : P.underlying t = some (.struct #[f0, f1, f2, f3, f4])) (h : DataW.trod enc P w base spare held fuel t cs = some x) :
    ∃ y0 y1 y2 y3 y4 n, DataW.trod enc P w base spare held n f0.type ((cs.drop f0.offset).take (P.cellsOf f0.type)) = some y0 ∧
      DataW.trod enc P w base spare held n f1.type ((cs.drop f1.offset).take (P.cellsOf f1.type)) = some y1 ∧ DataW.trod enc P w base spare held n f2.type ((cs.drop f2.offset).take (P.cellsOf f2.type)) = some y2 ∧
      DataW.trod enc P w base spare held n f3.type ((cs.drop f3.offset).take (P.cellsOf f3.type)) = some y3 ∧ DataW.trod enc P w base spare held n f4.type ((cs.drop f4.offset).take (P.cellsOf f4.type)) = some y4 := by
  obtain ⟨xs, n, _, rfl, hl, hlen, hf⟩ := DataW.trod_struct ht h
  match xs, hlen with
  | [y0, y1, y2, y3, y4], _ => exact ⟨y0, y1, y2, y3, y4, n, by simpa using hf 0 f0 rfl, by simpa using hf 1 f1 rfl, by simpa using hf 2 f2 rfl, by simpa using hf 3 f3 rfl, by simpa using hf 4 f4 rfl⟩
set_option maxRecDepth 100000 in
theorem one_ch {W : World} (n : Nat) (cs : List Value) (x : DataW H × List MemPlace) (hl : cs.length = 5) (h : DataW.trod enc Tryz.prog W base spare held n 74 cs = some x) : ∃ a : Ch, cs = encCh a ∧ True := by
  obtain ⟨y0, y1, y2, y3, y4, m, g0, g1, g2, g3, g4⟩ := trod_struct5c Tryz.underlying74 h
  have k2 : Tryz.prog.cellsOf 4 = 1 := by kernel_rfl
  have k3 : Tryz.prog.cellsOf 9 = 1 := by kernel_rfl
  match cs, hl with
  | [c0, c1, c2, c3, c4], _ =>
    rw [k3] at g0 g1 g2
    rw [k2] at g3 g4
    obtain ⟨u0, e0, _⟩ := one_str Tryz.underlying9 g0
    obtain ⟨u1, e1, _⟩ := one_str Tryz.underlying9 g1
    obtain ⟨u2, e2, _⟩ := one_str Tryz.underlying9 g2
    obtain ⟨u3, e3, _⟩ := DataW.trod_bool Tryz.underlying4 g3
    obtain ⟨u4, e4, _⟩ := DataW.trod_bool Tryz.underlying4 g4
    refine ⟨(u0, u1, u2, u3, u4), ?_, trivial⟩
    simp at e0 e1 e2 e3 e4
    simp [encCh, e0, e1, e2, e3, e4]
set_option maxRecDepth 100000 in
theorem open_chs {W : World} {v : Value} {d : DataW H} {p : List MemPlace} {r : Reach} {b0 : Nat} (hv : Value.okWide Tryz.prog W r b0 25 v) (h : DataW.Trod enc Tryz.prog W base spare held 25 v d p) :
    ∃ l : List Ch, Sl W 5 v l.length (flatE encCh l) := by
  obtain ⟨l, hl, _⟩ := open_el encCh encCh_len (by decide) (fun _ => True) Tryz.underlying25 (by kernel_rfl) (fun n cs x hl hx => one_ch n cs x hl hx) hv h
  exact ⟨l, hl⟩
end Go.Proofs.YtigoffdehdobiaaGreat
/- The law's some: a change is cut: its region as a law of its own. -/
namespace Go.Proofs.YtigoffdehdobiaaGreat
open Go.RowKit Go.QS Go.QS.Nk
set_option linter.unusedVariables false

theorem ext_drew9 {a w : World} (h : Ext a w) : Ext a w.drew := h.drew

set_option maxRecDepth 100000 in
set_option maxHeartbeats 2000000 in
theorem some_6 (wr : World) (g : Nat) (xk xo xn : List UInt8) (xa xb : Bool) (HS : Hid (wr.heap[g]? = some (.cells #[str xk, str xo, str xn, .bool xa, .bool xb] ChT (0, 0)))) (c : Code) (QX : Exit → Act → World → Prop) (t0 t1 t2 t3 t4 t5 t6 t7 t8 t10 t11 t12 t13 t14 t15 t16 t17 t18 t19 t20 t21 t22 t23 t24 t25 t26 t27 t28 t29 t30 t31 t32 t33 t34 t35 t36 t37 t38 t39 t40 t41 t42 t43 t44 t45 t46 t47 t48 t49 t50 t51 t52 t53 t54 t55 t56 t57 t58 t59 t60 t61 : Value)
    (hc : (Tryz.f14.body.bind (findR 6)) = some c)
    (hQ : ∀ (ka kb kc : Nat) (u19 u20 u21 u22 u23 u24 u25 u26 u27 u28 u29 u30 u31 u32 u33 u34 u35 u36 u37 u38 u39 u40 u41 u42 : Value) (wx : World), ((ka ≤ 30 ∧ kb ≤ 30 ∧ kc ≤ 30) ∧ wx.heap[g]? = some (.cells #[str (xk.take ka), str (xo.take kb), str (xn.take kc), .bool xa, .bool xb] ChT (0, 0)) ∧ One g wr wx) → QX .normal { tmps := List.toArray (t0 :: t1 :: t2 :: t3 :: t4 :: t5 :: t6 :: t7 :: t8 :: (ptr g) :: t10 :: t11 :: t12 :: t13 :: t14 :: t15 :: t16 :: t17 :: t18 :: u19 :: u20 :: u21 :: u22 :: u23 :: u24 :: u25 :: u26 :: u27 :: u28 :: u29 :: u30 :: u31 :: u32 :: u33 :: u34 :: u35 :: u36 :: u37 :: u38 :: u39 :: u40 :: u41 :: u42 :: t43 :: t44 :: t45 :: t46 :: t47 :: t48 :: t49 :: t50 :: t51 :: t52 :: t53 :: t54 :: t55 :: t56 :: t57 :: t58 :: t59 :: t60 :: t61 :: []), defers := [] } wx) :
    c.wp Tryz.prog QX { tmps := List.toArray (t0 :: t1 :: t2 :: t3 :: t4 :: t5 :: t6 :: t7 :: t8 :: (ptr g) :: t10 :: t11 :: t12 :: t13 :: t14 :: t15 :: t16 :: t17 :: t18 :: t19 :: t20 :: t21 :: t22 :: t23 :: t24 :: t25 :: t26 :: t27 :: t28 :: t29 :: t30 :: t31 :: t32 :: t33 :: t34 :: t35 :: t36 :: t37 :: t38 :: t39 :: t40 :: t41 :: t42 :: t43 :: t44 :: t45 :: t46 :: t47 :: t48 :: t49 :: t50 :: t51 :: t52 :: t53 :: t54 :: t55 :: t56 :: t57 :: t58 :: t59 :: t60 :: t61 :: []), defers := [] } wr := by
  change some _ = some c at hc
  cases hc
  have HQF := Lib.hid hQ
  clear hQ
  obtain ⟨e0, e1, e2, e3, e4⟩ := box5C HS.out
  have f0 := freeG HS.out 0
  have f1 := freeG HS.out 1
  have f2 := freeG HS.out 2
  have l3 := heap_lt HS.out
  obtain ⟨ka, hka⟩ : ∃ k, k = min xk.length 30 := ⟨_, rfl⟩
  obtain ⟨kb, hkb⟩ : ∃ k, k = min xo.length 30 := ⟨_, rfl⟩
  obtain ⟨kc, hkc⟩ : ∃ k, k = min xn.length 30 := ⟨_, rfl⟩
  have ma : min (xk.length : Int) 30 = (ka : Int) := by omega
  have mb : min (xo.length : Int) 30 = (kb : Int) := by omega
  have mc : min (xn.length : Int) 30 = (kc : Int) := by omega
  have la : (ka : Int) ≤ (xk.length : Int) := by omega
  have lb : (kb : Int) ≤ (xo.length : Int) := by omega
  have lc : (kc : Int) ≤ (xn.length : Int) := by omega
  have la' : ka ≤ xk.length := by omega
  have lb' : kb ≤ xo.length := by omega
  have lc' : kc ≤ xn.length := by omega
  have HK : Hid (ka ≤ 30 ∧ kb ≤ 30 ∧ kc ≤ 30) := Lib.hid ⟨by omega, by omega, by omega⟩
  clear hka hkb hkc
  refine wp_region_noPanic ?_
  refine wp_region_V (D := fun j => j == 22 || j == 24 || j == 26) (s0 := 22) (S := (fun y : World => y.cell? ⟨g, 0, none⟩ = some (str xk) ∧ y.cell? ⟨g, 1, none⟩ = some (str xo) ∧ y.cell? ⟨g, 2, none⟩ = some (str xn))) (by kernel_rfl) ?_
  change wpAnyV _ _ _ _ _ _ _ 27 _ _ wr.drew
  obtain ⟨x0, hx0⟩ : ∃ y, y = wr.drew := ⟨_, rfl⟩
  have HB0 : Hid (x0.heap[g]? = some (.cells #[str xk, str xo, str xn, .bool xa, .bool xb] ChT (0, 0))) := Lib.hid (by rw [hx0]; exact HS.out)
  have HO0 : Hid (One g wr x0) := Lib.hid (by rw [hx0]; exact One.of_ext (ext_drew9 (Ext.refl _)))
  rw [← hx0]
  clear hx0 f0 f1 f2 l3 e0 e1 e2 e3 e4
  have hH : (fun y : World => y.cell? ⟨g, 0, none⟩ = some (str xk) ∧ y.cell? ⟨g, 1, none⟩ = some (str xo) ∧ y.cell? ⟨g, 2, none⟩ = some (str xn)) x0 := by obtain ⟨e0, e1, e2, _, _⟩ := box5C HB0.out; exact ⟨e0, e1, e2⟩
  refine wpAnyV_takeP (i := 0) (v := ?_) rfl (by kernel_rfl) (by kernel_rfl) (by kernel_rfl) (by kernel_rfl) (fun _ _ _ h => h) (Or.inl ⟨by rfl, ?_⟩) (.inr hH) ?_
  rotate_left
  · (intro w _; go_simp; try with_reducible rfl)
  try simp only [Act.put, List.setIfInBounds_toArray, List.set_cons_zero, List.set_cons_succ]
  refine wpAnyV_takeL (i := 1) (v := ?_) rfl (by kernel_rfl) (by kernel_rfl) (by kernel_rfl) (by kernel_rfl) (fun _ _ _ h => h) (Or.inl ⟨by rfl, ?_⟩) hH ?_
  rotate_left
  · (intro w hSw; obtain ⟨z0, z1, z2⟩ := hSw; go_simp; try with_reducible rfl)
  try simp only [Act.put, List.setIfInBounds_toArray, List.set_cons_zero, List.set_cons_succ]
  refine wpAnyV_takeP (i := 2) (v := ?_) rfl (by kernel_rfl) (by kernel_rfl) (by kernel_rfl) (by kernel_rfl) (fun _ _ _ h => h) (Or.inl ⟨by rfl, ?_⟩) (.inr hH) ?_
  rotate_left
  · (intro w _; go_simp; try with_reducible rfl)
  try simp only [Act.put, List.setIfInBounds_toArray, List.set_cons_zero, List.set_cons_succ]
  refine wpAnyV_takeL (i := 3) (v := ?_) rfl (by kernel_rfl) (by kernel_rfl) (by kernel_rfl) (by kernel_rfl) (fun _ _ _ h => h) (Or.inl ⟨by rfl, ?_⟩) hH ?_
  rotate_left
  · (intro w hSw; obtain ⟨z0, z1, z2⟩ := hSw; go_simp; try with_reducible rfl)
  try simp only [Act.put, List.setIfInBounds_toArray, List.set_cons_zero, List.set_cons_succ]
  refine wpAnyV_takeP (i := 4) (v := ?_) rfl (by kernel_rfl) (by kernel_rfl) (by kernel_rfl) (by kernel_rfl) (fun _ _ _ h => h) (Or.inl ⟨by rfl, ?_⟩) (.inr hH) ?_
  rotate_left
  · (intro w _; go_simp; try with_reducible rfl)
  try simp only [Act.put, List.setIfInBounds_toArray, List.set_cons_zero, List.set_cons_succ]
  refine wpAnyV_takeP (i := 5) (v := ?_) rfl (by kernel_rfl) (by kernel_rfl) (by kernel_rfl) (by kernel_rfl) (fun _ _ _ h => h) (Or.inl ⟨by rfl, ?_⟩) (.inr hH) ?_
  rotate_left
  · (intro w _; go_simp; try with_reducible rfl)
  try simp only [Act.put, List.setIfInBounds_toArray, List.set_cons_zero, List.set_cons_succ]
  refine wpAnyV_takeP (i := 6) (v := ?_) rfl (by kernel_rfl) (by kernel_rfl) (by kernel_rfl) (by kernel_rfl) (fun _ _ _ h => h) (Or.inl ⟨by rfl, ?_⟩) (.inr hH) ?_
  rotate_left
  · (intro w _; go_simp; try with_reducible rfl)
  try simp only [Act.put, List.setIfInBounds_toArray, List.set_cons_zero, List.set_cons_succ]
  refine wpAnyV_takeP (i := 7) (v := ?_) rfl (by kernel_rfl) (by kernel_rfl) (by kernel_rfl) (by kernel_rfl) (fun _ _ _ h => h) (Or.inl ⟨by rfl, ?_⟩) (.inr hH) ?_
  rotate_left
  · (intro w _; go_simp; try with_reducible rfl)
  try simp only [Act.put, List.setIfInBounds_toArray, List.set_cons_zero, List.set_cons_succ]
  refine wpAnyV_takeL (i := 8) (v := ?_) rfl (by kernel_rfl) (by kernel_rfl) (by kernel_rfl) (by kernel_rfl) (fun _ _ _ h => h) (Or.inl ⟨by rfl, ?_⟩) hH ?_
  rotate_left
  · (intro w hSw; obtain ⟨z0, z1, z2⟩ := hSw; go_simp; try with_reducible rfl)
  try simp only [Act.put, List.setIfInBounds_toArray, List.set_cons_zero, List.set_cons_succ]
  refine wpAnyV_takeP (i := 9) (v := ?_) rfl (by kernel_rfl) (by kernel_rfl) (by kernel_rfl) (by kernel_rfl) (fun _ _ _ h => h) (Or.inl ⟨by rfl, ?_⟩) (.inr hH) ?_
  rotate_left
  · (intro w _; go_simp; try with_reducible rfl)
  try simp only [Act.put, List.setIfInBounds_toArray, List.set_cons_zero, List.set_cons_succ]
  refine wpAnyV_takeL (i := 10) (v := ?_) rfl (by kernel_rfl) (by kernel_rfl) (by kernel_rfl) (by kernel_rfl) (fun _ _ _ h => h) (Or.inl ⟨by rfl, ?_⟩) hH ?_
  rotate_left
  · (intro w hSw; obtain ⟨z0, z1, z2⟩ := hSw; go_simp; try with_reducible rfl)
  try simp only [Act.put, List.setIfInBounds_toArray, List.set_cons_zero, List.set_cons_succ]
  refine wpAnyV_takeP (i := 11) (v := ?_) rfl (by kernel_rfl) (by kernel_rfl) (by kernel_rfl) (by kernel_rfl) (fun _ _ _ h => h) (Or.inl ⟨by rfl, ?_⟩) (.inr hH) ?_
  rotate_left
  · (intro w _; go_simp; try with_reducible rfl)
  try simp only [Act.put, List.setIfInBounds_toArray, List.set_cons_zero, List.set_cons_succ]
  refine wpAnyV_takeP (i := 12) (v := ?_) rfl (by kernel_rfl) (by kernel_rfl) (by kernel_rfl) (by kernel_rfl) (fun _ _ _ h => h) (Or.inl ⟨by rfl, ?_⟩) (.inr hH) ?_
  rotate_left
  · (intro w _; go_simp; try with_reducible rfl)
  try simp only [Act.put, List.setIfInBounds_toArray, List.set_cons_zero, List.set_cons_succ]
  refine wpAnyV_takeP (i := 13) (v := ?_) rfl (by kernel_rfl) (by kernel_rfl) (by kernel_rfl) (by kernel_rfl) (fun _ _ _ h => h) (Or.inl ⟨by rfl, ?_⟩) (.inr hH) ?_
  rotate_left
  · (intro w _; go_simp; try with_reducible rfl)
  try simp only [Act.put, List.setIfInBounds_toArray, List.set_cons_zero, List.set_cons_succ]
  refine wpAnyV_takeP (i := 14) (v := ?_) rfl (by kernel_rfl) (by kernel_rfl) (by kernel_rfl) (by kernel_rfl) (fun _ _ _ h => h) (Or.inl ⟨by rfl, ?_⟩) (.inr hH) ?_
  rotate_left
  · (intro w _; go_simp; try with_reducible rfl)
  try simp only [Act.put, List.setIfInBounds_toArray, List.set_cons_zero, List.set_cons_succ]
  refine wpAnyV_takeL (i := 15) (v := ?_) rfl (by kernel_rfl) (by kernel_rfl) (by kernel_rfl) (by kernel_rfl) (fun _ _ _ h => h) (Or.inl ⟨by rfl, ?_⟩) hH ?_
  rotate_left
  · (intro w hSw; obtain ⟨z0, z1, z2⟩ := hSw; go_simp; try with_reducible rfl)
  try simp only [Act.put, List.setIfInBounds_toArray, List.set_cons_zero, List.set_cons_succ]
  refine wpAnyV_takeP (i := 16) (v := ?_) rfl (by kernel_rfl) (by kernel_rfl) (by kernel_rfl) (by kernel_rfl) (fun _ _ _ h => h) (Or.inl ⟨by rfl, ?_⟩) (.inr hH) ?_
  rotate_left
  · (intro w _; go_simp; try with_reducible rfl)
  try simp only [Act.put, List.setIfInBounds_toArray, List.set_cons_zero, List.set_cons_succ]
  refine wpAnyV_takeL (i := 17) (v := ?_) rfl (by kernel_rfl) (by kernel_rfl) (by kernel_rfl) (by kernel_rfl) (fun _ _ _ h => h) (Or.inl ⟨by rfl, ?_⟩) hH ?_
  rotate_left
  · (intro w hSw; obtain ⟨z0, z1, z2⟩ := hSw; go_simp; try with_reducible rfl)
  try simp only [Act.put, List.setIfInBounds_toArray, List.set_cons_zero, List.set_cons_succ]
  refine wpAnyV_takeP (i := 18) (v := ?_) rfl (by kernel_rfl) (by kernel_rfl) (by kernel_rfl) (by kernel_rfl) (fun _ _ _ h => h) (Or.inl ⟨by rfl, ?_⟩) (.inr hH) ?_
  rotate_left
  · (intro w _; go_simp; try with_reducible rfl)
  try simp only [Act.put, List.setIfInBounds_toArray, List.set_cons_zero, List.set_cons_succ]
  refine wpAnyV_takeP (i := 19) (v := ?_) rfl (by kernel_rfl) (by kernel_rfl) (by kernel_rfl) (by kernel_rfl) (fun _ _ _ h => h) (Or.inl ⟨by rfl, ?_⟩) (.inr hH) ?_
  rotate_left
  · (intro w _; go_simp; try with_reducible rfl)
  try simp only [Act.put, List.setIfInBounds_toArray, List.set_cons_zero, List.set_cons_succ]
  refine wpAnyV_takeP (i := 20) (v := ?_) rfl (by kernel_rfl) (by kernel_rfl) (by kernel_rfl) (by kernel_rfl) (fun _ _ _ h => h) (Or.inl ⟨by rfl, ?_⟩) (.inr hH) ?_
  rotate_left
  · (intro w _; go_simp; try with_reducible rfl)
  try simp only [Act.put, List.setIfInBounds_toArray, List.set_cons_zero, List.set_cons_succ]
  refine wpAnyV_takeP (i := 21) (v := ?_) rfl (by kernel_rfl) (by kernel_rfl) (by kernel_rfl) (by kernel_rfl) (fun _ _ _ h => h) (Or.inl ⟨by rfl, ?_⟩) (.inr hH) ?_
  rotate_left
  · (intro w _; go_simp; try with_reducible rfl)
  try simp only [Act.put, List.setIfInBounds_toArray, List.set_cons_zero, List.set_cons_succ]
  clear hH
  refine wpAnyV_one 22 (by kernel_rfl) ?_
  refine wpOp_goK rfl rfl (fun K9 hK9 => ?_)
  have c0 : x0.cell? ⟨g, 0, none⟩ = some _ := (cellG HB0.out 0).trans rfl
  have f0 : x0.frozen? ⟨g, 0, none⟩ = false := freeG HB0.out 0
  have l0 : g < x0.heap.size := heap_lt HB0.out
  go_simp
  refine hK9.out _ _ ⟨.inl rfl, ?_⟩
  clear hK9 K9
  obtain ⟨x1, hx1⟩ : ∃ y, y = x0.setCell ⟨g, 0, none⟩ (.string (bs (xk.take ka))) := ⟨_, rfl⟩
  have HB1 : Hid (x1.heap[g]? = some (.cells #[str (xk.take ka), str xo, str xn, .bool xa, .bool xb] ChT (0, 0))) := Lib.hid (by rw [hx1]; exact heap_set HB0.out 0 _)
  have HO1 : Hid (One g wr x1) := Lib.hid (by rw [hx1]; exact HO0.out.setCell 0 _)
  change wpAnyV _ _ _ _ _ _ _ _ _ _ (x0.setCell ⟨g, 0, none⟩ (.string (bs (xk.take ka))))
  rw [← hx1]
  clear hx1 c0 f0 l0
  try simp only [Act.put, List.setIfInBounds_toArray, List.set_cons_zero, List.set_cons_succ]
  refine wpAnyV_takeP (i := 23) (v := ?_) rfl (by kernel_rfl) (by kernel_rfl) (by kernel_rfl) (by kernel_rfl) (fun _ _ _ h => h) (Or.inl ⟨by rfl, ?_⟩) (.inl (by kernel_rfl)) ?_
  rotate_left
  · (intro w _; go_simp; try with_reducible rfl)
  try simp only [Act.put, List.setIfInBounds_toArray, List.set_cons_zero, List.set_cons_succ]
  refine wpAnyV_one 24 (by kernel_rfl) ?_
  refine wpOp_goK rfl rfl (fun K9 hK9 => ?_)
  have c1 : x1.cell? ⟨g, 1, none⟩ = some _ := (cellG HB1.out 1).trans rfl
  have f1 : x1.frozen? ⟨g, 1, none⟩ = false := freeG HB1.out 1
  have l1 : g < x1.heap.size := heap_lt HB1.out
  go_simp
  refine hK9.out _ _ ⟨.inl rfl, ?_⟩
  clear hK9 K9
  obtain ⟨x2, hx2⟩ : ∃ y, y = x1.setCell ⟨g, 1, none⟩ (.string (bs (xo.take kb))) := ⟨_, rfl⟩
  have HB2 : Hid (x2.heap[g]? = some (.cells #[str (xk.take ka), str (xo.take kb), str xn, .bool xa, .bool xb] ChT (0, 0))) := Lib.hid (by rw [hx2]; exact heap_set HB1.out 1 _)
  have HO2 : Hid (One g wr x2) := Lib.hid (by rw [hx2]; exact HO1.out.setCell 1 _)
  change wpAnyV _ _ _ _ _ _ _ _ _ _ (x1.setCell ⟨g, 1, none⟩ (.string (bs (xo.take kb))))
  rw [← hx2]
  clear hx2 c1 f1 l1
  try simp only [Act.put, List.setIfInBounds_toArray, List.set_cons_zero, List.set_cons_succ]
  refine wpAnyV_takeP (i := 25) (v := ?_) rfl (by kernel_rfl) (by kernel_rfl) (by kernel_rfl) (by kernel_rfl) (fun _ _ _ h => h) (Or.inl ⟨by rfl, ?_⟩) (.inl (by kernel_rfl)) ?_
  rotate_left
  · (intro w _; go_simp; try with_reducible rfl)
  try simp only [Act.put, List.setIfInBounds_toArray, List.set_cons_zero, List.set_cons_succ]
  refine wpAnyV_one 26 (by kernel_rfl) ?_
  refine wpOp_goK rfl rfl (fun K9 hK9 => ?_)
  have c2 : x2.cell? ⟨g, 2, none⟩ = some _ := (cellG HB2.out 2).trans rfl
  have f2 : x2.frozen? ⟨g, 2, none⟩ = false := freeG HB2.out 2
  have l2 : g < x2.heap.size := heap_lt HB2.out
  go_simp
  refine hK9.out _ _ ⟨.inl rfl, ?_⟩
  clear hK9 K9
  obtain ⟨x3, hx3⟩ : ∃ y, y = x2.setCell ⟨g, 2, none⟩ (.string (bs (xn.take kc))) := ⟨_, rfl⟩
  have HB3 : Hid (x3.heap[g]? = some (.cells #[str (xk.take ka), str (xo.take kb), str (xn.take kc), .bool xa, .bool xb] ChT (0, 0))) := Lib.hid (by rw [hx3]; exact heap_set HB2.out 2 _)
  have HO3 : Hid (One g wr x3) := Lib.hid (by rw [hx3]; exact HO2.out.setCell 2 _)
  change wpAnyV _ _ _ _ _ _ _ _ _ _ (x2.setCell ⟨g, 2, none⟩ (.string (bs (xn.take kc))))
  rw [← hx3]
  clear hx3 c2 f2 l2
  try simp only [Act.put, List.setIfInBounds_toArray, List.set_cons_zero, List.set_cons_succ]
  refine wpAnyV_done (by kernel_rfl) ?_
  refine NoPanic.normal ?_
  exact HQF.out ka kb kc _ _ _ _ _ _ _ _ _ _ _ _ _ _ _ _ _ _ _ _ _ _ _ _ _ ⟨HK.out, HB3.out, HO3.out⟩

end Go.Proofs.YtigoffdehdobiaaGreat
/- The law's some: a key grows: its region as a law of its own. -/
namespace Go.Proofs.YtigoffdehdobiaaGreat
open Go.RowKit Go.QS Go.QS.Nk
set_option linter.unusedVariables false

theorem infoU8q : (Tryz.prog.info? 5).map (fun i => (i.zero, i.size, i.bytes)) = some (some (.int .u8 0), 1, 1) := by kernel_rfl

set_option maxRecDepth 100000 in
set_option maxHeartbeats 2000000 in
theorem some_8 (wr : World) (g : Nat) (y xo xn : List UInt8) (xa xb : Bool) (more k : Nat) (hm9 : more ≤ 65535) (hkm : k = more % 300) (hk9 : k < 300) (hy9 : y.length ≤ 30) (HS : Hid (wr.heap[g]? = some (.cells #[str y, str xo, str xn, .bool xa, .bool xb] ChT (0, 0)))) (c : Code) (QX : Exit → Act → World → Prop) (t0 t1 t3 t4 t5 t6 t7 t8 t10 t11 t12 t13 t14 t15 t16 t17 t18 t19 t20 t21 t22 t23 t24 t25 t26 t27 t28 t29 t30 t31 t32 t33 t34 t35 t36 t37 t38 t39 t40 t41 t42 t43 t44 t45 t46 t47 t48 t49 t50 t51 t52 t53 t54 t55 t56 t57 t58 t59 t60 t61 : Value)
    (hc : (Tryz.f14.body.bind (findR 8)) = some c)
    (hQ : ∀ (u47 u48 u49 u50 u51 u52 u53 u54 u55 : Value) (wx : World), (wx.heap[g]? = some (.cells #[str (y ++ List.replicate k 0), str xo, str xn, .bool xa, .bool xb] ChT (0, 0)) ∧ One g wr wx) → QX .normal { tmps := List.toArray (t0 :: t1 :: (.int .u16 (more : Int)) :: t3 :: t4 :: t5 :: t6 :: t7 :: t8 :: (ptr g) :: t10 :: t11 :: t12 :: t13 :: t14 :: t15 :: t16 :: t17 :: t18 :: t19 :: t20 :: t21 :: t22 :: t23 :: t24 :: t25 :: t26 :: t27 :: t28 :: t29 :: t30 :: t31 :: t32 :: t33 :: t34 :: t35 :: t36 :: t37 :: t38 :: t39 :: t40 :: t41 :: t42 :: t43 :: t44 :: t45 :: t46 :: u47 :: u48 :: u49 :: u50 :: u51 :: u52 :: u53 :: u54 :: u55 :: t56 :: t57 :: t58 :: t59 :: t60 :: t61 :: []), defers := [] } wx) :
    c.wp Tryz.prog QX { tmps := List.toArray (t0 :: t1 :: (.int .u16 (more : Int)) :: t3 :: t4 :: t5 :: t6 :: t7 :: t8 :: (ptr g) :: t10 :: t11 :: t12 :: t13 :: t14 :: t15 :: t16 :: t17 :: t18 :: t19 :: t20 :: t21 :: t22 :: t23 :: t24 :: t25 :: t26 :: t27 :: t28 :: t29 :: t30 :: t31 :: t32 :: t33 :: t34 :: t35 :: t36 :: t37 :: t38 :: t39 :: t40 :: t41 :: t42 :: t43 :: t44 :: t45 :: t46 :: t47 :: t48 :: t49 :: t50 :: t51 :: t52 :: t53 :: t54 :: t55 :: t56 :: t57 :: t58 :: t59 :: t60 :: t61 :: []), defers := [] } wr := by
  change some _ = some c at hc
  cases hc
  have HQF := Lib.hid hQ
  clear hQ
  have hmod : (IntKind.i64.wrap (more : Int)).tmod 300 = (k : Int) := by
    rw [IntWalk.i64_in _ (by omega), Int.tmod_eq_emod_of_nonneg (by omega)]; omega
  clear hkm
  have mk := fun w : World => run_make_row' (P := Tryz.prog) 22 5 (.int .u8 0) 1 Tryz.underlying22 infoU8q rfl .i64 .i64 k (by omega) (by omega) w
  have hadd : (9223372036854775807 < y.length + k) = False := by simp; omega
  have hadd2 : ((9223372036854775807 : Int) < (y.length : Int) + (k : Int)) = False := by simp; omega
  refine wp_region_noPanic ?_
  refine wp_region_T (n := 8) (S := (fun z : World => z.cell? ⟨g, 0, none⟩ = some (str y))) (by kernel_rfl) ?_
  change wpAnyT _ _ _ _ _ _ 10 _ _ wr.drew
  obtain ⟨x0, hx0⟩ : ∃ y, y = wr.drew := ⟨_, rfl⟩
  have HB0 : Hid (x0.heap[g]? = some (.cells #[str y, str xo, str xn, .bool xa, .bool xb] ChT (0, 0))) := Lib.hid (by rw [hx0]; exact HS.out)
  have HO0 : Hid (One g wr x0) := Lib.hid (by rw [hx0]; exact One.of_ext (ext_drew9 (Ext.refl _)))
  rw [← hx0]
  clear hx0
  have hH : (fun z : World => z.cell? ⟨g, 0, none⟩ = some (str y)) x0 := (box5C HB0.out).1
  refine wpAnyT_take (i := 0) (v := ?_) rfl (by kernel_rfl) (by kernel_rfl) (by kernel_rfl) (by kernel_rfl) (fun _ _ _ h => h) (Or.inl ⟨by rfl, ?_⟩) hH ?_
  rotate_left
  · (intro w hSw; (try dsimp only at hSw); go_simp; try with_reducible rfl)
  try simp only [Act.put, List.setIfInBounds_toArray, List.set_cons_zero, List.set_cons_succ]
  refine wpAnyT_take (i := 1) (v := ?_) rfl (by kernel_rfl) (by kernel_rfl) (by kernel_rfl) (by kernel_rfl) (fun _ _ _ h => h) (Or.inl ⟨by rfl, ?_⟩) hH ?_
  rotate_left
  · (intro w hSw; (try dsimp only at hSw); go_simp; try with_reducible rfl)
  try simp only [Act.put, List.setIfInBounds_toArray, List.set_cons_zero, List.set_cons_succ]
  refine wpAnyT_take (i := 2) (v := ?_) rfl (by kernel_rfl) (by kernel_rfl) (by kernel_rfl) (by kernel_rfl) (fun _ _ _ h => h) (Or.inl ⟨by rfl, ?_⟩) hH ?_
  rotate_left
  · (intro w hSw; (try dsimp only at hSw); go_simp; try with_reducible rfl)
  try simp only [Act.put, List.setIfInBounds_toArray, List.set_cons_zero, List.set_cons_succ]
  refine wpAnyT_take (i := 3) (v := ?_) rfl (by kernel_rfl) (by kernel_rfl) (by kernel_rfl) (by kernel_rfl) (fun _ _ _ h => h) (Or.inl ⟨by rfl, ?_⟩) hH ?_
  rotate_left
  · (intro w hSw; (try dsimp only at hSw); go_simp; try with_reducible rfl)
  try simp only [Act.put, List.setIfInBounds_toArray, List.set_cons_zero, List.set_cons_succ]
  refine wpAnyT_take (i := 4) (v := ?_) rfl (by kernel_rfl) (by kernel_rfl) (by kernel_rfl) (by kernel_rfl) (fun _ _ _ h => h) (Or.inl ⟨by rfl, ?_⟩) hH ?_
  rotate_left
  · (intro w hSw; (try dsimp only at hSw); go_simp; try with_reducible rfl)
  try simp only [Act.put, List.setIfInBounds_toArray, List.set_cons_zero, List.set_cons_succ]
  clear hH
  refine wpAnyT_all (rs := [5]) (by kernel_rfl) (by simp) ?_
  intro i9 hi9
  obtain rfl := List.mem_singleton.1 hi9
  refine wpOp_goK rfl rfl (fun K9 hK9 => ?_)
  go_simp
  obtain ⟨x1, hx1⟩ : ∃ y, y = x0.alloc (.cells (madeCells #[.int .u8 0] k) 5) := ⟨_, rfl⟩
  have hE : Ext x0 x1 := by rw [hx1]; exact (Ext.refl _).alloc (Nat.le_refl _) _
  have hBS : BS x1 (.slice (some ⟨x0.heap.size, 0, none⟩) k k) (List.replicate k 0) := by
    have e : (List.replicate k (0 : UInt8)).length = k := by simp
    unfold BS; rw [e, hx1]; exact Sl.of_own (made_own k (by unfold maxLen; omega) (Nat.le_refl _))
  have cv := conv_bs (P := Tryz.prog) Tryz.underlying22 Tryz.underlying5 Tryz.underlying9 hBS
  have HB1 : Hid (x1.heap[g]? = some (.cells #[str y, str xo, str xn, .bool xa, .bool xb] ChT (0, 0)) ∧ One g wr x1) := Lib.hid ⟨box_extG HB0.out hE, One.trans HO0.out (One.of_ext hE)⟩
  rw [← hx1]
  clear hx1 hE hBS mk
  have hH1 : (fun z : World => z.cell? ⟨g, 0, none⟩ = some (str y)) x1 := (box5C HB1.out.1).1
  refine hK9.out _ _ ⟨.inr hH1, ?_⟩
  clear hK9 K9
  refine wpAnyT_all (rs := [6]) (by kernel_rfl) (by simp) ?_
  intro i9 hi9
  obtain rfl := List.mem_singleton.1 hi9
  refine wpOp_goK rfl rfl (fun K9 hK9 => ?_)
  go_simp
  refine hK9.out _ _ ⟨.inr hH1, ?_⟩
  clear hK9 K9
  refine wpAnyT_all (rs := [7]) (by kernel_rfl) (by simp) ?_
  intro i9 hi9
  obtain rfl := List.mem_singleton.1 hi9
  refine wpOp_goK rfl rfl (fun K9 hK9 => ?_)
  go_simp
  refine hK9.out _ _ ⟨.inr hH1, ?_⟩
  clear hK9 K9
  try simp only [Act.put, List.setIfInBounds_toArray, List.set_cons_zero, List.set_cons_succ]
  have c1 := (box5C HB1.out.1).1
  have f1 := freeG HB1.out.1 0
  have l1 := heap_lt HB1.out.1
  refine wpAnyT_tail 8 (Nat.le_refl _) rfl (by kernel_rfl) ?_
  simp only [List.drop_succ_cons, List.drop_zero]
  repeat' go_step
  refine NoPanic.normal ?_
  refine HQF.out _ _ _ _ _ _ _ _ _ _ ⟨?_, ?_⟩
  · exact heap_set HB1.out.1 0 _
  · exact HB1.out.2.setCell 0 _

end Go.Proofs.YtigoffdehdobiaaGreat
/- Contract: the law's some: changes, not too many, not too long. -/
namespace Go.Proofs.YtigoffdehdobiaaGreat
open Go.RowKit Go.QS Go.QS.Nk
set_option linter.unusedVariables false

theorem row_ne {g base n k : Nat} {e : TypeId} {w w' : World} {v : Value} {xs : List Value} (h : w.ownsRow base e k v n xs) (o : One g w w') (hg : ∀ b, v.ownBlock = some b → b ≠ g) : w'.ownsRow base e k v n xs := by
  refine ⟨h.1, ?_⟩
  rcases h.2 with h | ⟨b, cap, cur, h1, h2, h3, h4⟩
  · exact .inl h
  · exact .inr ⟨b, cap, cur, h1, h2, o.heap h3 (hg b (by rw [h1]; rfl)), h4⟩
/-- A row of changes, one of them beside it. -/
structure SmSt (w0 w : World) (v : Value) (j : Nat) (L : List Ch) (g : Nat) (c : Ch) : Prop where
  row : w.ownsRow w0.heap.size ChT 5 v j (flatE encCh L)
  ext : Ext w0 w
  box : w.heap[g]? = some (.cells #[str c.1, str c.2.1, str c.2.2.1, .bool c.2.2.2.1, .bool c.2.2.2.2] ChT (0, 0))
  new : w0.heap.size ≤ g
  ne : ∀ b, v.ownBlock = some b → b ≠ g
theorem SmSt.turn {w0 w w' : World} {v : Value} {j : Nat} {L : List Ch} {g : Nat} {c c' : Ch} (h : SmSt w0 w v j L g c) (o : One g w w') (hb : w'.heap[g]? = some (.cells #[str c'.1, str c'.2.1, str c'.2.2.1, .bool c'.2.2.2.1, .bool c'.2.2.2.2] ChT (0, 0))) : SmSt w0 w' v j L g c' :=
  ⟨row_ne h.row o h.ne, One.ext o h.ext h.new, hb, h.new, h.ne⟩
theorem wp_nameT {P : Program} {c : Code} {Q : Exit → Act → World → Prop} {a : Act} {W : World} (R : World → Prop) (hR : R W) (h : ∀ w', Hid (R w') → c.wp P Q a w') : c.wp P Q a W := h W (Lib.hid hR)
def smallCh (c : Ch) : Prop := c.1.length ≤ 330 ∧ c.2.1.length ≤ 30 ∧ c.2.2.1.length ≤ 30

set_option maxRecDepth 100000 in
set_option maxHeartbeats 4000000 in
theorem some_c (w : World) (v : Value) (l : List Ch) (at' more : Nat) (h : Sl w 5 v l.length (flatE encCh l)) (hm9 : more ≤ 65535) (ha9 : at' ≤ 255) :
    Calls Tryz.prog 14 #[v, .int .u8 (at' : Int), .int .u16 (more : Int)] w fun e w' => ∃ (v' : Value) (L : List Ch), e = .returned v' ∧ w'.ownsRow w.heap.size ChT 5 v' L.length (flatE encCh L) ∧ Ext w w' ∧ L.length ≤ 15 ∧ ∀ c ∈ L, smallCh c := by
  obtain ⟨A, c, rfl, _, hn, hc, hs⟩ := h
  obtain ⟨n, hn2⟩ : ∃ n, n = l.length := ⟨_, rfl⟩
  rw [← hn2] at hn ⊢
  have hn9 : n ≤ 9223372036854775807 := by unfold maxLen at hc; omega
  have Hn := Lib.hid (And.intro hn2 hs)
  obtain ⟨k, hk⟩ : ∃ k, k = more % 300 := ⟨_, rfl⟩
  have hk9 : k < 300 := by omega
  have HKM := Lib.hid (And.intro hk hk9)
  clear hn2 hs hk hk9
  go_enter Tryz.func14, Tryz.ntmps14
  repeat' (go_not_at_region 3; (first | go_skip | go_guarded | go_step))
  go_loopg [7, 12] n (fun gk v7 v12 wr => ∃ (j : Nat) (L : List Ch), v12 = .int .i64 j ∧ j ≤ n ∧ n - j ≤ gk ∧ Hid (wr.ownsRow w.heap.size ChT 5 v7 j (flatE encCh L) ∧ Ext w wr ∧ L.length = j ∧ j ≤ 15 ∧ ∀ c ∈ L, smallCh c))
  case atStart => exact ⟨0, [], rfl, Nat.zero_le _, Nat.le_refl _, Lib.hid ⟨World.ownsRow_nil _ _ _ _, Ext.refl _, rfl, by decide, fun c hc => by cases hc⟩⟩
  case round =>
    obtain ⟨j, L, rfl, hjn, hgk, HJ⟩ := hrel
    rcases Nat.lt_or_ge j n with hjl | hjg
    · have d2 : decide (j < n) = true := by simp [hjl]
      obtain ⟨x, hx⟩ := get_of_lt l (show j < l.length by have := Hn.out.1; omega)
      obtain ⟨b, o, rfl, q0, q1, q2, q3, q4⟩ := seg_ch (Seg.below Hn.out.2 HJ.out.2.1) hx
      have hi1 : (j : Int) < (n : Int) := by omega
      obtain ⟨xk, xo, xn, xa, xb⟩ := x
      clear hx
      simp only at q0 q1 q2 q3 q4
      have hj15 : j ≤ 15 := HJ.out.2.2.2.1
      by_cases h15 : 15 ≤ j
      · have d5 : (15 : Int) ≤ (j : Int) := by omega
        have d5' : decide ((15 : Int) ≤ (j : Int)) = true := by simp [d5]
        repeat' (first | go_skip | go_guarded | go_step)
        go_ret
        exact ⟨_, L, rfl, by rw [HJ.out.2.2.1]; exact HJ.out.1.alloc _, HJ.out.2.1.alloc HJ.out.2.1.size _, by rw [HJ.out.2.2.1]; exact hj15, HJ.out.2.2.2.2⟩
      · have d5 : ¬ (15 : Int) ≤ (j : Int) := by omega
        have d5' : decide ((15 : Int) ≤ (j : Int)) = false := by simp [d5]
        repeat' (go_not_at_region 6; (first | go_skip | go_guarded | go_step))
        obtain ⟨g, hg⟩ : ∃ g, g = wr.heap.size := ⟨_, rfl⟩
        rw [← hg]
        refine wp_nameT (fun w' => SmSt w w' u7 j L g (xk, xo, xn, xa, xb)) ⟨HJ.out.1.alloc _, HJ.out.2.1.alloc HJ.out.2.1.size _, by rw [hg]; exact heap_newG wr _, by rw [hg]; exact HJ.out.2.1.size, fun b hb => by have := (World.ownsRow.lt HJ.out.1 b hb).2; omega⟩ ?_
        clear hg q0 q1 q2 q3 q4
        intro w3 H3
        refine some_6 w3 g xk xo xn xa xb (Lib.hid H3.out.box) _ _ _ _ _ _ _ _ _ _ _ _ _ _ _ _ _ _ _ _ _ _ _ _ _ _ _ _ _ _ _ _ _ _ _ _ _ _ _ _ _ _ _ _ _ _ _ _ _ _ _ _ _ _ _ _ _ _ _ _ _ _ _ (by kernel_rfl) ?_
        intro ka kb kc u19 u20 u21 u22 u23 u24 u25 u26 u27 u28 u29 u30 u31 u32 u33 u34 u35 u36 u37 u38 u39 u40 u41 u42 w4 hp
        have H4 : Hid (SmSt w w4 u7 j L g (xk.take ka, xo.take kb, xn.take kc, xa, xb) ∧ (xk.take ka).length ≤ 30 ∧ (xo.take kb).length ≤ 30 ∧ (xn.take kc).length ≤ 30) := Lib.hid ⟨H3.out.turn hp.2.2 hp.2.1, by rw [List.length_take]; omega, by rw [List.length_take]; omega, by rw [List.length_take]; omega⟩
        clear hp H3
        obtain ⟨yk, hyk⟩ : ∃ y, y = xk.take ka := ⟨_, rfl⟩
        obtain ⟨yo, hyo⟩ : ∃ y, y = xo.take kb := ⟨_, rfl⟩
        obtain ⟨yn, hyn⟩ : ∃ y, y = xn.take kc := ⟨_, rfl⟩
        rw [← hyk, ← hyo, ← hyn] at H4
        clear hyk hyo hyn
        by_cases hat : j = at'
        · have d7 : ((j : Int) == (at' : Int)) = true := by rw [beq_iff_eq]; omega
          have d7' : (j == at') = true := by rw [beq_iff_eq]; omega
          replace hat := Lib.hid hat
          repeat' (go_not_at_region 8; (first | go_skip | go_guarded | go_step))
          refine some_8 w4 g yk yo yn xa xb more k hm9 HKM.out.1 HKM.out.2 H4.out.2.1 (Lib.hid H4.out.1.box) _ _ _ _ _ _ _ _ _ _ _ _ _ _ _ _ _ _ _ _ _ _ _ _ _ _ _ _ _ _ _ _ _ _ _ _ _ _ _ _ _ _ _ _ _ _ _ _ _ _ _ _ _ _ _ _ _ _ _ _ _ _ (by kernel_rfl) ?_
          intro u47 u48 u49 u50 u51 u52 u53 u54 u55 w5 hp
          have H5 : Hid (SmSt w w5 u7 j L g (yk ++ List.replicate k 0, yo, yn, xa, xb)) := Lib.hid (H4.out.1.turn hp.2 hp.1)
          clear hp
          obtain ⟨e0, e1, e2, e3, e4⟩ := box5C H5.out.box
          simp only at e0 e1 e2 e3 e4
          repeat' (first | go_skip | go_guarded | (at_builtin; refine wpList_app rfl (.tmp 56) (.tmp 58) _ rfl w.heap.size ChT 5 56 Tryz.underlying25 infoCh (by decide) u7 j (flatE encCh L) rfl (H5.out.row.alloc _) _ 1 1 (encCh (yk ++ List.replicate k 0, yo, yn, xa, xb)) rfl rfl (Seg.new _ [_, _, _, _, _] _ (by simp)) (encCh_one _) (by unfold maxLen; omega) (by omega) (Nat.le_trans H5.out.ext.size (by simp)) ?_; intro v6 w6 r6 g6 _) | go_step)
          have hEa := H5.out.ext.alloc H5.out.ext.size (.cells #[str (yk ++ List.replicate k 0, yo, yn, xa, xb).1, str (yk ++ List.replicate k 0, yo, yn, xa, xb).2.1, str (yk ++ List.replicate k 0, yo, yn, xa, xb).2.2.1, .bool (yk ++ List.replicate k 0, yo, yn, xa, xb).2.2.2.1, .bool (yk ++ List.replicate k 0, yo, yn, xa, xb).2.2.2.2] ChT)
          have H6 : Hid (w6.ownsRow w.heap.size ChT 5 v6 (j + 1) (flatE encCh (L ++ [(yk ++ List.replicate k 0, yo, yn, xa, xb)])) ∧ Ext w w6) := Lib.hid ⟨by rw [flatE_snoc]; exact r6, hEa.grown g6 hEa.size (fun b hb => (World.ownsRow.lt H5.out.row b hb).1)⟩
          clear r6 g6 hEa e0 e1 e2 e3 e4
          go_roundg (n - (j + 1))
          case measure => omega
          case rel => exact ⟨j + 1, L ++ [(yk ++ List.replicate k 0, yo, yn, xa, xb)], by go_num, by omega, Nat.le_refl _, Lib.hid ⟨H6.out.1, H6.out.2, by rw [List.length_append, HJ.out.2.2.1]; rfl, by omega, fun x hx => by
            rcases List.mem_append.1 hx with h | h
            · exact HJ.out.2.2.2.2 x h
            · rw [List.mem_singleton.1 h]; exact ⟨by show (yk ++ List.replicate k 0).length ≤ 330; rw [List.length_append, List.length_replicate]; have := H4.out.2.1; have := HKM.out.2; omega, H4.out.2.2.1, H4.out.2.2.2⟩⟩⟩
        · have d7 : ((j : Int) == (at' : Int)) = false := by rw [beq_eq_false_iff_ne]; omega
          have d7' : (j == at') = false := by rw [beq_eq_false_iff_ne]; omega
          replace hat := Lib.hid hat
          have H5 := Lib.hid H4.out.1
          obtain ⟨e0, e1, e2, e3, e4⟩ := box5C H5.out.box
          simp only at e0 e1 e2 e3 e4
          repeat' (first | go_skip | go_guarded | (at_builtin; refine wpList_app rfl (.tmp 56) (.tmp 58) _ rfl w.heap.size ChT 5 56 Tryz.underlying25 infoCh (by decide) u7 j (flatE encCh L) rfl (H5.out.row.alloc _) _ 1 1 (encCh (yk, yo, yn, xa, xb)) rfl rfl (Seg.new _ [_, _, _, _, _] _ (by simp)) (encCh_one _) (by unfold maxLen; omega) (by omega) (Nat.le_trans H5.out.ext.size (by simp)) ?_; intro v6 w6 r6 g6 _) | go_step)
          have hEa := H5.out.ext.alloc H5.out.ext.size (.cells #[str (yk, yo, yn, xa, xb).1, str (yk, yo, yn, xa, xb).2.1, str (yk, yo, yn, xa, xb).2.2.1, .bool (yk, yo, yn, xa, xb).2.2.2.1, .bool (yk, yo, yn, xa, xb).2.2.2.2] ChT)
          have H6 : Hid (w6.ownsRow w.heap.size ChT 5 v6 (j + 1) (flatE encCh (L ++ [(yk, yo, yn, xa, xb)])) ∧ Ext w w6) := Lib.hid ⟨by rw [flatE_snoc]; exact r6, hEa.grown g6 hEa.size (fun b hb => (World.ownsRow.lt H5.out.row b hb).1)⟩
          clear r6 g6 hEa e0 e1 e2 e3 e4
          go_roundg (n - (j + 1))
          case measure => omega
          case rel => exact ⟨j + 1, L ++ [(yk, yo, yn, xa, xb)], by go_num, by omega, Nat.le_refl _, Lib.hid ⟨H6.out.1, H6.out.2, by rw [List.length_append, HJ.out.2.2.1]; rfl, by omega, fun x hx => by
            rcases List.mem_append.1 hx with h | h
            · exact HJ.out.2.2.2.2 x h
            · rw [List.mem_singleton.1 h]; exact ⟨by have := H4.out.2.1; show yk.length ≤ 330; omega, H4.out.2.2.1, H4.out.2.2.2⟩⟩⟩
    · obtain rfl : n = j := by omega
      have d2 : decide (n < n) = false := by simp
      repeat' (first | go_skip | go_guarded | go_step)
      go_ret
      exact ⟨_, L, rfl, by rw [HJ.out.2.2.1]; exact HJ.out.1, HJ.out.2.1, by rw [HJ.out.2.2.1]; exact HJ.out.2.2.2.1, HJ.out.2.2.2.2⟩
end Go.Proofs.YtigoffdehdobiaaGreat
