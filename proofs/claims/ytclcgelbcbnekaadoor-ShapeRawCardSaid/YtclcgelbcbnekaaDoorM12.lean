/- Texts joined. -/
import Derived.OrdersHeld
import Derived.StillTail
import Derived.Test.YtclcgelbcbnekaaDoorM00
import Derived.Test.YtclcgelbcbnekaaDoorM06
import Derived.RangeFuncCalls
import Derived.BigRegion
import Derived.StillTailTactics
set_option linter.unusedVariables false
set_option linter.unusedSimpArgs false
/- A region that draws its order, whose last operations wait for all others: a condition on the world is kept up to these alone. After the kit's own law (its condition is kept to the end). No program. -/
namespace Go.QS
open Go Go.RowKit
section
variable {P : Program} {ops : Array Oper} {Q : Exit → Act → World → Prop} {md : Region.Mode} {S : World → Prop} {n : Nat}

/-- Whatever order is picked; behind each operation ahead of number n the condition holds. -/
def wpAnyT (P : Program) (md : Region.Mode) (ops : Array Oper) (Q : Exit → Act → World → Prop) (S : World → Prop) (n : Nat) : Nat → Array Bool → Act → World → Prop
  | 0, listed, a, w => Region.ready md ops listed = [] ∧ Q .normal a w
  | fuel + 1, listed, a, w =>
    (Region.ready md ops listed = [] → Q .normal a w) ∧
    ∀ i ∈ Region.ready md ops listed, wpOp P ops Q i (fun a' w' => (n ≤ i ∨ S w') ∧ wpAnyT P md ops Q S n fuel (listed.setIfInBounds i true) a' w') a w
theorem wpAny_of_T : ∀ (fuel : Nat) (listed : Array Bool) (a : Act) (w : World), wpAnyT P md ops Q S n fuel listed a w → wpAny P md ops Q fuel listed a w
  | 0, _, _, _, h => h
  | fuel + 1, _, _, _, h => ⟨h.1, fun i hi => wpOp_mono (fun a' w' h' => wpAny_of_T fuel _ a' w' h'.2) (h.2 i hi)⟩
/-- Each operation from number n on waits for number i. -/
def awaited (md : Region.Mode) (ops : Array Oper) (n i : Nat) : Bool := (List.range ops.size).all fun j => decide (j < n) || Region.waitsFor md ops j i
theorem wpAnyT_first {i : Nat} {oi : Oper} {v : Value} (hi : ops[i]? = some oi) (hsel : ∀ (j : Nat) (o : Oper) cs b, ops[j]? = some o → o.op ≠ .select cs b)
    (hQ : ∀ c a w, Q (.panic c) (a.put oi.dst v) w → Q (.panic c) a w) (hin : i < n) (haw : awaited md ops n i = true) :
    ∀ (fuel : Nat) (listed : Array Bool) (a : Act) (w : World),
      (∀ j oj, ops[j]? = some oj → j ≠ i → listed.getD j true = false → (∀ e ∈ oj.after, Region.binds md e = true → e.on ≠ i) → oi.apart ops oj = true) →
      i ∈ Region.ready md ops listed → YieldsIf P ops S oi v a → S w →
      wpAnyT P md ops Q S n fuel (listed.setIfInBounds i true) (a.put oi.dst v) w → wpAnyT P md ops Q S n (fuel + 1) listed a w := by
  intro fuel
  induction fuel with
  | zero =>
    intro listed a w _ hr hy hS H
    refine ⟨fun h => (by rw [h] at hr; cases hr), fun j hj => ?_⟩
    by_cases hji : j = i
    · subst hji; exact hy.wpOp hi hS ⟨.inr hS, H⟩
    · have := ready_mono hj hji
      rw [H.1] at this
      cases this
  | succ fuel ih =>
    intro listed a w hfree hr hy hS H
    refine ⟨fun h => (by rw [h] at hr; cases hr), fun j hj => ?_⟩
    by_cases hji : j = i
    · subst hji; exact hy.wpOp hi hS ⟨.inr hS, H⟩
    · have h1 := H.2 j (ready_mono hj hji)
      obtain ⟨hjun, oj, hoj, hall⟩ := mem_ready.1 hj
      have hnot : ∀ e ∈ oj.after, Region.binds md e = true → e.on ≠ i := fun e he hb heq => by
        have h1 := hall e he hb
        have h0 := (mem_ready.1 hr).1
        rw [heq] at h1
        rw [getD_both h0] at h1
        cases h1
      have hjn : j < n := by
        rcases Nat.lt_or_ge j n with h | h
        · exact h
        · exfalso
          have hjs : j < ops.size := (Array.getElem?_eq_some_iff.1 hoj).1
          have h2 := List.all_eq_true.1 haw j (List.mem_range.2 hjs)
          simp only [Bool.or_eq_true, decide_eq_true_eq] at h2
          rcases h2 with h2 | h2
          · omega
          · obtain ⟨o', ho', e, he, hb, hon⟩ := Region.waitsFor_spec h2
            have : o' = oj := Option.some.inj (ho'.symm.trans hoj)
            subst this
            exact hnot e he hb hon
      have h2 := wpOp_putIf hoj (hfree j oj hoj hji hjun hnot) (fun cs b => hsel i oi cs b hi) (fun cs b => hsel j oj cs b hoj) hQ hy h1
      have hfree' : ∀ k ok, ops[k]? = some ok → k ≠ i → (listed.setIfInBounds j true).getD k true = false →
          (∀ e ∈ ok.after, Region.binds md e = true → e.on ≠ i) → oi.apart ops ok = true := fun k ok hk hki hun hno => by
        refine hfree k ok hk hki ?_ hno
        by_cases hjk : j = k
        · subst hjk; exact hjun
        · rw [getD_set_ne true hjk] at hun; exact hun
      refine wpOp_mono (fun a' w' h3 => ?_) h2
      have hSw : S w' := h3.2.1.resolve_left (by omega)
      refine ⟨.inr hSw, ih (listed.setIfInBounds j true) a' w' hfree' (ready_mono hr (Ne.symm hji)) h3.1 hSw ?_⟩
      rw [Array.setIfInBounds_comm _ _ hji]
      exact h3.2.2
theorem wpAnyT_take {i : Nat} {oi : Oper} {v : Value} {fuel : Nat} {listed : Array Bool} {a : Act} {w : World} (hi : ops[i]? = some oi)
    (hs : Region.noSelect ops = true) (hf : Region.free md ops listed i = true) (hr : (Region.ready md ops listed).contains i = true) (haw : (decide (i < n) && awaited md ops n i) = true)
    (hQ : ∀ c a w, Q (.panic c) (a.put oi.dst v) w → Q (.panic c) a w) (hy : YieldsIf P ops S oi v a) (hS : S w)
    (h : wpAnyT P md ops Q S n fuel (listed.setIfInBounds i true) (a.put oi.dst v) w) : wpAnyT P md ops Q S n (fuel + 1) listed a w := by
  simp only [Bool.and_eq_true, decide_eq_true_eq] at haw
  exact wpAnyT_first hi (Region.noSelect_spec hs) hQ haw.1 haw.2 fuel listed a w (Region.free_spec hi hf) (by simpa using hr) hy hS h
theorem wpAnyT_all {rs : List Nat} {fuel : Nat} {listed : Array Bool} {a : Act} {w : World} (hr : Region.ready md ops listed = rs) (hne : rs ≠ [])
    (h : ∀ i ∈ rs, wpOp P ops Q i (fun a' w' => (n ≤ i ∨ S w') ∧ wpAnyT P md ops Q S n fuel (listed.setIfInBounds i true) a' w') a w) : wpAnyT P md ops Q S n (fuel + 1) listed a w :=
  ⟨fun h0 => absurd (hr ▸ h0) hne, hr ▸ h⟩
/-- The last operations, one behind the other. -/
theorem wpAnyT_seq : ∀ (l : List Oper) (k : Nat) (listed : Array Bool) (a : Act) (w : World), n ≤ k → (∀ j, l[j]? = ops[k + j]?) →
    Region.seqB md ops l.length k listed = true → wpList P ops Q l a w → wpAnyT P md ops Q S n l.length listed a w
  | [], _, _, _, _, _, _, hB, h => ⟨by simpa [Region.seqB] using hB, h⟩
  | o :: l, k, listed, a, w, hk, hl, hB, h => by
    have h0 : ops[k]? = some o := by simpa using (hl 0).symm
    simp only [List.length_cons, Region.seqB, Bool.and_eq_true, decide_eq_true_eq] at hB
    refine ⟨fun h1 => (by rw [hB.1] at h1; cases h1), fun i hi => ?_⟩
    rw [hB.1] at hi
    have hik : i = k := by simpa using hi
    subst hik
    have hw : wpOp P ops Q i (wpList P ops Q l) a w := by unfold wpOp; simp only [h0]; exact h
    exact wpOp_mono (fun a' w' h' => ⟨.inl hk, wpAnyT_seq l (i + 1) _ a' w' (Nat.le_succ_of_le hk) (fun j => by have := hl (j + 1); simpa [Nat.add_assoc, Nat.add_comm 1 j] using this) hB.2 h'⟩) hw
theorem wp_region_T {id : Nat} {a : Act} {w : World} (hm : P.follows .mixedOrders = true)
    (h : wpAnyT P .any ops Q S n ops.size (Array.replicate ops.size false) a { w with drawn := w.drawn + 1 }) : (Code.region id ops true).wp P Q a w :=
  wp_region_any hm (wpAny_of_T _ _ _ _ h)
/-- An operation that is not guarded, as it is carried out. -/
theorem wpOp_go {i : Nat} {o : Oper} {a : Act} {w : World} {K : Act → World → Prop} (hi : ops[i]? = some o) (hg : o.guard = none) (h : o.wp P a w K Q) : wpOp P ops Q i K a w := by
  unfold wpOp
  simp only [hi]
  have hw : Region.wanted o (yielded ops a.tmps) = true := by simp [Region.wanted, hg]
  rw [if_pos hw]
  exact .inl h
theorem wpOp_goK {i : Nat} {o : Oper} {a : Act} {w : World} {K : Act → World → Prop} (hi : ops[i]? = some o) (hg : o.guard = none) (h : ∀ K' : Act → World → Prop, Hid (∀ a w, K a w → K' a w) → o.wp P a w K' Q) : wpOp P ops Q i K a w :=
  wpOp_go hi hg (h K fun _ _ h => h)
theorem wpAnyT_tail (k : Nat) {fuel : Nat} {listed : Array Bool} {a : Act} {w : World} (hk : n ≤ k) (hf : (ops.toList.drop k).length = fuel) (hB : Region.seqB md ops fuel k listed = true) (h : wpList P ops Q (ops.toList.drop k) a w) : wpAnyT P md ops Q S n fuel listed a w := by
  subst hf
  exact wpAnyT_seq (ops.toList.drop k) k listed a w hk (fun j => by rw [List.getElem?_drop, Array.getElem?_toList]) hB h
end
end Go.QS
/- A region that draws its order, within a round of a range over a function: what is shown of it outside serves there. No program. -/
namespace Go.QS
open Go Go.RowKit
/-- A region of a function's code, within ranges over functions, too. -/
def findQ (n : Nat) : Code → Option Code
  | .region id ops d => if id = n then some (.region id ops d) else none
  | .seq a b => match findQ n a with | some c => some c | none => findQ n b
  | .cond _ a b => match findQ n a with | some c => some c | none => findQ n b
  | .block _ b => findQ n b
  | .loop b => findQ n b
  | .scope b => findQ n b
  | .rangeFunc _ _ a b => match findQ n a with | some c => some c | none => findQ n b
  | _ => none
/-- What ends well alone. -/
def OnlyN (Q : Exit → Act → World → Prop) : Exit → Act → World → Prop
  | .normal, a, w => Q .normal a w
  | _, _, _ => False
theorem OnlyN.normal {Q : Exit → Act → World → Prop} {a : Act} {w : World} (h : Q .normal a w) : OnlyN Q .normal a w := h
theorem OnlyN.imp {Q : Exit → Act → World → Prop} : ∀ (e : Exit) (a : Act) (w : World), OnlyN Q e a w → Q e a w := fun e a w h => by
  cases e <;> first | exact h | exact (h : False).elim
section
variable {P : Program} {ops : Array Oper} {Q : Exit → Act → World → Prop} {n : Nat}
theorem rowsIn_wide9 {row : String} {args : Array Value} {w : World} {R : Value → World → Prop} (h : Rows P row args w R) : RowsIn Fence.wide n P row args w R :=
  fun c cs _ => let ⟨v, w', r, s⟩ := h c cs; ⟨v, w', r, stepsIn_wide.2 s⟩
theorem Oper.wpIn_wide9 {o : Oper} {a : Act} {w : World} {K : Act → World → Prop} (h : o.wp P a w K Q) : o.wpIn Fence.wide n P a w K Q := by
  refine ⟨fun _ _ => trivial, ?_⟩
  rw [show Fence.wide.round = none from rfl, Oper.semAt_none]
  unfold Oper.wp at h
  generalize (execOp a.eval o).run P w = r at h
  cases r with
  | ok nx w' =>
    cases nx with
    | value v => exact h
    | skip => exact h
    | defer d => exact h
    | enter f args => exact ⟨fun hd => (by cases hd), callsIn_wide.2 h⟩
    | row r args => exact ⟨fun hd => (by cases hd), rowsIn_wide9 h⟩
    | _ => exact h.elim
  | halt s w' =>
    cases s with
    | panic v => exact h
    | _ => exact h.elim
theorem wpOpIn_wide9 (hQ : ¬ LetsOut Q) {i : Nat} {K : Act → World → Prop} {a : Act} {w : World} (h : wpOp P ops Q i K a w) : wpOpIn Fence.wide n P ops Q i K a w := by
  unfold wpOp at h
  unfold wpOpIn
  cases ho : ops[i]? with
  | none => simpa [ho] using h
  | some o =>
    simp only [ho] at h ⊢
    by_cases hw : Region.wanted o (yielded ops a.tmps) = true
    · rw [if_pos hw] at h ⊢
      rcases h with h | ⟨_, h⟩
      · exact Oper.wpIn_wide9 h
      · exact absurd h hQ
    · rw [if_neg hw] at h ⊢
      exact ⟨fun _ _ => trivial, h⟩
theorem wpAnyIn_wide9 {md : Region.Mode} (hQ : ¬ LetsOut Q) : ∀ (fuel : Nat) (listed : Array Bool) (a : Act) (w : World), wpAny P md ops Q fuel listed a w → wpAnyIn Fence.wide n P md ops Q fuel listed a w
  | 0, _, _, _, h => h
  | fuel + 1, _, _, _, h => ⟨h.1, fun i hi => wpOpIn_mono (fun a w => wpAnyIn_wide9 hQ fuel _ a w) (wpOpIn_wide9 hQ (h.2 i hi))⟩
/-- The law of a region (wp_region_T), within a round. -/
theorem wpIn_region_T {S : World → Prop} {k id r : Nat} {a : Act} {w : World} (hm : P.follows .mixedOrders = true) (hd : noDefer ops = true) (hQ : ¬ LetsOut Q)
    (h : wpAnyT P .any ops Q S k ops.size (Array.replicate ops.size false) a { w with drawn := w.drawn + 1 }) : (Code.region id ops true).wpIn (Fence.wide.inRound r) n P Q a w :=
  wpIn_region_any hm (wpAnyIn_inRound rfl hd r _ _ _ _ (wpAnyIn_wide9 hQ _ _ _ _ (wpAny_of_T _ _ _ _ h)))
theorem wpIn_region_N {S : World → Prop} {k id r : Nat} {a : Act} {w : World} (hm : P.follows .mixedOrders = true) (hd : noDefer ops = true)
    (h : wpAnyT P .any ops (OnlyN Q) S k ops.size (Array.replicate ops.size false) a { w with drawn := w.drawn + 1 }) : (Code.region id ops true).wpIn (Fence.wide.inRound r) n P Q a w :=
  wpIn_mono (wpIn_region_T hm hd (by rintro ⟨a, w, h⟩; exact h) h) OnlyN.imp
theorem wp_region_N {S : World → Prop} {k id : Nat} {a : Act} {w : World} (hm : P.follows .mixedOrders = true)
    (h : wpAnyT P .any ops (OnlyN Q) S k ops.size (Array.replicate ops.size false) a { w with drawn := w.drawn + 1 }) : (Code.region id ops true).wp P Q a w :=
  Code.wp_mono OnlyN.imp (wp_region_T hm h)
end
end Go.QS
/- A row of pairs that the call owns, written in place. No function of the program is named here. -/
namespace Go.QS
open Go.RowKit

/-- Block g, from its head on, is a row of pairs of the call's own. -/
def Rw (base : Nat) (e : TypeId) (w : World) (g cap : Nat) (l : List Pr) : Prop := w.ownsRow base e 2 (.slice (some ⟨g, 0, none⟩) l.length cap) l.length (flat l)

section
variable {base : Nat} {e : TypeId} {w w' : World} {g cap : Nat} {l : List Pr}
theorem Rw.get (h : Rw base e w g cap l) {i : Nat} {p : Pr} (hp : l[i]? = some p) : w.cell? ⟨g, i * 2, none⟩ = some (str p.1) ∧ w.cell? ⟨g, i * 2 + 1, none⟩ = some (str p.2) := by
  have hi : i < l.length := (List.getElem?_eq_some_iff.1 hp).1
  have := flat_get hp
  exact ⟨(World.ownsRow.cellAt h _ (by omega)).trans this.1, (World.ownsRow.cellAt h _ (by omega)).trans this.2⟩
theorem Rw.free (h : Rw base e w g cap l) (j : Nat) : w.frozen? ⟨g, j, none⟩ = false := World.ownsRow.frozenAt h j
theorem Rw.ext (h : Rw base e w g cap l) (hb : Ext w w') : Rw base e w' g cap l :=
  World.ownsRow.kept h (row := none) ⟨hb.os, hb.tape, hb.output, hb.size, fun k hk _ => hb.block k hk⟩ (.inr (by simp [Value.ownBlock]))
theorem Rw.drewN (h : Rw base e w g cap l) (n : Nat) : Rw base e (w.drewN n) g cap l := h.ext (below_drewN (Ext.refl w) n)
theorem Rw.drew (h : Rw base e w g cap l) : Rw base e w.drew g cap l := h.drewN 1
theorem Rw.lt (h : Rw base e w g cap l) : g < w.heap.size := (World.ownsRow.lt h g rfl).2
theorem Rw.base_le (h : Rw base e w g cap l) : base ≤ g := (World.ownsRow.lt h g rfl).1
theorem flat_set (l : List Pr) (i : Nat) (p : Pr) : flat (l.set i p) = ((flat l).set (i * 2) (str p.1)).set (i * 2 + 1) (str p.2) := by
  induction l generalizing i with
  | nil => simp
  | cons q l ih =>
    cases i with
    | zero => simp [flat_cons]
    | succ i =>
      rw [List.set_cons_succ, flat_cons, flat_cons, ih, Nat.succ_mul]
      rfl
theorem Rw.set (h : Rw base e w g cap l) (i : Nat) (p : Pr) : Rw base e ((w.setCell ⟨g, i * 2, none⟩ (str p.1)).setCell ⟨g, i * 2 + 1, none⟩ (str p.2)) g cap (l.set i p) := by
  unfold Rw at h ⊢
  have h1 := (World.ownsRow.stored h (i * 2) (str p.1)).1
  have h2 := (World.ownsRow.stored h1 (i * 2 + 1) (str p.2)).1
  rw [flat_set, List.length_set]
  exact h2
theorem set_mid {α : Type} (X R : List α) (y z : α) : (X ++ y :: R).set X.length z = X ++ z :: R := by
  rw [List.set_append_right _ _ (Nat.le_refl _), Nat.sub_self]; rfl
theorem set_two {α : Type} (X R : List α) (y x : α) {j j1 : Nat} (hj : X.length = j) (h1 : j1 = j + 1) : ((X ++ y :: x :: R).set j1 y).set j x = X ++ x :: y :: R := by
  subst hj; subst h1
  have e : X ++ y :: x :: R = (X ++ [y]) ++ x :: R := by simp
  rw [e, show X.length + 1 = (X ++ [y]).length by simp, set_mid]
  simp
/-- How far a change of places of two blocks of one length has come. -/
def sw {α : Type} (P U M V S : List α) (i : Nat) : List α := P ++ (V.take i ++ (U.drop i ++ (M ++ (U.take i ++ (V.drop i ++ S)))))
theorem sw_zero {α : Type} (P U M V S : List α) : sw P U M V S 0 = P ++ (U ++ (M ++ (V ++ S))) := by simp [sw]
theorem sw_end {α : Type} (P U M V S : List α) (h : U.length = V.length) : sw P U M V S U.length = P ++ (V ++ (M ++ (U ++ S))) := by
  simp [sw, List.take_of_length_le (Nat.le_of_eq h.symm), List.drop_eq_nil_of_le (Nat.le_of_eq h.symm)]
theorem sw_length {α : Type} (P U M V S : List α) (i : Nat) : (sw P U M V S i).length = (P ++ (U ++ (M ++ (V ++ S)))).length := by
  simp [sw]; omega
theorem sw_get {α : Type} {P U M V S : List α} {i : Nat} {u v : α} (hu : U[i]? = some u) (hv : V[i]? = some v) :
    (sw P U M V S i)[P.length + i]? = some u ∧ (sw P U M V S i)[P.length + (U.length + M.length) + i]? = some v := by
  have hiu := (List.getElem?_eq_some_iff.1 hu).1
  have hiv := (List.getElem?_eq_some_iff.1 hv).1
  have e1 : (V.take i).length = i := List.length_take_of_le (by omega)
  have e2 : (U.take i).length = i := List.length_take_of_le (by omega)
  constructor
  · unfold sw
    rw [List.getElem?_append_right (by omega), List.getElem?_append_right (by omega), List.getElem?_append_left (by simp; omega), List.getElem?_drop, e1]
    rw [← hu]; congr 1; omega
  · unfold sw
    rw [List.getElem?_append_right (by omega), List.getElem?_append_right (by omega), List.getElem?_append_right (by simp; omega), List.getElem?_append_right (by simp; omega), List.getElem?_append_right (by simp; omega),
      List.getElem?_append_left (by simp; omega), List.getElem?_drop, e1, e2, List.length_drop]
    rw [← hv]; congr 1; omega
theorem sw_step {α : Type} {P U M V S : List α} {i : Nat} {u v : α} (hu : U[i]? = some u) (hv : V[i]? = some v) :
    ((sw P U M V S i).set (P.length + i) v).set (P.length + (U.length + M.length) + i) u = sw P U M V S (i + 1) := by
  have hiu := (List.getElem?_eq_some_iff.1 hu).1
  have hiv := (List.getElem?_eq_some_iff.1 hv).1
  have d1 : U.drop i = u :: U.drop (i + 1) := by rw [List.drop_eq_getElem?_toList_append, hu]; rfl
  have d2 : V.drop i = v :: V.drop (i + 1) := by rw [List.drop_eq_getElem?_toList_append, hv]; rfl
  have e1 : (V.take i).length = i := List.length_take_of_le (by omega)
  have e2 : (U.take i).length = i := List.length_take_of_le (by omega)
  have e3 : sw P U M V S i = (P ++ V.take i) ++ u :: (U.drop (i + 1) ++ (M ++ (U.take i ++ (V.drop i ++ S)))) := by unfold sw; rw [d1]; simp
  have l1 : P.length + i = (P ++ V.take i).length := by simp; omega
  rw [e3, l1, set_mid]
  have e4 : (P ++ V.take i) ++ v :: (U.drop (i + 1) ++ (M ++ (U.take i ++ (V.drop i ++ S)))) = (P ++ (V.take (i + 1) ++ (U.drop (i + 1) ++ (M ++ U.take i)))) ++ v :: (V.drop (i + 1) ++ S) := by
    rw [d2, take_snoc hv]; simp
  have l2 : P.length + (U.length + M.length) + i = (P ++ (V.take (i + 1) ++ (U.drop (i + 1) ++ (M ++ U.take i)))).length := by
    simp only [List.length_append, List.length_drop, e2, List.length_take_of_le (show i + 1 ≤ V.length by omega)]; omega
  rw [e4, l2, set_mid]
  unfold sw
  rw [take_snoc hu]; simp
theorem set_two' {α : Type} (X R : List α) (x v : α) {k k1 : Nat} (hk : X.length = k) (h1 : k1 = k + 1) : ((X ++ x :: v :: R).set k v).set k1 x = X ++ v :: x :: R := by
  subst hk; subst h1
  rw [set_mid]
  have e : X ++ v :: v :: R = (X ++ [v]) ++ v :: R := by simp
  rw [e, show X.length + 1 = (X ++ [v]).length by simp, set_mid]
  simp
theorem get_mid {α : Type} (X R : List α) (x : α) {k : Nat} (hk : X.length = k) : (X ++ x :: R)[k]? = some x := by subst hk; simp
theorem get_mid1 {α : Type} (X R : List α) (x v : α) {k : Nat} (hk : X.length + 1 = k) : (X ++ x :: v :: R)[k]? = some v := by
  subst hk; rw [List.getElem?_append_right (by omega), show X.length + 1 - X.length = 1 by omega]; rfl
theorem Rw.swap (h : Rw base e w g cap l) (i : Nat) (p : Pr) (j : Nat) (q : Pr) :
    Rw base e ((((w.setCell ⟨g, i * 2, none⟩ (str p.1)).setCell ⟨g, i * 2 + 1, none⟩ (str p.2)).setCell ⟨g, j * 2, none⟩ (str q.1)).setCell ⟨g, j * 2 + 1, none⟩ (str q.2)) g cap ((l.set i p).set j q) := (h.set i p).set j q
theorem grown_setCell (w : World) (g j : Nat) (u : Value) : w.grownBy (w.setCell ⟨g, j, none⟩ u) (some g) :=
  ⟨rfl, rfl, rfl, by simp [World.setCell], fun k _ hk => Below.heap_setCell _ _ _ _ (by simpa using hk)⟩
theorem grown_swap (w : World) (g i j k m : Nat) (u1 u2 u3 u4 : Value) : w.grownBy ((((w.setCell ⟨g, i, none⟩ u1).setCell ⟨g, j, none⟩ u2).setCell ⟨g, k, none⟩ u3).setCell ⟨g, m, none⟩ u4) (some g) :=
  (((grown_setCell w g i u1).trans (grown_setCell _ g j u2)).trans (grown_setCell _ g k u3)).trans (grown_setCell _ g m u4)
theorem grown_ext {row : Option Nat} (hb : Ext w w') : w.grownBy w' row := ⟨hb.os, hb.tape, hb.output, hb.size, fun k hk _ => hb.block k hk⟩
end
end Go.QS
