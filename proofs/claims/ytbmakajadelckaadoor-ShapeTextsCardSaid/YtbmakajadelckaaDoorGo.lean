/- A region that draws its order, within a round of a range over a function: the quiet walk serves there too. No program. -/
import Derived.Test.YtbmakajadelckaaDoorGb
import Derived.Sort.QuietIn
import Derived.Sort.CutIn
set_option linter.unusedVariables false
set_option linter.unusedSimpArgs false
namespace Go.QS
open Go Go.RowKit

def noDefer (ops : Array Oper) : Bool := ops.toList.all fun o => match o.op with | .defer _ => false | _ => true
section
variable {F : Fence} {n : Nat} {P : Program} {ops : Array Oper} {Q : Exit → Act → World → Prop}
theorem wpIn_inRound {o : Oper} (hro : F.round = none) (hd : ∀ c, o.op ≠ .defer c) {a : Act} {w : World} {K : Act → World → Prop} (l : Nat) (h : o.wpIn F n P a w K Q) : o.wpIn (F.inRound l) n P a w K Q := by
  unfold Oper.wpIn at h ⊢
  rw [Oper.semAt_plain F _ _ hd] at h
  rw [Oper.semAt_plain (F.inRound l) _ _ hd]
  exact h
theorem wpOpIn_inRound (hro : F.round = none) (hd : noDefer ops = true) (l : Nat) {i : Nat} {a : Act} {w : World} {K : Act → World → Prop} (h : wpOpIn F n P ops Q i K a w) : wpOpIn (F.inRound l) n P ops Q i K a w := by
  unfold wpOpIn at h ⊢
  cases ho : ops[i]? with
  | none => simpa [ho] using h
  | some o =>
    simp only [ho] at h ⊢
    have hn : ∀ c, o.op ≠ .defer c := by
      have hm : o ∈ ops.toList := by
        have := (Array.getElem?_eq_some_iff.1 ho)
        obtain ⟨h1, rfl⟩ := this
        simp
      have := (List.all_eq_true.1 hd) o hm
      intro c hc
      rw [hc] at this
      cases this
    split
    · rename_i hw; rw [if_pos hw] at h; exact wpIn_inRound hro hn l h
    · rename_i hw; rw [if_neg hw] at h; exact h
theorem wpAnyIn_inRound {md : Region.Mode} (hro : F.round = none) (hd : noDefer ops = true) (l : Nat) : ∀ (fuel : Nat) (listed : Array Bool) (a : Act) (w : World), wpAnyIn F n P md ops Q fuel listed a w → wpAnyIn (F.inRound l) n P md ops Q fuel listed a w
  | 0, _, _, _, h => h
  | fuel + 1, _, _, _, h => ⟨h.1, fun i hi => wpOpIn_inRound hro hd l (wpOpIn_mono (fun a w => wpAnyIn_inRound hro hd l fuel _ a w) (h.2 i hi))⟩

theorem wpIn_region_quiet_round {id : Nat} {a : Act} {w : World} {l : List Oper} (r : Nat) (hro : F.round = none) (hm : P.follows .mixedOrders = true) (hB : Region.lexB .any l.toArray = true) (hd : noDefer l.toArray = true)
    (h : wpQuietIn F n P l.toArray (fun w' => ∃ n, w' = w.drewN n) (fun a' => ∀ w', (∃ n, w' = w.drewN n) → Q .normal a' w') l a) : (Code.region id l.toArray true).wpIn (F.inRound r) n P Q a w := by
  simp only [Region.lexB, Bool.and_eq_true] at hB
  refine wpIn_region_any hm (wpAnyIn_inRound hro hd r _ _ _ _ (wpAnyIn_of_quiet (C := fun w' => ∃ n, w' = w.drewN n) (Q := fun a' => ∀ w', (∃ n, w' = w.drewN n) → Q .normal a' w') hro (fun _ w' hw' h => h w' hw') _ _ _ _ ⟨1, rfl⟩ ?_))
  have := wpAnyQIn_lex (F := F) (n := n) (C := fun w' => ∃ n, w' = w.drewN n) (md := .any) hB.1 l 0 (Array.replicate l.toArray.size false) a (by simp) (by simpa using hB.2) h
  simpa using this
end
end Go.QS
