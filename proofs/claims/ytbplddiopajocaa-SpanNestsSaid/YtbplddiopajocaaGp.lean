/- Contract: pair.Same. -/
import Derived.Test.YtbplddiopajocaaGb
import Derived.Test.YtbplddiopajocaaProg
set_option linter.unusedVariables false
set_option linter.unusedSimpArgs false
namespace Go.Proofs.Ytbplddiopajocaa
open Go.RowKit Go.QS
set_option linter.unusedVariables false

set_option maxRecDepth 100000 in
theorem neqPG (w : World) (p q : Pr) : (binOp .neq 24 (.agg #[str p.1, str p.2]) (.agg #[str q.1, str q.2])).run Try.prog w = .ok (.bool (decide (p ≠ q))) w := by
  obtain ⟨a, b⟩ := p
  obtain ⟨c, d⟩ := q
  simp only [go_sem]
  by_cases h1 : a = c <;> by_cases h2 : b = d <;> simp [h1, h2, go_sem]

set_option maxRecDepth 100000 in
theorem eqPG_c (w : World) (va vb : Value) (la lb : List Pr) (ha : PS w va la) (hb : PS w vb lb) (h9 : la.length ≤ 1000000000) (h9b : lb.length ≤ 1000000000) :
    Calls Try.prog 54 #[va, vb] w fun e w' => e = .returned (.bool (decide (la = lb))) ∧ Ext w w' := by
  obtain ⟨A, c, rfl, hl, hn, hc, hs⟩ := ha
  obtain ⟨A', c', rfl, hl', hn', hc', hs'⟩ := hb
  by_cases hlen : la.length = lb.length
  · have HL : Hid (la.length = lb.length) := Lib.hid hlen
    have hd : ((la.length : Int) != (lb.length : Int)) = false := by rw [bne_eq_false_iff_eq]; omega
    clear hlen
    go_enter Try.func54, Try.ntmps54
    repeat' go_step
    go_loopw [13] (fun i wr => ∃ k : Nat, k ≤ la.length ∧ i = .int .i64 k ∧ Ext w wr ∧ Hid (la.take k = lb.take k)) (fun i _ => la.length - (intOf i).toNat)
    case atStart => exact ⟨0, Nat.zero_le _, rfl, Ext.refl _, Lib.hid (by simp)⟩
    case round =>
      obtain ⟨k, hk, rfl, hb, HT⟩ := hrel
      by_cases hlt : k < la.length
      · obtain ⟨p, hp⟩ := get_of_lt la hlt
        obtain ⟨q, hq⟩ := get_of_lt lb (show k < lb.length by have := HL.out; omega)
        obtain ⟨b, o, rfl, h1, h2⟩ := seg_pair (hs.below hb) hp
        obtain ⟨b', o', rfl, h1', h2'⟩ := seg_pair (hs'.below hb) hq
        have HP := Lib.hid hp
        have HQ := Lib.hid hq
        clear hp hq
        have hi1 : (k : Int) < (la.length : Int) := by omega
        have hi2 : (k : Int) < (lb.length : Int) := by have := HL.out; omega
        by_cases hpq : p = q
        · have hne : ∀ w, (binOp .neq 24 (.agg #[str p.1, str p.2]) (.agg #[str q.1, str q.2])).run Try.prog w = .ok (.bool false) w := fun w => by rw [neqPG]; simp [hpq]
          have HE := Lib.hid hpq
          clear hpq
          repeat' go_step
          go_quiet (fail)
          repeat' go_step
          go_roundw
          case rel => exact ⟨k + 1, by omega, by go_num, below_drewN hb _, Lib.hid (by rw [take_snoc HP.out, take_snoc HQ.out, HT.out, HE.out])⟩
          case measure => simp [intOf]; omega
        · have hne : ∀ w, (binOp .neq 24 (.agg #[str p.1, str p.2]) (.agg #[str q.1, str q.2])).run Try.prog w = .ok (.bool true) w := fun w => by rw [neqPG]; simp [hpq]
          have HE := Lib.hid hpq
          clear hpq
          repeat' go_step
          go_quiet (fail)
          repeat' go_step
          go_ret
          refine ⟨?_, below_drewN hb _⟩
          have : la ≠ lb := fun e => HE.out (by have h1 := HP.out; have h2 := HQ.out; rw [e] at h1; rw [h1] at h2; exact Option.some.inj h2)
          simp [this]
      · obtain rfl : k = la.length := by omega
        repeat' go_step
        go_ret
        refine ⟨?_, hb⟩
        have : la = lb := by have h1 := HT.out; rw [List.take_length, HL.out, List.take_length] at h1; exact h1
        simp [this]
  · have hd : ((la.length : Int) != (lb.length : Int)) = true := by rw [bne_iff_ne]; omega
    have HL := Lib.hid hlen
    clear hlen
    go_enter Try.func54, Try.ntmps54
    repeat' go_step
    go_ret
    refine ⟨?_, Ext.refl _⟩
    have : la ≠ lb := fun e => HL.out (by rw [e])
    simp [this]

set_option maxRecDepth 100000 in
theorem sameG_c (w : World) (va vb : Value) (la lb : List Pr) (ha : PS w va la) (hb : PS w vb lb) (h9 : la.length ≤ 1000000000) (h9b : lb.length ≤ 1000000000) :
    Calls Try.prog 31 #[va, vb] w fun e w' => e = .returned (.bool (decide (la = lb))) ∧ Ext w w' := by
  go_enter Try.func31, Try.ntmps31
  repeat' (first | (go_at_call 54; refine (eqPG_c _ _ _ la lb ha hb h9 h9b).mono ?_; rintro e w' ⟨rfl, hb'⟩; go_simp) | go_step)
  go_ret
  exact ⟨rfl, hb'⟩
end Go.Proofs.Ytbplddiopajocaa
