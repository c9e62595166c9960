/- Contract: Num of what is read. -/
import Derived.Test.YtigoffdehdobiaaGreatBc
set_option linter.unusedVariables false
set_option linter.unusedSimpArgs false
namespace Go.Proofs.YtigoffdehdobiaaGreat
open Go.RowKit Go.QS
set_option linter.unusedVariables false

def sNum (s : St2) : Nat × St2 := if s.2 = 0 then (match numA 0 0 s.1 with | some (n, r) => (n, (r, 0)) | none => (0, (s.1, 9))) else (0, s)
theorem andNot_u8 : ∀ n : Nat, n < 256 → bits BinOp.andNot IntKind.u8 (n : Int) 128 = ((n % 128 : Nat) : Int) := by decide +kernel

set_option maxRecDepth 100000 in
set_option maxHeartbeats 1000000 in
theorem num_c {V : Nat → Prop} {g : Nat} {w : World} {l : List UInt8} {e : Nat} (h : InAt V g w l e) :
    Calls Tryz.prog 24 #[ptr g] w fun x w' => x = .returned (.int .u64 ((sNum (l, e)).1 : Int)) ∧ InAt V g w' (sNum (l, e)).2.1 (sNum (l, e)).2.2 ∧ One g w w' := by
  have HE := Lib.hid (err_c h)
  have HF := Lib.hid (fail_c h 9)
  obtain ⟨A, c, h1, h2, h3, h4, h5⟩ := h.ex
  have c0 : w.cell? ⟨g, 0, none⟩ = some (.slice A l.length c) := by rw [cellG h1]; rfl
  have f0 := freeG h1 0
  have hgl := heap_lt h1
  have HH := Lib.hid (And.intro h1 (And.intro h4 (And.intro h5 h)))
  clear h h4 h5 h1
  unfold sNum
  by_cases he : e = 0
  · subst he
    rw [if_pos rfl]
    obtain ⟨T, hT9⟩ : ∃ T : Nat × St2, T = (match numA 0 0 l with | some (n, r) => (n, (r, 0)) | none => (0, (l, 9))) := ⟨_, rfl⟩
    have HT9 := Lib.hid hT9
    simp only at hT9 ⊢
    rw [← hT9]
    clear hT9
    obtain ⟨m, hm⟩ : ∃ m, m = l.length := ⟨_, rfl⟩
    rw [← hm] at c0 h2
    have HM := Lib.hid hm
    clear hm
    go_enter Tryz.func24, Tryz.ntmps24
    repeat' (go_not_at_region 5; (first
      | (go_at_call 30; refine HE.out.mono ?_; rintro x w1 ⟨rfl, rfl⟩; go_simp)
      | go_skip | go_guarded | go_step))
    go_loopg [3, 14] m (fun gk v3 v14 wr => ∃ i acc : Nat, v3 = .int .u64 (acc : Int) ∧ v14 = .int .i64 i ∧ i ≤ m ∧ m - i ≤ gk ∧ i ≤ 9 ∧ acc < 2 ^ (7 * i) ∧ wr = w ∧ Hid (numA 0 0 l = numA i acc (l.drop i)))
    case atStart => exact ⟨0, 0, rfl, rfl, Nat.zero_le _, by omega, by omega, by simp, rfl, Lib.hid rfl⟩
    case round =>
      obtain ⟨i, acc, rfl, rfl, him, hgk, hi9, hacl, rfl, HN⟩ := hrel
      rcases Nat.lt_or_ge i m with hlt | hge
      · have d1 : decide (i < m) = true := by simp [hlt]
        have hi1 : (i : Int) < (m : Int) := by omega
        obtain ⟨b, hb⟩ := get_of_lt l (show i < l.length by have := HM.out; omega)
        obtain ⟨b1, o1, rfl, hc1⟩ := HH.out.2.1 (by intro e; have := congrArg List.length e; rw [encB_length] at this; have := HM.out; simp only [List.length_nil] at *; omega)
        have hq := hc1 i _ (encB_get hb)
        have hdr : l.drop i = b :: l.drop (i + 1) := by rw [List.drop_eq_getElem?_toList_append, hb]; rfl
        have HB := Lib.hid (And.intro hb hdr)
        have hb256 := b.toNat_lt
        obtain ⟨n, hn⟩ : ∃ n, n = b.toNat := ⟨_, rfl⟩
        rw [← hn] at hq hb256
        have HNN := Lib.hid hn
        clear hc1 hb hdr hn
        repeat' (go_not_at_region 7; (first | go_skip | go_guarded | go_step))
        go_cut [32] (fun v wx => Hid (v = .bool (decide ((i = 9 ∧ 1 < n) ∨ (n = 0 ∧ 0 < i))) ∧ wx = wr))
        case first =>
          by_cases h9 : i = 9
          · have e9 : ((i : Int) == 9) = true := by rw [beq_iff_eq]; omega
            by_cases hb1 : 1 < n
            · have k1 : (1 : Int) < (n : Int) := by omega
              repeat' (first | go_skip | go_guarded | go_step)
              go_meet
              exact Lib.hid ⟨by rw [show decide ((i = 9 ∧ 1 < n) ∨ (n = 0 ∧ 0 < i)) = true from decide_eq_true (by omega)], rfl⟩
            · have k1 : ¬ (1 : Int) < (n : Int) := by omega
              by_cases hb0 : n = 0
              · have k2 : ((n : Int) == 0) = true := by rw [beq_iff_eq]; omega
                have k3 : (0 : Int) < (i : Int) := by omega
                repeat' (first | go_skip | go_guarded | go_step)
                go_meet
                exact Lib.hid ⟨by rw [show decide ((i = 9 ∧ 1 < n) ∨ (n = 0 ∧ 0 < i)) = true from decide_eq_true (by omega)], rfl⟩
              · have k2 : ((n : Int) == 0) = false := by rw [beq_eq_false_iff_ne]; omega
                repeat' (first | go_skip | go_guarded | go_step)
                go_meet
                exact Lib.hid ⟨by rw [show decide ((i = 9 ∧ 1 < n) ∨ (n = 0 ∧ 0 < i)) = false from decide_eq_false (by omega)], rfl⟩
          · have e9 : ((i : Int) == 9) = false := by rw [beq_eq_false_iff_ne]; omega
            by_cases hb0 : n = 0
            · have k2 : ((n : Int) == 0) = true := by rw [beq_iff_eq]; omega
              by_cases hi0 : 0 < i
              · have k3 : (0 : Int) < (i : Int) := by omega
                repeat' (first | go_skip | go_guarded | go_step)
                go_meet
                exact Lib.hid ⟨by rw [show decide ((i = 9 ∧ 1 < n) ∨ (n = 0 ∧ 0 < i)) = true from decide_eq_true (by omega)], rfl⟩
              · have k3 : ¬ (0 : Int) < (i : Int) := by omega
                repeat' (first | go_skip | go_guarded | go_step)
                go_meet
                exact Lib.hid ⟨by rw [show decide ((i = 9 ∧ 1 < n) ∨ (n = 0 ∧ 0 < i)) = false from decide_eq_false (by omega)], rfl⟩
            · have k2 : ((n : Int) == 0) = false := by rw [beq_eq_false_iff_ne]; omega
              repeat' (first | go_skip | go_guarded | go_step)
              go_meet
              exact Lib.hid ⟨by rw [show decide ((i = 9 ∧ 1 < n) ∨ (n = 0 ∧ 0 < i)) = false from decide_eq_false (by omega)], rfl⟩
        case rest =>
          obtain ⟨rfl, hwc⟩ := hcut.out
          obtain rfl : wr = wc := hwc.symm
          clear hcut
          have hlb : l.drop i = b :: l.drop (i + 1) := HB.out.2
          have HLB := Lib.hid hlb
          clear hlb
          by_cases hC : (i = 9 ∧ 1 < n) ∨ (n = 0 ∧ 0 < i)
          · have hdC : decide ((i = 9 ∧ 1 < n) ∨ (n = 0 ∧ 0 < i)) = true := decide_eq_true hC
            have hno : numA 0 0 l = none := by
              rw [HN.out, HLB.out]
              simp only [numA]
              rw [if_pos (by rw [← HNN.out]; exact hC)]
            rw [hdC]
            have hTe : T = (0, (l, 9)) := by rw [HT9.out, hno]
            have HTE := Lib.hid hTe
            clear hC hdC hno hTe
            repeat' (first
              | (go_at_call 20; refine HF.out.mono ?_; rintro x w1 ⟨rfl, hI, hO⟩; replace hI := Lib.hid hI; replace hO := Lib.hid hO; go_simp)
              | go_skip | go_guarded | go_step)
            go_ret
            rw [HTE.out]
            exact ⟨rfl, hI.out, hO.out⟩
          · have hdC : decide ((i = 9 ∧ 1 < n) ∨ (n = 0 ∧ 0 < i)) = false := decide_eq_false hC
            rw [hdC]
            clear hdC
            have han := andNot_u8 n hb256
            obtain ⟨q, hq7⟩ : ∃ q, q = n % 128 := ⟨_, rfl⟩
            rw [← hq7] at han
            have hq128 : q < 128 := by omega
            have hq9 : q * 2 ^ (7 * i) < 18446744073709551616 := by
              by_cases h9 : i = 9
              · subst h9
                have : q ≤ 1 := by omega
                have : q * 2 ^ 63 ≤ 1 * 2 ^ 63 := Nat.mul_le_mul_right _ this
                omega
              · have h1 : 2 ^ (7 * i) ≤ 2 ^ 56 := Nat.pow_le_pow_right (by decide) (by omega)
                have h3 : q * 2 ^ (7 * i) ≤ 127 * 2 ^ 56 := Nat.mul_le_mul (by omega) h1
                omega
            have hor := orAdd (acc : Int) (2 ^ (7 * i)) acc q (7 * i) rfl (by simp) hacl hq9 (by omega)
            obtain ⟨acc', hacc'⟩ : ∃ acc', acc' = acc + q * 2 ^ (7 * i) := ⟨_, rfl⟩
            rw [← hacc'] at hor
            have hstep : numA i acc (l.drop i) = if n < 128 then some (acc', l.drop (i + 1)) else numA (i + 1) acc' (l.drop (i + 1)) := by
              rw [HLB.out]
              simp only [numA]
              rw [if_neg (by rw [← HNN.out]; exact hC), ← HNN.out, ← hq7, hacc', Nat.pow_mul]
            have hacl' : acc' < 2 ^ (7 * (i + 1)) := by
              rw [hacc', show 7 * (i + 1) = 7 * i + 7 by omega, Nat.pow_add]
              have : q * 2 ^ (7 * i) ≤ 127 * 2 ^ (7 * i) := Nat.mul_le_mul_right _ (by omega)
              omega
            have hor2 : bits BinOp.or IntKind.u64 (acc : Int) (IntKind.u64.wrap ((q : Int) * 2 ^ (7 * i))) = (acc' : Int) := by
              have e1 : IntKind.u64.wrap (q : Int) = (q : Int) := by rw [IntKind.wrap_u64]; omega
              rw [e1] at hor; exact hor
            have HST := Lib.hid hstep
            clear hq7
            clear hstep hacc' hq9
            by_cases hn128 : n < 128
            · have k1 : (n : Int) < 128 := by omega
              have hres : numA 0 0 l = some (acc', l.drop (i + 1)) := by rw [HN.out, HST.out, if_pos hn128]
              have hTe : T = (acc', (l.drop (i + 1), 0)) := by rw [HT9.out, hres]
              have HTE := Lib.hid hTe
              clear hTe
              obtain ⟨A2, hrun, hseg, hbl⟩ := run_fromB Tryz.underlying22 infoU8 (some ⟨b1, o1, none⟩) (n := m) (c := c) (i := i + 1) (by omega) h2
              have hi2 : ((i + 1 : Nat) : Int) = (i : Int) + 1 := by omega
              rw [hi2] at hrun
              have HS := Lib.hid (And.intro hseg hbl)
              clear hseg hbl hres hi2 hC hn128
              repeat' (first | go_skip | go_guarded | go_step)
              go_ret
              have hO : One g wr (wr.setCell ⟨g, 0, none⟩ (.slice A2 (m - (i + 1)) (c - (i + 1)))) := (One.refl wr).setCell 0 _
              have hA2 : ∀ a, A2 = some a → a.block ≠ g ∧ V a.block := fun a ha => by
                obtain ⟨a', e1, e2⟩ := HS.out.2 a ha
                rw [← e2]; exact HH.out.2.2.1 a' e1
              have hsg := HS.out.1 wr (encB l) (by rw [encB_length]; exact HM.out.symm) HH.out.2.1
              rw [HTE.out]
              refine ⟨rfl, ⟨A2, c - (i + 1), ?_, by rw [List.length_drop]; have := HM.out; omega, by omega, ?_, hA2⟩, hO⟩
              · have := heap_set HH.out.1 0 (.slice A2 (m - (i + 1)) (c - (i + 1)))
                rw [List.length_drop, ← HM.out]
                exact this
              · rw [encB_drop]; exact hsg.one hO hA2
            · have k1 : ¬ (n : Int) < 128 := by omega
              have hi8 : i ≠ 9 := fun e => hC (.inl ⟨e, by omega⟩)
              have hres : numA 0 0 l = numA (i + 1) acc' (l.drop (i + 1)) := by rw [HN.out, HST.out, if_neg hn128]
              have HR := Lib.hid hres
              clear hres hC hn128
              repeat' (first | go_skip | go_guarded | go_step)
              go_roundg (m - (i + 1))
              case measure => omega
              case rel => exact ⟨i + 1, acc', rfl, by go_num, by omega, Nat.le_refl _, by omega, hacl', rfl, HR⟩
      · obtain rfl : i = m := by omega
        have d1 : decide (i < i) = false := by simp
        have hno : numA 0 0 l = none := by
          rw [HN.out, List.drop_eq_nil_of_le (by have := HM.out; omega)]
          rfl
        have hTe : T = (0, (l, 9)) := by rw [HT9.out, hno]
        have HTE := Lib.hid hTe
        clear hno hTe
        repeat' (first
          | (go_at_call 20; refine HF.out.mono ?_; rintro x w1 ⟨rfl, hI, hO⟩; replace hI := Lib.hid hI; replace hO := Lib.hid hO; go_simp)
          | go_skip | go_guarded | go_step)
        go_ret
        rw [HTE.out]
        exact ⟨rfl, hI.out, hO.out⟩
  · rw [if_neg he]
    have d1 : ((e : Int) == 0) = false := by rw [beq_eq_false_iff_ne]; omega
    have d2 : ((e : Int) != 0) = true := by rw [bne_iff_ne]; omega
    go_enter Tryz.func24, Tryz.ntmps24
    repeat' (first
      | (go_at_call 30; refine HE.out.mono ?_; rintro x w1 ⟨rfl, rfl⟩; go_simp)
      | go_skip | go_guarded | go_step)
    go_ret
    exact ⟨rfl, HH.out.2.2.2, One.refl w⟩
end Go.Proofs.YtigoffdehdobiaaGreat
