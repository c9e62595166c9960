/- Contract: Text of what is read. -/
import Derived.Test.YtigoffdehdobiaaGreatBd
import Derived.Laws.BitsLemmas
set_option linter.unusedVariables false
set_option linter.unusedSimpArgs false
namespace Go.Proofs.YtigoffdehdobiaaGreat
open Go.RowKit Go.QS
set_option linter.unusedVariables false

def sText (most : Int) (long : Nat) (s : St2) : List UInt8 × St2 :=
  if s.2 = 0 then (match numA 0 0 s.1 with
    | none => ([], (s.1, 9))
    | some (n, r) => if most < 0 ∨ most < (n : Int) then ([], (s.1, long)) else if r.length < n then ([], (s.1, 9)) else (r.take n, (r.drop n, 0)))
  else ([], s)

/-- The bytes that were, laid again. -/
theorem InAt.back {V : Nat → Prop} {g : Nat} {w w' : World} {l l' : List UInt8} {A : Option Addr} {c e' : Nat} (h2 : l.length ≤ c) (h3 : c ≤ maxLen) (h4 : Seg w A (encB l)) (h5 : ∀ a, A = some a → a.block ≠ g ∧ V a.block) (hO : One g w w') (h : InAt V g w' l' e') :
    InAt V g (w'.setCell ⟨g, 0, none⟩ (.slice A l.length c)) l e' ∧ One g w (w'.setCell ⟨g, 0, none⟩ (.slice A l.length c)) := by
  obtain ⟨A', c', h1', _⟩ := h.ex
  have hO' := hO.setCell 0 (.slice A l.length c)
  exact ⟨⟨A, c, heap_set h1' 0 _, h2, h3, h4.one hO' h5, h5⟩, hO'⟩

set_option maxRecDepth 100000 in
set_option maxHeartbeats 1000000 in
theorem text_c {V : Nat → Prop} {g : Nat} {w : World} {l : List UInt8} {e : Nat} (h : InAt V g w l e) (most : Int) (long : Nat) (hlong : 0 < long) (hmost : most ≤ 9223372036854775807) :
    Calls Tryz.prog 25 #[ptr g, .int .i64 most, .int .i64 (long : Int)] w fun x w' => x = .returned (str (sText most long (l, e)).1) ∧ InAt V g w' (sText most long (l, e)).2.1 (sText most long (l, e)).2.2 ∧ One g w w' := by
  have HE := Lib.hid (err_c h)
  have HNM := Lib.hid (num_c h)
  obtain ⟨A, c, h1, h2, h3, h4, h5⟩ := h.ex
  have c0 : w.cell? ⟨g, 0, none⟩ = some (.slice A l.length c) := by rw [cellG h1]; rfl
  have hgl := heap_lt h1
  have HH := Lib.hid (And.intro h1 (And.intro h4 (And.intro h5 h)))
  clear h h4 h5 h1
  obtain ⟨T, hT9⟩ : ∃ T : List UInt8 × St2, T = sText most long (l, e) := ⟨_, rfl⟩
  rw [← hT9]
  have HT9 := Lib.hid hT9
  clear hT9
  by_cases he : e = 0
  · subst he
    have hTT : T = (match numA 0 0 l with
      | none => ([], (l, 9))
      | some (n, r) => if most < 0 ∨ most < (n : Int) then ([], (l, long)) else if r.length < n then ([], (l, 9)) else (r.take n, (r.drop n, 0))) := by
      rw [HT9.out]; unfold sText; rw [if_pos rfl]
    have hNN : sNum (l, 0) = (match numA 0 0 l with | some (n, r) => (n, (r, 0)) | none => (0, (l, 9))) := by simp only [sNum, if_true]; rfl
    obtain ⟨m, hm⟩ : ∃ m, m = l.length := ⟨_, rfl⟩
    have HM := Lib.hid hm
    rw [← hm] at c0
    cases hnum : numA 0 0 l with
    | none =>
      rw [hnum] at hTT hNN
      have HTT := Lib.hid hTT
      rw [hNN] at HNM
      clear hTT hNN hnum hm
      go_enter Tryz.func25, Tryz.ntmps25
      repeat' (first
        | (go_at_call 30; refine HE.out.mono ?_; rintro x w1 ⟨rfl, rfl⟩; go_simp)
        | (go_at_call 24; refine HNM.out.mono ?_; rintro x w1 ⟨rfl, hI, hO⟩
           obtain ⟨A1, c1, q1, _⟩ := hI.ex
           have k0 : w1.cell? ⟨g, 0, none⟩ = some (.slice A1 l.length c1) := by rw [cellG q1]; rfl
           have k1 : w1.cell? ⟨g, 1, none⟩ = some (.int .i64 9) := by rw [cellG q1]; rfl
           have k2 := freeG q1 0
           have k3 := heap_lt q1
           replace hI := Lib.hid hI; replace hO := Lib.hid hO; clear q1; go_simp)
        | go_skip | go_guarded | go_step)
      go_ret
      obtain ⟨r1, r2⟩ := InAt.back h2 h3 HH.out.2.1 HH.out.2.2.1 hO.out hI.out
      rw [HTT.out, HM.out]
      exact ⟨rfl, r1, r2⟩
    | some nr =>
      obtain ⟨n, r⟩ := nr
      rw [hnum] at hTT hNN
      simp only at hTT hNN
      rw [hNN] at HNM
      have hn64 := numA_lt hnum
      have hrl : r.length ≤ l.length := by
        have := (numA_iff.1 hnum).1
        rw [this, List.length_append]; omega
      have HTT := Lib.hid hTT
      obtain ⟨q, hq⟩ : ∃ q, q = r.length := ⟨_, rfl⟩
      have HQ := Lib.hid hq
      have hlc : l.length ≤ 9223372036854775807 := by unfold maxLen at h3; omega
      have hqm : q ≤ 9223372036854775807 := by omega
      clear hTT hNN hnum hm hrl hq
      by_cases hmo : most < 0 ∨ most < (n : Int)
      · have hTe : T = ([], (l, long)) := by rw [HTT.out, if_pos hmo]
        have HTE := Lib.hid hTe
        have dl1 : ((long : Int) == 0) = false := by rw [beq_eq_false_iff_ne]; omega
        have dl2 : ((long : Int) != 0) = true := by rw [bne_iff_ne]; omega
        have dl3 : ¬ (long : Int) = 0 := by omega
        clear hTe
        by_cases hm0 : most < 0
        · clear hmo
          go_enter Tryz.func25, Tryz.ntmps25
          repeat' (first
            | (go_at_call 30; refine HE.out.mono ?_; rintro x w1 ⟨rfl, rfl⟩; go_simp)
            | (go_at_call 24; refine HNM.out.mono ?_; rintro x w1 ⟨rfl, hI, hO⟩
               obtain ⟨A1, c1, q1, _⟩ := hI.ex
               rw [← HQ.out] at q1
               have k0 : w1.cell? ⟨g, 0, none⟩ = some (.slice A1 q c1) := by rw [cellG q1]; rfl
               have k1 : w1.cell? ⟨g, 1, none⟩ = some (.int .i64 0) := by rw [cellG q1]; rfl
               have k3 := heap_lt q1
               replace hI := Lib.hid hI; replace hO := Lib.hid hO; clear q1; go_simp)
            | (go_at_call 20; refine (fail_c hI.out long).mono ?_; rintro x w2 ⟨rfl, hI2, hO2⟩
               rw [show (sFail long (r, 0)).2 = long from rfl] at hI2
               clear k0 k1 k3
               obtain ⟨A2, c2, q2, _⟩ := hI2.ex
               rw [← HQ.out] at q2
               have k0 : w2.cell? ⟨g, 0, none⟩ = some (.slice A2 q c2) := by rw [cellG q2]; rfl
               have k1 : w2.cell? ⟨g, 1, none⟩ = some (.int .i64 (long : Int)) := by rw [cellG q2]; rfl
               have k2 := freeG q2 0
               have k3 := heap_lt q2
               replace hI2 := Lib.hid hI2; replace hO2 := Lib.hid hO2; clear q2; go_simp)
            | go_skip | go_guarded | go_step)
          go_ret
          obtain ⟨r1, r2⟩ := InAt.back h2 h3 HH.out.2.1 HH.out.2.2.1 (hO.out.trans hO2.out) hI2.out
          rw [HTE.out, HM.out]
          exact ⟨rfl, r1, r2⟩
        · have hmn : most < (n : Int) := by omega
          have hw1 : IntKind.u64.wrap most = most := by rw [IntKind.wrap_u64]; omega
          have hw2 : most % 18446744073709551616 = most := by omega
          clear hmo
          go_enter Tryz.func25, Tryz.ntmps25
          repeat' (first
            | (go_at_call 30; refine HE.out.mono ?_; rintro x w1 ⟨rfl, rfl⟩; go_simp)
            | (go_at_call 24; refine HNM.out.mono ?_; rintro x w1 ⟨rfl, hI, hO⟩
               obtain ⟨A1, c1, q1, _⟩ := hI.ex
               rw [← HQ.out] at q1
               have k0 : w1.cell? ⟨g, 0, none⟩ = some (.slice A1 q c1) := by rw [cellG q1]; rfl
               have k1 : w1.cell? ⟨g, 1, none⟩ = some (.int .i64 0) := by rw [cellG q1]; rfl
               have k3 := heap_lt q1
               replace hI := Lib.hid hI; replace hO := Lib.hid hO; clear q1; go_simp)
            | (go_at_call 20; refine (fail_c hI.out long).mono ?_; rintro x w2 ⟨rfl, hI2, hO2⟩
               rw [show (sFail long (r, 0)).2 = long from rfl] at hI2
               clear k0 k1 k3
               obtain ⟨A2, c2, q2, _⟩ := hI2.ex
               rw [← HQ.out] at q2
               have k0 : w2.cell? ⟨g, 0, none⟩ = some (.slice A2 q c2) := by rw [cellG q2]; rfl
               have k1 : w2.cell? ⟨g, 1, none⟩ = some (.int .i64 (long : Int)) := by rw [cellG q2]; rfl
               have k2 := freeG q2 0
               have k3 := heap_lt q2
               replace hI2 := Lib.hid hI2; replace hO2 := Lib.hid hO2; clear q2; go_simp)
            | go_skip | go_guarded | go_step)
          go_ret
          obtain ⟨r1, r2⟩ := InAt.back h2 h3 HH.out.2.1 HH.out.2.2.1 (hO.out.trans hO2.out) hI2.out
          rw [HTE.out, HM.out]
          exact ⟨rfl, r1, r2⟩
      · have hm0 : ¬ most < 0 := fun h => hmo (.inl h)
        have hmn : ¬ most < (n : Int) := fun h => hmo (.inr h)
        have hmn' : (n : Int) ≤ most := by omega
        have hw1 : IntKind.u64.wrap most = most := by rw [IntKind.wrap_u64]; omega
        have hw2 : most % 18446744073709551616 = most := by omega
        have hw3 : IntKind.u64.wrap (q : Int) = (q : Int) := by rw [IntKind.wrap_u64]; omega
        have hw4 : (q : Int) % 18446744073709551616 = (q : Int) := by omega
        by_cases hqn : q < n
        · have hTe : T = ([], (l, 9)) := by rw [HTT.out, if_neg hmo, if_pos (by rw [← HQ.out]; exact hqn)]
          have HTE := Lib.hid hTe
          have hqn1 : (q : Int) < (n : Int) := by omega
          clear hTe hmo
          go_enter Tryz.func25, Tryz.ntmps25
          repeat' (first
            | (go_at_call 30; refine HE.out.mono ?_; rintro x w1 ⟨rfl, rfl⟩; go_simp)
            | (go_at_call 24; refine HNM.out.mono ?_; rintro x w1 ⟨rfl, hI, hO⟩
               obtain ⟨A1, c1, q1, _⟩ := hI.ex
               rw [← HQ.out] at q1
               have k0 : w1.cell? ⟨g, 0, none⟩ = some (.slice A1 q c1) := by rw [cellG q1]; rfl
               have k1 : w1.cell? ⟨g, 1, none⟩ = some (.int .i64 0) := by rw [cellG q1]; rfl
               have k3 := heap_lt q1
               replace hI := Lib.hid hI; replace hO := Lib.hid hO; clear q1; go_simp)
            | (go_at_call 20; refine (fail_c hI.out 9).mono ?_; rintro x w2 ⟨rfl, hI2, hO2⟩
               rw [show (sFail 9 (r, 0)).2 = 9 from rfl] at hI2
               clear k0 k1 k3
               obtain ⟨A2, c2, q2, _⟩ := hI2.ex
               rw [← HQ.out] at q2
               have k0 : w2.cell? ⟨g, 0, none⟩ = some (.slice A2 q c2) := by rw [cellG q2]; rfl
               have k1 : w2.cell? ⟨g, 1, none⟩ = some (.int .i64 9) := by rw [cellG q2]; rfl
               have k2 := freeG q2 0
               have k3 := heap_lt q2
               replace hI2 := Lib.hid hI2; replace hO2 := Lib.hid hO2; clear q2; go_simp)
            | go_skip | go_guarded | go_step)
          go_ret
          obtain ⟨r1, r2⟩ := InAt.back h2 h3 HH.out.2.1 HH.out.2.2.1 (hO.out.trans hO2.out) hI2.out
          rw [HTE.out, HM.out]
          exact ⟨rfl, r1, r2⟩
        · have hTe : T = (r.take n, (r.drop n, 0)) := by rw [HTT.out, if_neg hmo, if_neg (by rw [← HQ.out]; exact hqn)]
          have HTE := Lib.hid hTe
          have hqn1 : ¬ (q : Int) < (n : Int) := by omega
          have hqn2 : (n : Int) ≤ (q : Int) := by omega
          have hw5 : IntKind.i64.wrap (n : Int) = (n : Int) := by
            have h1 : (n : Int) ≤ 9223372036854775807 := by omega
            have h2 : (0 : Int) ≤ (n : Int) := by omega
            rw [IntKind.wrap_i64]; omega
          have hst : sTake n (r, 0) = (r.take n, (r.drop n, 0)) := by unfold sTake; rw [if_pos rfl, if_neg (by show ¬ r.length < n; rw [← HQ.out]; exact hqn)]
          have HST := Lib.hid hst
          clear hTe hmo hst
          go_enter Tryz.func25, Tryz.ntmps25
          repeat' (first
            | (go_at_call 30; refine HE.out.mono ?_; rintro x w1 ⟨rfl, rfl⟩; go_simp)
            | (go_at_call 24; refine HNM.out.mono ?_; rintro x w1 ⟨rfl, hI, hO⟩
               obtain ⟨A1, c1, q1, _⟩ := hI.ex
               rw [← HQ.out] at q1
               have k0 : w1.cell? ⟨g, 0, none⟩ = some (.slice A1 q c1) := by rw [cellG q1]; rfl
               have k1 : w1.cell? ⟨g, 1, none⟩ = some (.int .i64 0) := by rw [cellG q1]; rfl
               have k3 := heap_lt q1
               replace hI := Lib.hid hI; replace hO := Lib.hid hO; clear q1; go_simp)
            | (go_at_call 44; refine (take_c hI.out n (by omega)).mono ?_; rintro x w2 ⟨v2, rfl, hB2, hI2, hO2⟩
               rw [HST.out] at hB2 hI2
               have hcv := conv_bs Tryz.underlying22 Tryz.underlying5 Tryz.underlying9 hB2
               obtain ⟨A2, c2, rfl, _⟩ := hB2
               simp only [List.length_take] at hcv
               replace hI2 := Lib.hid hI2; replace hO2 := Lib.hid hO2; clear k0 k1 k3; go_simp)
            | go_skip | go_guarded | go_step)
          go_ret
          rw [HTE.out]
          exact ⟨rfl, hI2.out, hO.out.trans hO2.out⟩
  · have hTe : T = ([], (l, e)) := by rw [HT9.out]; unfold sText; rw [if_neg he]
    have HTE := Lib.hid hTe
    have d1 : ((e : Int) == 0) = false := by rw [beq_eq_false_iff_ne]; omega
    have d2 : ((e : Int) != 0) = true := by rw [bne_iff_ne]; omega
    clear hTe
    go_enter Tryz.func25, Tryz.ntmps25
    repeat' (first
      | (go_at_call 30; refine HE.out.mono ?_; rintro x w1 ⟨rfl, rfl⟩; go_simp)
      | go_skip | go_guarded | go_step)
    go_ret
    rw [HTE.out]
    exact ⟨rfl, HH.out.2.2.2, One.refl w⟩
end Go.Proofs.YtigoffdehdobiaaGreat
