/- Contracts: pair.Right, the document's; diff.Right. -/
import Derived.Test.YtigoffdehdobiaaGreatN00
import Derived.Test.YtigoffdehdobiaaGreatM05
set_option linter.unusedVariables false
set_option linter.unusedSimpArgs false
namespace Go.Proofs.YtigoffdehdobiaaGreat
open Go.RowKit Go.QS
set_option linter.unusedVariables false

/-- What Right answers. -/
def rgtN (a b : Nat) : Nat := if 256 < a then 2 else if 4096 < b then 3 else 0
set_option maxRecDepth 100000 in
theorem rgt_c (w : World) (k v : List UInt8) : Calls Tryz.prog 46 #[str k, str v] w fun e w' => e = .returned (.int .i64 (rgtN k.length v.length : Nat)) ∧ w = w' := by
  by_cases h1 : 256 < k.length
  · have d1 : (256 : Int) < (k.length : Int) := by omega
    have H := Lib.hid h1
    clear h1
    go_enter Tryz.func46, Tryz.ntmps46
    repeat' go_step
    all_goals go_ret
    exact ⟨by simp [rgtN, H.out], rfl⟩
  · by_cases h2 : 4096 < v.length
    · have d1 : ¬ (256 : Int) < (k.length : Int) := by omega
      have d2 : (4096 : Int) < (v.length : Int) := by omega
      have H := Lib.hid h1; have H' := Lib.hid h2
      clear h1 h2
      go_enter Tryz.func46, Tryz.ntmps46
      repeat' go_step
      all_goals go_ret
      exact ⟨by simp [rgtN, H.out, H'.out], rfl⟩
    · have d1 : ¬ (256 : Int) < (k.length : Int) := by omega
      have d2 : ¬ (4096 : Int) < (v.length : Int) := by omega
      have H := Lib.hid h1; have H' := Lib.hid h2
      clear h1 h2
      go_enter Tryz.func46, Tryz.ntmps46
      repeat' go_step
      all_goals go_ret
      exact ⟨by simp [rgtN, H.out, H'.out], rfl⟩
set_option maxRecDepth 100000 in
theorem rrgt_c (w : World) (k v : List UInt8) : Calls Tryz.prog 57 #[str k, str v] w fun e w' => e = .returned (.int .i64 (rgtN k.length v.length : Nat)) ∧ w = w' := by
  by_cases h1 : 256 < k.length
  · have d1 : (256 : Int) < (k.length : Int) := by omega
    have H := Lib.hid h1
    clear h1
    go_enter Tryz.func57, Tryz.ntmps57
    repeat' go_step
    all_goals go_ret
    exact ⟨by simp [rgtN, H.out], rfl⟩
  · by_cases h2 : 4096 < v.length
    · have d1 : ¬ (256 : Int) < (k.length : Int) := by omega
      have d2 : (4096 : Int) < (v.length : Int) := by omega
      have H := Lib.hid h1; have H' := Lib.hid h2
      clear h1 h2
      go_enter Tryz.func57, Tryz.ntmps57
      repeat' go_step
      all_goals go_ret
      exact ⟨by simp [rgtN, H.out, H'.out], rfl⟩
    · have d1 : ¬ (256 : Int) < (k.length : Int) := by omega
      have d2 : ¬ (4096 : Int) < (v.length : Int) := by omega
      have H := Lib.hid h1; have H' := Lib.hid h2
      clear h1 h2
      go_enter Tryz.func57, Tryz.ntmps57
      repeat' go_step
      all_goals go_ret
      exact ⟨by simp [rgtN, H.out, H'.out], rfl⟩

/-- How a change's keys and values may be. -/
theorem errCh_cases (c : Ch) :
    (rgtN c.1.length c.2.1.length = 2 ∧ errCh c = 2) ∨ (rgtN c.1.length c.2.1.length = 3 ∧ errCh c = 3) ∨ (rgtN c.1.length c.2.1.length = 0 ∧ rgtN c.1.length c.2.2.1.length = 3 ∧ errCh c = 3) ∨ (rgtN c.1.length c.2.1.length = 0 ∧ rgtN c.1.length c.2.2.1.length = 0 ∧ errCh c = 0) := by
  unfold rgtN errCh
  by_cases h1 : 256 < c.1.length
  · exact .inl ⟨by rw [if_pos h1], by rw [if_pos h1]⟩
  · by_cases h2 : 4096 < c.2.1.length
    · exact .inr (.inl ⟨by rw [if_neg h1, if_pos h2], by rw [if_neg h1, if_pos (.inl h2)]⟩)
    · by_cases h3 : 4096 < c.2.2.1.length
      · exact .inr (.inr (.inl ⟨by rw [if_neg h1, if_neg h2], by rw [if_neg h1, if_pos h3], by rw [if_neg h1, if_pos (.inr h3)]⟩))
      · exact .inr (.inr (.inr ⟨by rw [if_neg h1, if_neg h2], by rw [if_neg h1, if_neg h3], by rw [if_neg h1, if_neg (by omega)]⟩))
/-- From the third question on. -/
theorem rightL_rise {l : List Ch} (h : riseCh l = false) : rightL l = 13 := by unfold rightL; rw [if_neg (by simp [h])]
theorem rightL_bad {l : List Ch} (h : riseCh l = true) (hb : l.any badCh = true) : rightL l = 1 := by unfold rightL; rw [if_pos h, if_pos hb]
theorem rightL_err {l : List Ch} (h : riseCh l = true) (hb : l.any badCh = false) : rightL l = firstE l := by unfold rightL; rw [if_pos h, if_neg (by simp [hb])]
theorem rise_no {l : List Ch} {i : Nat} {p q : Ch} (hp : l[i]? = some p) (hq : l[i + 1]? = some q) (h : ¬ p.1 < q.1) : riseCh l = false := by
  rw [Bool.eq_false_iff]
  intro hh
  exact h ((riseCh_iff l).1 hh i p q hp hq)

set_option maxRecDepth 100000 in
set_option maxHeartbeats 2000000 in
theorem dright_c (w : World) (v : Value) (l : List Ch) (h : Sl w 5 v l.length (flatE encCh l)) (h9 : l.length ≤ 1000000000) :
    Calls Tryz.prog 34 #[v] w fun e w' => e = .returned (.int .i64 (rightL l : Nat)) ∧ Ext w w' := by
  have HS := Lib.hid h
  obtain ⟨A, c, rfl, hl, hn, hc, hs⟩ := h
  obtain ⟨n, hn2⟩ : ∃ n, n = l.length := ⟨_, rfl⟩
  rw [← hn2] at h9 hn HS ⊢
  have Hn := Lib.hid hn2
  clear hn2 hl
  obtain ⟨R, hR⟩ : ∃ R, R = rightL l := ⟨_, rfl⟩
  rw [← hR]
  have HR := Lib.hid hR
  clear hR
  go_enter Tryz.func34, Tryz.ntmps34
  repeat' (go_not_at_region 2; go_step)
  go_loopg [3] n (fun gk vk wr => ∃ k : Nat, vk = .int .i64 k ∧ 1 ≤ k ∧ n - k ≤ gk ∧ k ≤ 1000000001 ∧ Ext w wr ∧ Hid (∀ i p q, i + 1 < k → l[i]? = some p → l[i + 1]? = some q → p.1 < q.1))
  case atStart => exact ⟨1, rfl, Nat.le_refl _, by omega, by omega, Ext.refl _, Lib.hid fun i p q h => by omega⟩
  case round =>
    obtain ⟨k, rfl, hk1, hgk, hk9, hb, HI⟩ := hrel
    by_cases hlt : k < n
    · have d1 : decide (k < n) = true := by simp [hlt]
      obtain ⟨k0, hk0⟩ : ∃ k0, k = k0 + 1 := ⟨k - 1, by omega⟩
      obtain ⟨q, hq⟩ := get_of_lt l (show k < l.length by have := Hn.out; omega)
      obtain ⟨p, hp⟩ := get_of_lt l (show k0 < l.length by have := Hn.out; omega)
      obtain ⟨b, o, rfl, hq1, _⟩ := seg_ch (hs.below hb) hq
      obtain ⟨b', o', hA, hp1, _⟩ := seg_ch (hs.below hb) hp
      simp only [Option.some.injEq, Addr.mk.injEq, and_true] at hA
      obtain ⟨rfl, rfl⟩ := hA
      have hs1 : IntKind.i64.wrap ((k : Int) - 1) = (k0 : Int) := by rw [show (k : Int) - 1 = (k0 : Int) by omega]; exact IntWalk.i64_in _ (by omega)
      have hi1 : (k : Int) < (n : Int) := by omega
      have hi2 : (k0 : Int) < (n : Int) := by omega
      have HK : Hid (_ ∧ _ ∧ _) := Lib.hid ⟨hk0, hq, hp⟩
      clear hk0 hq hp
      by_cases hpq : p.1 < q.1
      · have hl : Op.bytesLess p.1 q.1 = true := by rw [bless]; simp [hpq]
        have Hp := Lib.hid hpq
        clear hpq
        repeat' go_step
        go_quiet (fail)
        repeat' go_step
        go_roundg (n - (k + 1))
        case measure => omega
        case rel =>
          refine ⟨k + 1, by go_num, by omega, Nat.le_refl _, by omega, below_drewN hb _, Lib.hid fun i p' q' h h1 h2 => ?_⟩
          obtain ⟨hk0, hq, hp⟩ := HK.out
          by_cases hi : i + 1 < k
          · exact HI.out i p' q' hi h1 h2
          · have : i = k0 := by omega
            subst this
            rw [hp] at h1; rw [← hk0, hq] at h2
            cases h1; cases h2
            exact Hp.out
      · have hl : Op.bytesLess p.1 q.1 = false := by rw [bless]; simp [hpq]
        have Hp := Lib.hid hpq
        clear hpq
        repeat' go_step
        go_quiet (fail)
        repeat' go_step
        go_ret
        refine ⟨?_, below_drewN hb _⟩
        have : riseCh l = false := by
          obtain ⟨hk0, hq, hp⟩ := HK.out
          exact rise_no hp (by rw [← hk0]; exact hq) Hp.out
        rw [HR.out, rightL_rise this]; rfl
    · have d1 : decide (k < n) = false := by simp; omega
      have HRi : Hid (riseCh l = true) := Lib.hid ((riseCh_iff l).2 fun i p q hp hq => HI.out i p q (by have := (List.getElem?_eq_some_iff.1 hq).1; have := Hn.out; omega) hp hq)
      clear hk1 hgk hk9 HI
      have HC := Lib.hid (chcont_c wr (.slice A n c) l (by rw [← Hn.out]; exact HS.out.below hb))
      repeat' (first | go_at_call 52 | go_skip | go_guarded | go_step)
      refine HC.out.mono ?_
      rintro e w1 ⟨rfl, f1⟩
      have H1 : Hid (Ext w w1) := Lib.hid (hb.trans f1)
      clear f1 HC
      cases hB : l.any badCh with
      | true =>
        have HB := Lib.hid hB
        clear hB
        go_simp
        repeat' (first | go_skip | go_guarded | go_step)
        go_ret
        rw [HR.out, rightL_bad HRi.out HB.out]
        exact ⟨rfl, H1.out⟩
      | false =>
        have HB := Lib.hid hB
        have hRE : Hid (R = firstE l) := Lib.hid (by rw [HR.out, rightL_err HRi.out hB])
        clear hB
        go_simp
        repeat' (go_not_at_region 9; (first | go_skip | go_guarded | go_step))
        go_loopg [30] n (fun gk vk wz => ∃ j : Nat, vk = .int .i64 j ∧ j ≤ n ∧ n - j ≤ gk ∧ Hid (Ext w wz ∧ R = firstE (l.drop j)))
        case atStart => exact ⟨0, rfl, Nat.zero_le _, Nat.le_refl _, Lib.hid ⟨H1.out, by rw [hRE.out, List.drop_zero]⟩⟩
        case round =>
          obtain ⟨j, rfl, hjn, hgk, HJ⟩ := hrel
          rcases Nat.lt_or_ge j n with hjl | hjg
          · have d2 : decide (j < n) = true := by simp [hjl]
            obtain ⟨x, hx⟩ := get_of_lt l (show j < l.length by have := Hn.out; omega)
            obtain ⟨b, o, rfl, q0, q1, q2, q3, q4⟩ := seg_ch (hs.below HJ.out.1) hx
            have hi1 : (j : Int) < (n : Int) := by omega
            have HX : Hid (R = if errCh x = 0 then firstE (l.drop (j + 1)) else errCh x) := Lib.hid (by rw [HJ.out.2, firstE_take hx])
            have hec := errCh_cases x
            clear hx
            have hE8 : Hid (Ext w (wr.alloc (.cells #[str x.1, str x.2.1, str x.2.2.1, .bool x.2.2.2.1, .bool x.2.2.2.2] ChT))) := Lib.hid (HJ.out.1.alloc HJ.out.1.size _)
            repeat' (first | go_at_call 46 | go_skip | go_guarded | go_step)
            refine (rgt_c _ _ _).mono ?_
            rintro e w2 ⟨rfl, rfl⟩
            rcases hec with ⟨h1, h2⟩ | ⟨h1, h2⟩ | ⟨h1, h2, h3⟩ | ⟨h1, h2, h3⟩
            · rw [h1]
              have HZ := Lib.hid h2
              clear h1 h2
              go_simp
              repeat' (first | go_skip | go_guarded | go_step)
              go_ret
              rw [HX.out, HZ.out]
              exact ⟨rfl, hE8.out⟩
            · rw [h1]
              have HZ := Lib.hid h2
              clear h1 h2
              go_simp
              repeat' (first | go_skip | go_guarded | go_step)
              go_ret
              rw [HX.out, HZ.out]
              exact ⟨rfl, hE8.out⟩
            · rw [h1]
              have HZ := Lib.hid h3
              have HZ2 := Lib.hid h2
              clear h1 h2 h3
              go_simp
              repeat' (first | go_at_call 46 | go_skip | go_guarded | go_step)
              refine (rgt_c _ _ _).mono ?_
              rintro e w2 ⟨rfl, rfl⟩
              rw [HZ2.out]
              go_simp
              repeat' (first | go_skip | go_guarded | go_step)
              go_ret
              rw [HX.out, HZ.out]
              exact ⟨rfl, hE8.out⟩
            · rw [h1]
              have HZ := Lib.hid h3
              have HZ2 := Lib.hid h2
              clear h1 h2 h3
              go_simp
              repeat' (first | go_at_call 46 | go_skip | go_guarded | go_step)
              refine (rgt_c _ _ _).mono ?_
              rintro e w2 ⟨rfl, rfl⟩
              rw [HZ2.out]
              go_simp
              repeat' (first | go_skip | go_guarded | go_step)
              go_roundg (n - (j + 1))
              case measure => omega
              case rel => exact ⟨j + 1, by go_num, by omega, Nat.le_refl _, Lib.hid ⟨hE8.out, by rw [HX.out, if_pos HZ.out]⟩⟩
          · obtain rfl : j = n := by omega
            have d2 : decide (j < j) = false := by simp
            repeat' (first | go_skip | go_guarded | go_step)
            go_ret
            rw [HJ.out.2, List.drop_eq_nil_of_le (by have := Hn.out; omega)]
            exact ⟨rfl, HJ.out.1⟩
end Go.Proofs.YtigoffdehdobiaaGreat
