/- Contract: does a cursor tell just these, and then no more? -/
import Derived.Test.YtbplddiopajocaaSi
set_option linter.unusedVariables false
set_option linter.unusedSimpArgs false
namespace Go.Proofs.Ytbplddiopajocaa
open Go.RowKit Go.QS
set_option linter.unusedVariables false

set_option maxRecDepth 100000 in
theorem neqP' (w : World) (p q : Pr) : (binOp .neq 24 (.agg #[str p.1, str p.2]) (.agg #[str q.1, str q.2])).run Try.prog w = .ok (.bool (decide (p ≠ q))) w := by
  obtain ⟨a, b⟩ := p
  obtain ⟨c, d⟩ := q
  simp only [go_sem]
  by_cases h1 : a = c <;> by_cases h2 : b = d <;> simp [h1, h2, go_sem]

set_option maxRecDepth 100000 in
set_option maxHeartbeats 2000000 in
theorem goes_c (W0 w : World) (c : Nat) (V : Value) (cs : List Wk) (r : List Wn) (s : Sp) (back : Bool) (v : Value) (l : List Pr) (h : CurAt W0 w c V cs r.reverse s back) (hg : Good r) (hw9 : wt r ≤ 1000000) (hs9 : s.f.length ≤ 1000) (hl : PS W0 v l) :
    Calls Try.prog 22 #[ptr c, v] w fun e w' => e = .returned (.bool (decide (com s back r = l))) ∧ Ext W0 w' := by
  obtain ⟨A, cap, rfl, hll, hn, hc, hs⟩ := hl
  obtain ⟨n, hn2⟩ : ∃ n, n = l.length := ⟨_, rfl⟩
  rw [← hn2] at hn ⊢
  have hn9 : n ≤ 9223372036854775807 := by unfold maxLen at hc; omega
  have Hn := Lib.hid hn2
  have H0 : Hid (_ ∧ _) := Lib.hid ⟨h, hg⟩
  obtain ⟨L0, hL0⟩ : ∃ L0, L0 = com s back r := ⟨_, rfl⟩
  rw [← hL0]
  have HL := Lib.hid hL0
  clear hn2 hll h hg hL0
  go_enter Try.func22, Try.ntmps22
  repeat' (go_not_at_region 2; (first | go_skip | go_guarded | go_step))
  go_loopg [13] n (fun gk v13 wr => ∃ (i : Nat) (V1 : Value) (cs1 : List Wk) (r1 : List Wn), v13 = .int .i64 i ∧ i ≤ n ∧ n - i ≤ gk ∧ wt r1 ≤ 1000000 ∧ Hid (CurAt W0 wr c V1 cs1 r1.reverse s back ∧ Good r1 ∧ L0 = l.take i ++ com s back r1))
  case atStart => exact ⟨0, V, cs, r, rfl, Nat.zero_le _, by omega, hw9, Lib.hid ⟨H0.out.1, H0.out.2, by rw [HL.out]; rfl⟩⟩
  case round =>
    obtain ⟨i, V1, cs1, r1, rfl, hin, hgk, hr9, HI⟩ := hrel
    rcases Nat.lt_or_ge i n with hlt | hge
    · have d1 : decide (i < n) = true := by simp [hlt]
      obtain ⟨p, hp⟩ := get_of_lt l (show i < l.length by have := Hn.out; omega)
      obtain ⟨b, o, rfl, hq1, hq2⟩ := seg_pair (hs.below HI.out.1.ext) hp
      have hi1 : (i : Int) < (n : Int) := by omega
      have HP := Lib.hid hp
      clear hp
      repeat' (first | go_at_call 27 | go_skip | go_guarded | go_step)
      have hcur := HI.out.1.keep ((Ext.refl wr).alloc (Nat.le_refl _) (.cells #[str p.1, str p.2] 33))
      refine (next_c W0 _ c V1 cs1 r1 s back hcur HI.out.2.1 hr9 hs9).mono ?_
      rintro e w2 ⟨V2, cs2, r2, hC2, hG2, hw2, hT2, hN2, hcase⟩
      obtain ⟨g5, hg5⟩ : ∃ g5, g5 = wr.heap.size := ⟨_, rfl⟩
      have hcl := heap_lt HI.out.1.cell
      have hb5 : w2.heap[g5]? = some (.cells #[str p.1, str p.2] 33 (0, 0)) := by
        rw [hg5]
        refine (hT2.block wr.heap.size (by simp) (by omega) ?_).trans (heap_new wr _)
        intro e
        have := (World.ownsRow.lt HI.out.1.row _ e.symm).2
        omega
      rw [← hg5]
      obtain ⟨k0, k1⟩ := box_cells hb5
      have HC2 : Hid (_ ∧ _ ∧ _) := Lib.hid ⟨hC2, hG2, hb5⟩
      have hgl := heap_lt hb5
      clear hC2 hG2 hT2 hN2 hb5 hcur hg5
      rcases hcase with ⟨hc0, rfl, hc1⟩ | ⟨q, hc0, rfl⟩
      · have HF : Hid (L0 ≠ l) := Lib.hid (by
          rw [HI.out.2.2, hc0, List.append_nil]
          intro e
          have := congrArg List.length e
          simp at this
          have := Hn.out
          omega)
        clear hc0 hc1
        go_simp
        repeat' (first | go_skip | go_guarded | go_step)
        go_ret
        exact ⟨by simp [HF.out], HC2.out.1.ext.alloc HC2.out.1.ext.size _⟩
      · have HQ := Lib.hid hc0
        have hne0 := fun w => neqR' w q p
        by_cases hqp : q = p
        · have hne : ∀ w, (binOp .neq 33 (.agg #[str q.1, str q.2]) (.agg #[str p.1, str p.2])).run Try.prog w = .ok (.bool false) w := fun w => by rw [hne0]; simp [hqp]
          have HE := Lib.hid hqp
          clear hqp hc0 hne0
          go_simp
          repeat' (first | go_skip | go_guarded | go_step)
          go_roundg (n - (i + 1))
          case measure => omega
          case rel =>
            refine ⟨i + 1, V2, cs2, r2, by go_num, by omega, Nat.le_refl _, by omega, Lib.hid ⟨HC2.out.1.keep ((Ext.refl _).alloc (Nat.le_refl _) _), HC2.out.2.1, ?_⟩⟩
            rw [HI.out.2.2, HQ.out, take_snoc HP.out, HE.out]; simp
        · have hne : ∀ w, (binOp .neq 33 (.agg #[str q.1, str q.2]) (.agg #[str p.1, str p.2])).run Try.prog w = .ok (.bool true) w := fun w => by rw [hne0]; simp [hqp]
          have HF : Hid (L0 ≠ l) := Lib.hid (by
            rw [HI.out.2.2, HQ.out]
            intro e
            have e1 : (l.take i ++ q :: com s back r2)[i]? = l[i]? := by rw [e]
            rw [List.getElem?_append_right (by simp; omega), HP.out] at e1
            have : i - (l.take i).length = 0 := by simp; have := Hn.out; omega
            rw [this] at e1
            simp at e1
            exact hqp e1)
          clear hqp hc0 hne0
          go_simp
          repeat' (first | go_skip | go_guarded | go_step)
          go_ret
          exact ⟨by simp [HF.out], HC2.out.1.ext.alloc HC2.out.1.ext.size _⟩
    · obtain rfl : i = n := by omega
      have d1 : decide (i < i) = false := by simp
      have ht : l.take i = l := List.take_of_length_le (by have := Hn.out; omega)
      have HT : Hid (L0 = l ++ com s back r1) := Lib.hid (by rw [← ht]; exact HI.out.2.2)
      have HX : Hid (CurAt W0 wr c V1 cs1 r1.reverse s back ∧ Good r1) := Lib.hid ⟨HI.out.1, HI.out.2.1⟩
      clear ht hgk HI
      repeat' (go_not_at_region 9; (first | go_skip | go_guarded | go_step))
      cases hcm : com s back r1 with
      | nil =>
        have hL : L0 = l := by rw [HT.out, hcm, List.append_nil]
        have HLL := Lib.hid hL
        have HCM := Lib.hid hcm
        clear hcm hL
        go_loopg [30] 2 (fun gk v30 wx => ∃ (j : Nat) (V1 : Value) (cs1 : List Wk) (r1 : List Wn), v30 = .int .i64 j ∧ j ≤ 2 ∧ 2 - j ≤ gk ∧ wt r1 ≤ 1000000 ∧ Hid (CurAt W0 wx c V1 cs1 r1.reverse s back ∧ Good r1 ∧ com s back r1 = []))
        case atStart => exact ⟨0, V1, cs1, r1, rfl, by omega, by omega, hr9, Lib.hid ⟨HX.out.1, HX.out.2, HCM.out⟩⟩
        case round =>
          obtain ⟨j, V3, cs3, r3, rfl, hj2, hgk, hr93, HI3⟩ := hrel
          rcases Nat.lt_or_ge j 2 with hlt | hge
          · have d2 : decide (j < 2) = true := by simp [hlt]
            have hlt' : (j : Int) < 2 := by omega
            repeat' (first | go_at_call 27 | go_skip | go_guarded | go_step)
            refine (next_c W0 _ c V3 cs3 r3 s back HI3.out.1 HI3.out.2.1 hr93 hs9).mono ?_
            rintro e w2 ⟨V2, cs2, r2, hC2, hG2, hw2, hT2, hN2, hcase⟩
            rcases hcase with ⟨_, rfl, hc1⟩ | ⟨q, hc0, _⟩
            · have hne : ∀ w, (binOp .neq 24 (.agg #[str [], str []]) (.agg #[.string ⟨#[]⟩, .string ⟨#[]⟩])).run Try.prog w = .ok (.bool false) w := fun w => by
                have := neqP' w ([], []) ([], [])
                rw [show decide ((([], []) : Pr) ≠ ([], [])) = false by simp] at this
                exact this
              have HC2 : Hid (_ ∧ _ ∧ _) := Lib.hid ⟨hC2, hG2, hc1⟩
              clear hC2 hG2 hT2 hN2 hc1
              go_simp
              repeat' (first | go_skip | go_guarded | go_step)
              go_roundg (2 - (j + 1))
              case measure => omega
              case rel => exact ⟨j + 1, V2, cs2, r2, by go_num, by omega, Nat.le_refl _, by omega, Lib.hid ⟨HC2.out.1.keep ((Ext.refl _).alloc (Nat.le_refl _) _), HC2.out.2.1, HC2.out.2.2⟩⟩
            · have := HI3.out.2.2
              rw [hc0] at this
              cases this
          · obtain rfl : j = 2 := by omega
            repeat' (first | go_skip | go_guarded | go_step)
            go_ret
            exact ⟨by simp [HLL.out], HI3.out.1.ext⟩
      | cons q0 rest =>
        have hL : L0 ≠ l := by
          rw [HT.out, hcm]
          intro e
          have := congrArg List.length e
          simp at this
        have HLL := Lib.hid hL
        have HCM := Lib.hid hcm
        clear hcm hL
        refine wp_loop_once ?_
        repeat' (first | go_at_call 27 | go_skip | go_guarded | go_step)
        refine (next_c W0 _ c V1 cs1 r1 s back HX.out.1 HX.out.2 hr9 hs9).mono ?_
        rintro e w2 ⟨V2, cs2, r2, hC2, hG2, hw2, hT2, hN2, hcase⟩
        rcases hcase with ⟨hc0, _, _⟩ | ⟨q, hc0, rfl⟩
        · rw [HCM.out] at hc0; cases hc0
        · have HC2 := Lib.hid hC2
          clear hC2 hG2 hT2 hN2 hc0
          go_simp
          repeat' (first | go_skip | go_guarded | go_step)
          go_ret
          exact ⟨by simp [HLL.out], HC2.out.ext.alloc HC2.out.ext.size _⟩
end Go.Proofs.Ytbplddiopajocaa
