/- Contract: the document's Pairs of a span. -/
import Derived.Test.YtbplddiopajocaaSo
set_option linter.unusedVariables false
set_option linter.unusedSimpArgs false
namespace Go.Proofs.Ytbplddiopajocaa
open Go.RowKit Go.QS
set_option linter.unusedVariables false

/-- Those of a list that a span has, either way. -/
def prsS (s : Sp) (back : Bool) (x : List Pr) : List Pr := (if back then x.reverse else x).filter fun p => s.has p.1

theorem filt_snoc {α : Type} {l : List α} {i : Nat} {q : α} (f : α → Bool) (h : l[i]? = some q) : (l.take (i + 1)).filter f = (l.take i).filter f ++ if f q then [q] else [] := by
  rw [take_snoc h, List.filter_append]
  cases hf : f q <;> simp [hf]

set_option maxRecDepth 100000 in
set_option maxHeartbeats 1000000 in
theorem rpairs_c (w : World) (v : Value) (x : List Pr) (s : Sp) (back : Bool) (h : PS w v x) (hx : x.length ≤ 1000) (hk : ∀ p ∈ x, p.1.length ≤ 1000) :
    Calls Try.prog 21 #[v, str s.f, str s.t, .bool s.o, .bool back] w fun e w' => ∃ v', e = .returned v' ∧ PS w' v' (prsS s back x) ∧ Ext w w' := by
  obtain ⟨A, c, rfl, hl, hn, hc, hs⟩ := h
  obtain ⟨n, hn2⟩ : ∃ n, n = x.length := ⟨_, rfl⟩
  rw [← hn2] at hn hx ⊢
  obtain ⟨Y, hY⟩ : ∃ Y, Y = (if back then x.reverse else x) := ⟨_, rfl⟩
  have hYl : Y.length = n := by rw [hY, hn2]; cases back <;> simp
  have HY : Hid (prsS s back x = Y.filter (fun p => s.has p.1)) := Lib.hid (by rw [hY]; rfl)
  have HYG : Hid (∀ i q, Y[i]? = some q → (back = false → x[i]? = some q) ∧ (back = true → x[n - 1 - i]? = some q)) := Lib.hid fun i q hq => by
    have hi := (List.getElem?_eq_some_iff.1 hq).1
    refine ⟨fun e => by rw [hY, e] at hq; simpa using hq, fun e => ?_⟩
    rw [hY, e] at hq
    simp only [if_true] at hq
    rw [List.getElem?_reverse (by omega)] at hq
    rw [hn2]; exact hq
  have Hn : Hid (n = x.length ∧ Y.length = n ∧ ∀ p ∈ x, p.1.length ≤ 1000) := Lib.hid ⟨hn2, hYl, hk⟩
  have HS := Lib.hid hs
  clear hn2 hl hs hk hY hYl
  go_enter Try.func21, Try.ntmps21
  repeat' (go_not_at_region 3; (first | go_skip | go_guarded | go_step))
  go_loopg [11, 16] n (fun gk v11 v16 wr => ∃ i : Nat, v16 = .int .i64 i ∧ i ≤ n ∧ n - i ≤ gk ∧ Hid (Ext w wr ∧ wr.ownsRow w.heap.size 33 2 v11 ((Y.take i).filter fun p => s.has p.1).length (flat ((Y.take i).filter fun p => s.has p.1))))
  case atStart => exact ⟨0, rfl, Nat.zero_le _, by omega, Lib.hid ⟨Ext.refl _, World.ownsRow_nil _ _ _ _⟩⟩
  case round =>
    obtain ⟨i, rfl, hin, hgk, HI⟩ := hrel
    rcases Nat.lt_or_ge i n with hlt | hge
    · have d1 : decide (i < n) = true := by simp [hlt]
      obtain ⟨q, hq⟩ := get_of_lt Y (show i < Y.length by have := Hn.out.2.1; omega)
      obtain ⟨p0, hp0⟩ := get_of_lt x (show i < x.length by have := Hn.out.1; omega)
      have hqx := HYG.out i q hq
      have hfl : ((Y.take i).filter fun p => s.has p.1).length ≤ 1000 := Nat.le_trans (List.length_filter_le _ _) (by rw [List.length_take]; omega)
      have HST := Lib.hid (filt_snoc (fun p : Pr => s.has p.1) hq)
      have hi1 : (i : Int) < (n : Int) := by omega
      have hsw := HS.out.below HI.out.1
      obtain ⟨b, o, rfl, hq1, hq2⟩ := seg_pair hsw hp0
      have hbl : b < wr.heap.size := World.block_lt_of_cell? wr _ hq1
      have HSW := Lib.hid hsw
      clear hq hsw
      cases back with
      | false =>
        have hpq : q = p0 := by have := hqx.1 rfl; rw [hp0] at this; exact (Option.some.inj this).symm
        subst hpq
        have hql := Hn.out.2.2 q (List.mem_of_getElem? hp0)
        clear hqx hp0
        repeat' (first | go_at_call 48 | go_skip | go_guarded | go_step)
        obtain ⟨y, hy⟩ : ∃ y, y = wr.alloc (.cells #[str q.1, str q.2] 33) := ⟨_, rfl⟩
        obtain ⟨gq, hgq⟩ : ∃ gq, gq = wr.heap.size := ⟨_, rfl⟩
        have hEy : Ext wr y := by rw [hy]; exact (Ext.refl _).alloc (Nat.le_refl _) _
        have hby := heap_new wr (.cells #[str q.1, str q.2] 33)
        rw [← hy, ← hgq] at hby
        have hy' : wr.alloc (.cells #[Value.string (bs q.1), Value.string (bs q.2)] 33) = y := hy.symm
        first | rw [hy', ← hgq] | skip
        have HYY : Hid (Ext wr y ∧ y.heap[gq]? = some (.cells #[str q.1, str q.2] 33 (0, 0))) := Lib.hid ⟨hEy, hby⟩
        clear hy hgq hEy hby hy' hq1 hq2
        refine (rhas_c y s q.1 (by omega)).mono ?_
        rintro e x1 ⟨rfl, f1⟩
        have hb1 := box_ext HYY.out.2 f1
        obtain ⟨k0, k1⟩ := box_cells hb1
        have hgl := heap_lt hb1
        have hE1 : Ext w x1 := Ext.trans HI.out.1 (Ext.trans HYY.out.1 f1)
        have hown := row_ext HI.out.2 (Ext.trans HYY.out.1 f1)
        clear f1 hb1
        cases hhs : s.has q.1 with
        | false =>
          have HE : Hid (Ext w x1 ∧ _) := Lib.hid ⟨hE1, hown⟩
          have HHS := Lib.hid hhs
          clear hE1 hown hhs
          go_simp
          repeat' (first | go_skip | go_guarded | go_step)
          go_roundg (n - (i + 1))
          case measure => omega
          case rel =>
            refine ⟨i + 1, by go_num, by omega, Nat.le_refl _, Lib.hid ⟨HE.out.1, ?_⟩⟩
            rw [HST.out, HHS.out]
            simp only [Bool.false_eq_true, if_false, List.append_nil]
            exact HE.out.2
        | true =>
          have HHS := Lib.hid hhs
          clear hhs
          go_simp
          repeat' (first | (at_builtin; refine wpList_appE (W := w) rfl (.tmp 38) (.tmp 40) _ rfl 33 2 32 Try.underlying28 infoR (by decide) _ _ _ rfl (hown.alloc _) (hE1.alloc hE1.size _) _ 1 1 [str q.1, str q.2] rfl rfl (Seg.new _ [_, _] _ (by simp)) (by intro u hu; simp at hu; rcases hu with rfl | rfl <;> rfl) (by unfold maxLen; omega) (by omega) ?_; intro v5 w5' hown5 hb5) | go_step)
          go_roundg (n - (i + 1))
          case measure => omega
          case rel =>
            refine ⟨i + 1, by go_num, by omega, Nat.le_refl _, Lib.hid ⟨hb5, ?_⟩⟩
            rw [HST.out, HHS.out]
            simp only [if_true]
            rw [List.length_append, flat_append]
            exact hown5
      | true =>
        have hqt := hqx.2 rfl
        obtain ⟨m, hm⟩ : ∃ m, m = n - 1 - i := ⟨_, rfl⟩
        rw [← hm] at hqt
        obtain ⟨b', o', hbo, hr1, hr2⟩ := seg_pair HSW.out hqt
        cases hbo
        have hm1 : ((n : Int) - 1 - (i : Int)) = (m : Int) := by omega
        have hm2 : (m : Int) < (n : Int) := by omega
        have hql := Hn.out.2.2 q (List.mem_of_getElem? hqt)
        clear hqx hp0 hqt hm
        repeat' (first | go_at_call 48 | go_skip | go_guarded | go_step)
        obtain ⟨y, hy⟩ : ∃ y, y = wr.alloc (.cells #[str q.1, str q.2] 33) := ⟨_, rfl⟩
        obtain ⟨gq, hgq⟩ : ∃ gq, gq = wr.heap.size := ⟨_, rfl⟩
        have hEy : Ext wr y := by rw [hy]; exact (Ext.refl _).alloc (Nat.le_refl _) _
        have hby := heap_new wr (.cells #[str q.1, str q.2] 33)
        rw [← hy, ← hgq] at hby
        have hy' : wr.alloc (.cells #[Value.string (bs q.1), Value.string (bs q.2)] 33) = y := hy.symm
        first | rw [hy', ← hgq] | skip
        have HYY : Hid (Ext wr y ∧ y.heap[gq]? = some (.cells #[str q.1, str q.2] 33 (0, 0))) := Lib.hid ⟨hEy, hby⟩
        clear hy hgq hEy hby hy' hq1 hq2
        refine (rhas_c y s q.1 (by omega)).mono ?_
        rintro e x1 ⟨rfl, f1⟩
        have hb1 := box_ext HYY.out.2 f1
        obtain ⟨k0, k1⟩ := box_cells hb1
        have hgl := heap_lt hb1
        have hE1 : Ext w x1 := Ext.trans HI.out.1 (Ext.trans HYY.out.1 f1)
        have hown := row_ext HI.out.2 (Ext.trans HYY.out.1 f1)
        clear f1 hb1
        cases hhs : s.has q.1 with
        | false =>
          have HE : Hid (Ext w x1 ∧ _) := Lib.hid ⟨hE1, hown⟩
          have HHS := Lib.hid hhs
          clear hE1 hown hhs
          go_simp
          repeat' (first | go_skip | go_guarded | go_step)
          go_roundg (n - (i + 1))
          case measure => omega
          case rel =>
            refine ⟨i + 1, by go_num, by omega, Nat.le_refl _, Lib.hid ⟨HE.out.1, ?_⟩⟩
            rw [HST.out, HHS.out]
            simp only [Bool.false_eq_true, if_false, List.append_nil]
            exact HE.out.2
        | true =>
          have HHS := Lib.hid hhs
          clear hhs
          go_simp
          repeat' (first | (at_builtin; refine wpList_appE (W := w) rfl (.tmp 38) (.tmp 40) _ rfl 33 2 32 Try.underlying28 infoR (by decide) _ _ _ rfl (hown.alloc _) (hE1.alloc hE1.size _) _ 1 1 [str q.1, str q.2] rfl rfl (Seg.new _ [_, _] _ (by simp)) (by intro u hu; simp at hu; rcases hu with rfl | rfl <;> rfl) (by unfold maxLen; omega) (by omega) ?_; intro v5 w5' hown5 hb5) | go_step)
          go_roundg (n - (i + 1))
          case measure => omega
          case rel =>
            refine ⟨i + 1, by go_num, by omega, Nat.le_refl _, Lib.hid ⟨hb5, ?_⟩⟩
            rw [HST.out, HHS.out]
            simp only [if_true]
            rw [List.length_append, flat_append]
            exact hown5
    · obtain rfl : i = n := by omega
      have d1 : decide (i < i) = false := by simp
      have hfin := HI.out
      rw [List.take_of_length_le (by have := Hn.out.2.1; omega), ← HY.out] at hfin
      have HF := Lib.hid hfin
      clear hfin HI
      repeat' (first | go_skip | go_guarded | go_step)
      go_ret
      exact ⟨_, rfl, PS.of_own HF.out.2, HF.out.1⟩
end Go.Proofs.Ytbplddiopajocaa
