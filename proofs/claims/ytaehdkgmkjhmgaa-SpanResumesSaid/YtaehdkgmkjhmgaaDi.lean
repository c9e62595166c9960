/- SpanResumes: its last test, as a law of its own. -/
import Derived.Test.YtaehdkgmkjhmgaaDe
namespace Go.Proofs.Ytaehdkgmkjhmgaa
open Go.RowKit Go.QS
set_option linter.unusedVariables false

def lead : Code → Option Nat
  | .region id _ _ => some id
  | .seq a _ => lead a
  | _ => none
def findS (n : Nat) : Code → Option Code
  | .region id ops d => if id = n then some (.region id ops d) else none
  | .seq a b => if lead a = some n then some (.seq a b) else match findS n a with | some c => some c | none => findS n b
  | .cond _ a b => match findS n a with | some c => some c | none => findS n b
  | .block _ b => findS n b
  | .loop b => findS n b
  | .scope b => findS n b
  | _ => none
def findR (n : Nat) : Code → Option Code
  | .region id ops d => if id = n then some (.region id ops d) else none
  | .seq a b => match findR n a with | some c => some c | none => findR n b
  | .cond _ a b => match findR n a with | some c => some c | none => findR n b
  | .block _ b => findR n b
  | .loop b => findR n b
  | .scope b => findR n b
  | _ => none

theorem run_from3 {t e : TypeId} (ht : Try.prog.underlying t = some (.slice e)) (hi : ∃ i z, Try.prog.info? e = some i ∧ i.zero = some z ∧ i.size = 2 ∧ i.bytes = 32 ∧ z.cells.size = 2) (A : Option Addr) {n c i : Nat} (hin : i ≤ n) (hnc : n ≤ c) :
    ∃ A2, (∀ w, (Instr.slice t (.slice A n c) (some (.int .i64 (i : Int))) none none).run Try.prog w = .ok (.slice A2 (n - i) (c - i)) w) ∧
      ∀ (w : World) (xs : List Value), xs.length = n * 2 → Seg w A xs → Seg w A2 (xs.drop (i * 2)) := by
  obtain ⟨inf, z, hi, hz, hs, hb, hzs⟩ := hi
  refine ⟨if c = i then A else A.map (·.add (i * 2)), fun w => ?_, fun w xs hl hs => ?_⟩
  · have h1 : (0 : Int) ≤ (i : Int) := by omega
    have h2 : (i : Int) ≤ (n : Int) := by omega
    simp [Instr.slice, Instr.sliceBounds, Instr.sliceBound, asIntOf, run_underlying ht, sizeOf, typeInfo, hi, hs, hin]
  · by_cases h : c = i
    · have : xs.drop (i * 2) = [] := List.drop_eq_nil_of_le (by rw [hl]; exact Nat.mul_le_mul_right _ (by omega))
      rw [this]; exact Seg.nil _ _
    · rw [if_neg h]
      intro hne
      obtain ⟨b, o, hA, hc⟩ := hs (fun e => hne (by simp [e]))
      subst hA
      have := Seg.drop (w := w) (b := b) (o := o) hs (i * 2)
      obtain ⟨b', o', hA', hc'⟩ := this hne
      cases hA'
      exact ⟨b, o + i * 2, by simp [Addr.add_lit], hc'⟩
theorem flat_drop (l : List Pr) : ∀ i, (flat l).drop (i * 2) = flat (l.drop i) := by
  induction l with
  | nil => intro i; simp [flat]
  | cons p l ih =>
    intro i
    cases i with
    | zero => simp
    | succ i =>
      have e : flat (p :: l) = str p.1 :: str p.2 :: flat l := rfl
      rw [e, show (i + 1) * 2 = (i * 2 + 1) + 1 by omega, List.drop_succ_cons, List.drop_succ_cons, ih i]
      rfl
theorem CurAt.two {W0 w w' : World} {c d : Nat} {rb : Option Nat} {V : Value} {cs : List Wk} {st : List Wn} {s : Sp} {back : Bool} (h : CurAt W0 w d V cs st s back) (T : Two c rb w w') (f : Ext W0 w') (h1 : d ≠ c) (h2 : some d ≠ rb) (h3 : ∀ b, V.ownBlock = some b → b ≠ c ∧ some b ≠ rb) : CurAt W0 w' d V cs st s back := by
  refine ⟨(T.block d (heap_lt h.cell) h1 h2).trans h.cell, ⟨h.row.1, ?_⟩, h.wks, f, h.le⟩
  rcases h.row.2 with h4 | ⟨g, cap, cur, e1, e2, e3, e4⟩
  · exact .inl h4
  · subst e1
    exact .inr ⟨g, cap, cur, rfl, e2, (T.block g (heap_lt e3) (h3 g rfl).1 (h3 g rfl).2).trans e3, e4⟩

set_option maxRecDepth 100000 in
set_option maxHeartbeats 2000000 in
theorem res_r24 (W0 wr : World) (c0 d0 n C k : Nat) (A : Option Addr) (Y : List Pr) (V V2 : Value) (cs cs2 : List Wk) (r : List Wn) (s : Sp) (back : Bool) (hk : k ≤ n) (hs9 : s.f.length ≤ 1000) (hw9 : wt r ≤ 1000000)
    (HP : Hid (PS W0 (.slice A n C) Y ∧ com s back r = Y.drop k ∧ Good r ∧ CurAt W0 wr c0 V cs r.reverse s back ∧ CurAt W0 wr d0 V2 cs2 r.reverse s back ∧ c0 < d0 ∧ ∀ b, V.ownBlock = some b → b < d0)) (c : Code) (Q : Exit → Act → World → Prop) (t0 t1 t2 t3 t4 t5 t6 t7 t8 t9 t10 t11 t12 t17 t18 t19 t20 t21 t22 t23 t24 t25 t26 t27 t28 t29 t30 t31 t32 t33 t34 t35 t36 t37 t38 t39 t40 t41 t42 t43 t44 t45 t46 t47 t48 t49 t50 t51 t52 t53 t54 t55 t56 t57 t58 t59 t60 t61 t62 t63 t64 t65 t66 t67 t68 t69 t70 t71 t72 t73 t74 t75 t76 t77 t78 t79 t80 t81 t82 t83 t84 t85 t86 t87 t88 t89 t90 t91 t92 t93 t94 t95 t96 t97 t98 t99 : Value)
    (hc : (Try.f8.body.bind (findR 24)) = some c)
    (hQ : ∀ (u88 u89 u90 u91 u92 u93 u94 u95 u96 u97 u98 u99 : Value) (wx : World), Ext W0 wx → Q .normal { tmps := List.toArray (t0 :: t1 :: t2 :: t3 :: t4 :: t5 :: t6 :: t7 :: t8 :: t9 :: (.bool true) :: t11 :: t12 :: (.slice A n C) :: (ptr c0) :: (.int .i64 k) :: (ptr d0) :: t17 :: t18 :: t19 :: t20 :: t21 :: t22 :: t23 :: t24 :: t25 :: t26 :: t27 :: t28 :: t29 :: t30 :: t31 :: t32 :: t33 :: t34 :: t35 :: t36 :: t37 :: t38 :: t39 :: t40 :: t41 :: t42 :: t43 :: t44 :: t45 :: t46 :: t47 :: t48 :: t49 :: t50 :: t51 :: t52 :: t53 :: t54 :: t55 :: t56 :: t57 :: t58 :: t59 :: t60 :: t61 :: t62 :: t63 :: t64 :: t65 :: t66 :: t67 :: t68 :: t69 :: t70 :: t71 :: t72 :: t73 :: t74 :: t75 :: t76 :: t77 :: t78 :: t79 :: t80 :: t81 :: t82 :: t83 :: t84 :: t85 :: t86 :: t87 :: u88 :: u89 :: u90 :: u91 :: u92 :: u93 :: u94 :: u95 :: u96 :: u97 :: u98 :: u99 :: []), defers := [] } wx) :
    c.wp Try.prog Q { tmps := List.toArray (t0 :: t1 :: t2 :: t3 :: t4 :: t5 :: t6 :: t7 :: t8 :: t9 :: t10 :: t11 :: t12 :: (.slice A n C) :: (ptr c0) :: (.int .i64 k) :: (ptr d0) :: t17 :: t18 :: t19 :: t20 :: t21 :: t22 :: t23 :: t24 :: t25 :: t26 :: t27 :: t28 :: t29 :: t30 :: t31 :: t32 :: t33 :: t34 :: t35 :: t36 :: t37 :: t38 :: t39 :: t40 :: t41 :: t42 :: t43 :: t44 :: t45 :: t46 :: t47 :: t48 :: t49 :: t50 :: t51 :: t52 :: t53 :: t54 :: t55 :: t56 :: t57 :: t58 :: t59 :: t60 :: t61 :: t62 :: t63 :: t64 :: t65 :: t66 :: t67 :: t68 :: t69 :: t70 :: t71 :: t72 :: t73 :: t74 :: t75 :: t76 :: t77 :: t78 :: t79 :: t80 :: t81 :: t82 :: t83 :: t84 :: t85 :: t86 :: t87 :: t88 :: t89 :: t90 :: t91 :: t92 :: t93 :: t94 :: t95 :: t96 :: t97 :: t98 :: t99 :: []), defers := [] } wr := by
  change some _ = some c at hc
  cases hc
  have HQF := Lib.hid hQ
  clear hQ
  obtain ⟨A', C', e0, hYl, hn, hC, hsg⟩ := HP.out.1
  obtain ⟨rfl, hnY, rfl⟩ : A = A' ∧ n = Y.length ∧ C = C' := by injection e0 with h1 h2 h3; exact ⟨h1, h2, h3⟩
  clear e0
  rw [← hnY] at hn hYl
  obtain ⟨A2, hrun, hseg⟩ := run_from3 Try.underlying25 infoR A hk hn
  have hp2 : PS W0 (.slice A2 (n - k) (C - k)) (Y.drop k) := by
    have h1 := hseg W0 (flat Y) hYl hsg
    rw [flat_drop] at h1
    have e : (Y.drop k).length = n - k := by rw [List.length_drop]; omega
    exact ⟨A2, C - k, by rw [e], by rw [flat_length], by rw [e]; omega, by omega, h1⟩
  have HP2 := Lib.hid hp2
  have hdec : decide (com s back r = Y.drop k) = true := by rw [decide_eq_true_eq]; exact HP.out.2.1
  have HDEC := Lib.hid hdec
  clear hseg hsg hYl hp2 hdec hnY
  repeat' (first | go_at_call 22 | go_skip | go_guarded | go_step)
  refine (goes2_c W0 wr c0 V cs r s back _ _ HP.out.2.2.2.1 HP.out.2.2.1 hw9 hs9 HP2.out).mono ?_
  rintro e x1 ⟨rfl, f1, t1⟩
  rw [HDEC.out]
  have H1 : Hid (CurAt W0 x1 d0 V2 cs2 r.reverse s back) := Lib.hid (by
    have hlt := HP.out.2.2.2.2.2
    refine HP.out.2.2.2.2.1.two t1 f1 (by omega) (fun e => ?_) (fun b hb => ?_)
    · have := hlt.2 d0 e.symm; omega
    · have h2 := (World.ownsRow.lt HP.out.2.2.2.2.1.row b hb).1
      refine ⟨by omega, fun e => ?_⟩
      have := hlt.2 b e.symm
      omega)
  clear f1 t1
  go_simp
  repeat' (first | go_at_call 22 | go_skip | go_guarded | go_step)
  refine (goes2_c W0 x1 d0 V2 cs2 r s back _ _ H1.out HP.out.2.2.1 hw9 hs9 HP2.out).mono ?_
  rintro e x2 ⟨rfl, f2, _⟩
  rw [HDEC.out]
  have F2 := Lib.hid f2
  clear f2
  go_simp
  repeat' (first | go_skip | go_guarded | go_step)
  exact HQF.out _ _ _ _ _ _ _ _ _ _ _ _ _ F2.out

end Go.Proofs.Ytaehdkgmkjhmgaa
