/- Texts joined. -/
import Derived.Test.YtbmakajadelckaaM24
import Derived.Test.YtbmakajadelckaaM13
import Derived.Test.YtbmakajadelckaaM14
set_option linter.unusedVariables false
set_option linter.unusedSimpArgs false
/- A walk's cursor in memory turns: its last frame, its depth, its way. No program. -/
namespace Go.QS
open Go.RowKit Go.QS.Nk
section
variable {T CT FT : TypeId} {W0 w w' : World} {c d n g C : Nat} {V V' : Value} {ms ms2 : List Fm} {st st2 : List Fp} {m : Fm} {s : Fp}

theorem slice_inj {g g' n n' C C' : Nat} (e : Value.slice (some ⟨g, 0, none⟩) n C = Value.slice (some ⟨g', 0, none⟩) n' C') : g = g' ∧ C = C' := by
  injection e with e1 e2 e3
  injection e1 with e1
  injection e1 with e1
  exact ⟨e1, e3⟩
theorem snoc_split {α : Type} {l : List α} {n : Nat} (h : l.length = n + 1) : ∃ a x, l = a ++ [x] ∧ a.length = n := by
  have hne : l ≠ [] := fun e => by rw [e] at h; simp at h
  exact ⟨l.dropLast, l.getLast hne, (List.dropLast_concat_getLast hne).symm, by simp [h]⟩
theorem get_snoc {α : Type} (a : List α) (x : α) : (a ++ [x])[a.length]? = some x := by simp
theorem run_fromW {P : Program} {t e : TypeId} {size bytes : Nat} (ht : P.underlying t = some (.slice e)) (hi : ∃ i z, P.info? e = some i ∧ i.zero = some z ∧ i.size = size ∧ i.bytes = bytes ∧ z.cells.size = size) (A : Option Addr) {n c i : Nat} (hin : i ≤ n) (hnc : n ≤ c) :
    ∃ A2, (∀ w, (Instr.slice t (.slice A n c) (some (.int .i64 (i : Int))) none none).run P w = .ok (.slice A2 (n - i) (c - i)) w) ∧
      (∀ (w : World) (xs : List Value), xs.length = n * size → Seg w A xs → Seg w A2 (xs.drop (i * size))) ∧ (∀ a2, A2 = some a2 → ∃ a, A = some a ∧ a.block = a2.block) := by
  obtain ⟨inf, z, hi, hz, hs, hb, hzs⟩ := hi
  refine ⟨if c = i then A else A.map (·.add (i * size)), fun w => ?_, fun w xs hl hs => ?_, fun a2 h => ?_⟩
  · have h1 : (0 : Int) ≤ (i : Int) := by omega
    have h2 : (i : Int) ≤ (n : Int) := by omega
    simp [Instr.slice, Instr.sliceBounds, Instr.sliceBound, asIntOf, run_underlying ht, sizeOf, typeInfo, hi, hs, hin]
  · by_cases h : c = i
    · have : xs.drop (i * size) = [] := List.drop_eq_nil_of_le (by rw [hl]; exact Nat.mul_le_mul_right _ (by omega))
      rw [this]; exact Seg.nil _ _
    · rw [if_neg h]
      intro hne
      obtain ⟨b, o, hA, hc⟩ := hs (fun e => hne (by simp [e]))
      subst hA
      have := Seg.drop (w := w) (b := b) (o := o) hs (i * size)
      obtain ⟨b', o', hA', hc'⟩ := this hne
      cases hA'
      exact ⟨b, o + i * size, by simp [Addr.add_lit], hc'⟩
  · by_cases hc : c = i
    · rw [if_pos hc] at h; exact ⟨_, h, rfl⟩
    · rw [if_neg hc] at h
      cases A with
      | none => cases h
      | some a =>
        rw [Option.map_some] at h
        cases h
        refine ⟨a, rfl, ?_⟩
        unfold Addr.add
        split <;> rfl
/-- What is known of the last frame. -/
theorem CurW.last (h : CurW T CT FT W0 w c V ms (st2 ++ [s]) d) (hn : st2.length = n) :
    ∃ g C ms2 m, V = .slice (some ⟨g, 0, none⟩) (n + 1) C ∧ ms = ms2 ++ [m] ∧ ms2.length = n ∧ n + 1 ≤ C ∧ C ≤ maxLen ∧ W0.heap.size ≤ g ∧ g < w.heap.size ∧ g ≠ c ∧ w.cell? ⟨g, n * 2, none⟩ = some m.1 ∧ w.cell? ⟨g, n * 2 + 1, none⟩ = some m.2 ∧ (∀ j, w.frozen? ⟨g, j, none⟩ = false) ∧ FrOk T W0 w c (some g) m s ∧ FrOk T W0 w c V.ownBlock m s := by
  have hl : ms.length = n + 1 := by rw [h.len, List.length_append, hn]; rfl
  obtain ⟨ms2, m, rfl, hm2⟩ := snoc_split hl
  rcases h.row.2 with ⟨_, h0⟩ | ⟨g, C, cur, rfl, h2, h3, h4, h5, h6, h7⟩
  · simp at h0
  · rw [hl] at h4 h7 ⊢
    have hne : g ≠ c := fun e => h.ne (by rw [e]; rfl)
    have hget : ∀ r u, (flatF (ms2 ++ [m]))[n * 2 + r]? = some u → r < 2 → w.cell? ⟨g, n * 2 + r, none⟩ = some u := by
      intro r u hu hr
      rw [seg_of_heap h3, ← Array.getElem?_toList, ← hu, ← h7, List.getElem?_take_of_lt (by omega)]
    have hq := flatF_get (l := ms2 ++ [m]) (i := n) (f := m) (by rw [← hm2]; exact get_snoc _ _)
    have hf := h.fr n m s (by rw [← hm2]; exact get_snoc _ _) (by rw [← hn]; exact get_snoc _ _)
    exact ⟨g, C, ms2, m, rfl, rfl, hm2, h4, h5, h2, heap_lt h3, hne, hget 0 _ hq.1 (by decide), hget 1 _ hq.2 (by decide), fun j => by simp [World.frozen?, h3], hf, hf⟩
theorem set_two0 (l : List Value) (a b u : Value) (n : Nat) (h : l.length = n) : (l ++ [a, b]).set n u = l ++ [u, b] := by
  rw [List.set_append_right _ _ (by omega), h, Nat.sub_self]; rfl
theorem set_two1 (l : List Value) (a b u : Value) (n : Nat) (h : l.length = n) : (l ++ [a, b]).set (n + 1) u = l ++ [a, u] := by
  rw [List.set_append_right _ _ (by omega), h, Nat.add_sub_cancel_left]; rfl
/-- The last frame turns. -/
theorem CurW.setTop {m' : Fm} {s' : Fp} (h : CurW T CT FT W0 w c (.slice (some ⟨g, 0, none⟩) (n + 1) C) (ms2 ++ [m]) (st2 ++ [s]) d) (hn : st2.length = n) (hm : ms2.length = n) (j : Nat) (u : Value) (hj : (j = 0 ∧ m' = (u, m.2)) ∨ (j = 1 ∧ m' = (m.1, u)))
    (hF : FrOk T W0 w c (some g) m' s') : CurW T CT FT W0 (w.setCell ⟨g, n * 2 + j, none⟩ u) c (.slice (some ⟨g, 0, none⟩) (n + 1) C) (ms2 ++ [m']) (st2 ++ [s']) d := by
  have hne : g ≠ c := fun e => h.ne (by rw [e]; rfl)
  have hb : ∀ b, b ≠ g → (w.setCell ⟨g, n * 2 + j, none⟩ u).heap[b]? = w.heap[b]? := fun b hb => Below.heap_setCell w ⟨g, n * 2 + j, none⟩ u b hb
  have hk : ∀ {m0 : Fm} {s0 : Fp}, FrOk T W0 w c (some g) m0 s0 → FrOk T W0 (w.setCell ⟨g, n * 2 + j, none⟩ u) c (some g) m0 s0 := fun h0 => h0.keep (by simp) (fun b _ _ hr => hb b fun e => hr (by rw [e])) (.inl rfl)
  refine ⟨(hb c (Ne.symm hne)).trans h.cell, ?_, by simp [hm, hn], fun i x y hx hy => ?_, ?_, h.le, h.ne⟩
  · rcases h.row.2 with ⟨e, _⟩ | ⟨g', C', cur, e, h2, h3, h4, h5, h6, h7⟩
    · cases e
    · obtain ⟨rfl, rfl⟩ := slice_inj e
      have hl : (ms2 ++ [m]).length = n + 1 := by simp [hm]
      have hl' : (ms2 ++ [m']).length = n + 1 := by simp [hm]
      rw [hl] at h4 h7
      rw [hl']
      refine ⟨by rw [flatF_length, hl'], .inr ⟨g, C, cur.setIfInBounds (n * 2 + j) u, rfl, h2, heap_set h3 _ _, h4, h5, by simpa using h6, ?_⟩⟩
      rw [Array.toList_setIfInBounds, List.take_set, h7, flatF_append, flatF_append]
      have e2 : flatF [m] = [m.1, m.2] := rfl
      have e3 : flatF [m'] = [m'.1, m'.2] := rfl
      rw [e2, e3]
      have hfl : (flatF ms2).length = n * 2 := by rw [flatF_length, hm]
      rcases hj with ⟨rfl, rfl⟩ | ⟨rfl, rfl⟩
      · exact set_two0 _ _ _ _ _ hfl
      · exact set_two1 _ _ _ _ _ hfl
  · rcases Nat.lt_or_ge i n with hi | hi
    · rw [List.getElem?_append_left (by omega)] at hx
      rw [List.getElem?_append_left (by omega)] at hy
      exact hk (h.fr i x y (by rw [List.getElem?_append_left (by omega)]; exact hx) (by rw [List.getElem?_append_left (by omega)]; exact hy))
    · have hin : i = n := by
        have := (List.getElem?_eq_some_iff.1 hx).1
        simp [hm] at this; omega
      subst hin
      rw [← hm, get_snoc] at hx
      rw [← hn, get_snoc] at hy
      cases hx; cases hy
      exact hk hF
  · refine h.ext.setCell ?_ u
    rcases h.row.2 with ⟨e, _⟩ | ⟨g', C', cur, e, h2, _⟩
    · cases e
    · obtain ⟨rfl, rfl⟩ := slice_inj e; exact h2
/-- The depth turns. -/
theorem CurW.setD (h : CurW T CT FT W0 w c V ms st d) (d' : Nat) : CurW T CT FT W0 (w.setCell ⟨c, 1, none⟩ (.int .i64 (d' : Int))) c V ms st d' := by
  have hb : ∀ b, b ≠ c → (w.setCell ⟨c, 1, none⟩ (.int .i64 (d' : Int))).heap[b]? = w.heap[b]? := fun b hb => Below.heap_setCell w ⟨c, 1, none⟩ _ b hb
  refine ⟨heap_set h.cell 1 _, ?_, h.len, fun i x y hx hy => (h.fr i x y hx hy).keep (by simp) (fun b _ hc _ => hb b hc) (.inl rfl), h.ext.setCell h.le _, h.le, h.ne⟩
  refine ⟨h.row.1, ?_⟩
  rcases h.row.2 with e | ⟨g, C, cur, e, h2, h3, h4⟩
  · exact .inl e
  · exact .inr ⟨g, C, cur, e, h2, (hb g (fun e2 => h.ne (by rw [e, e2]; rfl))).trans h3, h4⟩
/-- A cell far off turns. -/
theorem CurW.setFar (h : CurW T CT FT W0 w c V ms st d) {p : Addr} (u : Value) (hc : p.block ≠ c) (hr : V.ownBlock ≠ some p.block) (hf : ∀ (i : Nat) (m : Fm), ms[i]? = some m → ∀ b, FrB m b → b ≠ p.block) (hW : W0.heap.size ≤ p.block) : CurW T CT FT W0 (w.setCell p u) c V ms st d := by
  have hb : ∀ b, b ≠ p.block → (w.setCell p u).heap[b]? = w.heap[b]? := fun b hb => Below.heap_setCell w p u b hb
  refine ⟨(hb c (Ne.symm hc)).trans h.cell, ?_, h.len, fun i x y hx hy => ?_, h.ext.setCell hW u, h.le, h.ne⟩
  · refine ⟨h.row.1, ?_⟩
    rcases h.row.2 with e | ⟨g, C, cur, e, h2, h3, h4⟩
    · exact .inl e
    · exact .inr ⟨g, C, cur, e, h2, (hb g (fun e2 => hr (by rw [e, ← e2]; rfl))).trans h3, h4⟩
  · obtain ⟨kb, e1, e2, e3, e4, e5, e6⟩ := h.fr i x y hx hy
    refine ⟨kb, sl_block e1 fun b hb' => ⟨(e6 b (.inl hb')).1, hb b (hf i x hx b (.inl hb'))⟩, sl_block e2 fun b hb' => ⟨(e6 b (.inr hb')).1, hb b (hf i x hx b (.inr hb'))⟩, e3, e4, e5, fun b hb' => ?_⟩
    obtain ⟨z1, z2, z3⟩ := e6 b hb'
    exact ⟨by simpa using z1, z2, z3⟩
/-- The last frame goes. -/
theorem CurW.pop (h : CurW T CT FT W0 w c (.slice (some ⟨g, 0, none⟩) (n + 1) C) (ms2 ++ [m]) (st2 ++ [s]) d) (hn : st2.length = n) (hm : ms2.length = n) :
    CurW T CT FT W0 (w.setCell ⟨c, 0, none⟩ (.slice (some ⟨g, 0, none⟩) n C)) c (.slice (some ⟨g, 0, none⟩) n C) ms2 st2 d := by
  have hb : ∀ b, b ≠ c → (w.setCell ⟨c, 0, none⟩ (.slice (some ⟨g, 0, none⟩) n C)).heap[b]? = w.heap[b]? := fun b hb => Below.heap_setCell w ⟨c, 0, none⟩ _ b hb
  have hne : g ≠ c := fun e => h.ne (by rw [e]; rfl)
  refine ⟨heap_set h.cell 0 _, ?_, by omega, fun i x y hx hy => ?_, h.ext.setCell h.le _, h.le, h.ne⟩
  · rcases h.row.2 with ⟨e, _⟩ | ⟨g', C', cur, e, h2, h3, h4, h5, h6, h7⟩
    · cases e
    · obtain ⟨rfl, rfl⟩ := slice_inj e
      have hl : (ms2 ++ [m]).length = n + 1 := by simp [hm]
      rw [hl] at h4 h7
      refine ⟨flatF_length _, .inr ⟨g, C, cur, by rw [hm], h2, (hb g hne).trans h3, by omega, h5, h6, ?_⟩⟩
      have h8 := congrArg (List.take (n * 2)) h7
      rw [List.take_take, Nat.min_eq_left (by omega), flatF_append, List.take_left' (by rw [flatF_length, hm])] at h8
      rw [hm]; exact h8
  · have hi : i < n := by have := (List.getElem?_eq_some_iff.1 hx).1; omega
    exact (h.fr i x y (by rw [List.getElem?_append_left (by omega)]; exact hx) (by rw [List.getElem?_append_left (by omega)]; exact hy)).keep (by simp) (fun b _ hc _ => hb b hc) (.inl rfl)
/-- A frame more: the way has grown, and lies in the cursor's cell. -/
theorem CurW.push {m' : Fm} {s' : Fp} (h : CurW T CT FT W0 w c V ms st d) (hr : w'.ownsRow W0.heap.size FT 2 V' (ms.length + 1) (flatF ms ++ flatF [m'])) (hg : w.grownBy w' V.ownBlock) (hn : V'.ownBlock = V.ownBlock ∨ V'.ownBlock = some w.heap.size)
    (hF : FrOk T W0 w c V.ownBlock m' s') : CurW T CT FT W0 (w'.setCell ⟨c, 0, none⟩ V') c V' (ms ++ [m']) (st ++ [s']) d := by
  have hcl := heap_lt h.cell
  have hb : ∀ b, b ≠ c → (w'.setCell ⟨c, 0, none⟩ V').heap[b]? = w'.heap[b]? := fun b hb => Below.heap_setCell w' ⟨c, 0, none⟩ _ b hb
  have hc' : w'.heap[c]? = some (.cells #[V, .int .i64 (d : Int)] CT (0, 0)) := (hg.block c hcl (fun e => h.ne e.symm)).trans h.cell
  have hne' : V'.ownBlock ≠ some c := by
    rcases hn with e | e
    · rw [e]; exact h.ne
    · rw [e]; intro e2; cases e2; omega
  have hnew : V'.ownBlock = V.ownBlock ∨ ∀ b, V'.ownBlock = some b → w.heap.size ≤ b := by
    rcases hn with e | e
    · exact .inl e
    · exact .inr fun b hb => by rw [e] at hb; cases hb; exact Nat.le_refl _
  have hk : ∀ {m0 : Fm} {s0 : Fp}, FrOk T W0 w c V.ownBlock m0 s0 → FrOk T W0 (w'.setCell ⟨c, 0, none⟩ V') c V'.ownBlock m0 s0 := fun h0 =>
    h0.keep (by have := hg.size; simpa using this) (fun b hlt hbc hbr => (hb b hbc).trans (hg.block b hlt (fun e => hbr e.symm))) hnew
  refine ⟨heap_set hc' 0 _, ?_, by simp [h.len], fun i x y hx hy => ?_, ?_, h.le, hne'⟩
  · rw [flatF_append, List.length_append]
    refine ⟨hr.1, ?_⟩
    rcases hr.2 with e | ⟨g, C, cur, e, h2, h3, h4⟩
    · exact .inl e
    · exact .inr ⟨g, C, cur, e, h2, (hb g (fun e2 => hne' (by rw [e, e2]; rfl))).trans h3, h4⟩
  · rcases Nat.lt_or_ge i ms.length with hi | hi
    · rw [List.getElem?_append_left hi] at hx
      rw [List.getElem?_append_left (by have := h.len; omega)] at hy
      exact hk (h.fr i x y hx hy)
    · have hin : i = ms.length := by
        have := (List.getElem?_eq_some_iff.1 hx).1
        simp at this; omega
      subst hin
      rw [get_snoc] at hx
      rw [h.len, get_snoc] at hy
      cases hx; cases hy
      exact hk hF
  · have hW : Ext W0 w' := h.ext.grown hg h.ext.size fun k hk => (World.ownsRow.lt h.row k hk).1
    exact hW.setCell h.le _
end
end Go.QS
/- A walk's Next: a frame more: its region as a law of its own. -/
namespace Go.Proofs.Ytbmakajadelckaa
open Go.RowKit Go.QS Go.QS.Nk
set_option linter.unusedVariables false

theorem oper_app {P : Program} {w : World} {o : Oper} {a : Act} {K : Act → World → Prop} {Q : Exit → Act → World → Prop} (s x : Operand) (t : TypeId)
    (ho : o.op = .call { callee := .builtin .append, args := #[s, x], argTypes := #[t, t] })
    (base : Nat) (e : TypeId) (size bytes : Nat) (ht : P.underlying t = some (.slice e)) (hi : ∃ i z, P.info? e = some i ∧ i.zero = some z ∧ i.size = size ∧ i.bytes = bytes ∧ z.cells.size = size) (hsz : 0 < size)
    (v : Value) (n : Nat) (xs : List Value) (hs : a.eval s = v) (hown : w.ownsRow base e size v n xs)
    (A : Option Addr) (m c : Nat) (news : List Value) (hx : a.eval x = .slice A m c) (hl : news.length = m * size) (hr : Seg w A news) (h1 : ∀ u ∈ news, u.oneCell' = true)
    (h63 : n + m ≤ maxLen) (hbytes : (n + m) * bytes ≤ 140737488355328) (hbase : base ≤ w.heap.size)
    (h : ∀ v' w', w'.ownsRow base e size v' (n + m) (xs ++ news) → w.grownBy w' v.ownBlock → (v'.ownBlock = v.ownBlock ∨ v'.ownBlock = some w.heap.size) → K (a.put o.dst v') w') : o.wp P a w K Q := by
  obtain ⟨i, z, hi, hz, hsize, hby, hzs⟩ := hi
  obtain ⟨v', w', hrun, h2, h3, h4⟩ := run_app (P := P) w base t o.type e i z size bytes ht hi hz hsize hby hzs hsz v n xs hown A m c news hl hr h1 h63 hbytes hbase
  unfold Oper.wp execOp
  simp only [ho, resolve, invoke, builtin, Sem.run_bind, Sem.run_pure, Result.andThen_ok, List.map_toArray, List.map_cons, List.map_nil, hs, hx, hrun]
  exact h v' w' h2 h3 h4

set_option maxRecDepth 100000 in
set_option maxHeartbeats 2000000 in
theorem next_14 (W0 wr : World) (cn k0 m1 C1 d : Nat) (A1 : Option Addr) (ms1 : List Fm) (st1 : List Fp) (t : WT) (H : Hid (Cur W0 wr cn (.slice A1 m1 C1) ms1 st1 d ∧ RepN ND W0 k0 t ∧ m1 = ms1.length)) (hm9 : m1 ≤ 2000000) (c : Code) (Q : Exit → Act → World → Prop) (t1 t2 t3 t4 t5 t7 t8 t9 t10 t11 t12 t13 t14 t15 t16 t17 t18 t19 t20 t21 t22 t23 t24 t25 t26 t27 t28 t29 t30 t31 t32 t33 t34 t35 t36 t37 t38 t39 t40 t41 t42 t43 t44 t45 t46 t47 t48 t49 t50 t51 t52 t53 t54 t55 t56 t57 t58 t59 t60 t61 t62 t63 t64 t65 t66 t67 t68 t69 t70 t71 t72 t73 t74 t75 t76 t77 t78 t79 t80 t81 t82 t83 t84 t85 t86 t87 t88 t89 t90 t91 t92 t93 t94 t95 t96 t97 t98 t99 t100 t101 t102 t103 t104 t105 t106 : Value)
    (hc : (Try.f15.body.bind (findR 14)) = some c)
    (hQ : ∀ (u92 u93 u94 u95 u96 u97 u98 u99 u100 u101 u102 : Value) (wx : World), ∀ (V' : Value) (m' : Fm), Cur W0 wx cn V' (ms1 ++ [m']) (st1 ++ [(t.ps, t.ks)]) d → TwoW cn (.slice A1 m1 C1) wr wx → NewW wr (.slice A1 m1 C1) V' → (∀ b, FrB m' b → wr.heap.size ≤ b) → Q .normal { tmps := List.toArray ((ptr cn) :: t1 :: t2 :: t3 :: t4 :: t5 :: (ptr k0) :: t7 :: t8 :: t9 :: t10 :: t11 :: t12 :: t13 :: t14 :: t15 :: t16 :: t17 :: t18 :: t19 :: t20 :: t21 :: t22 :: t23 :: t24 :: t25 :: t26 :: t27 :: t28 :: t29 :: t30 :: t31 :: t32 :: t33 :: t34 :: t35 :: t36 :: t37 :: t38 :: t39 :: t40 :: t41 :: t42 :: t43 :: t44 :: t45 :: t46 :: t47 :: t48 :: t49 :: t50 :: t51 :: t52 :: t53 :: t54 :: t55 :: t56 :: t57 :: t58 :: t59 :: t60 :: t61 :: t62 :: t63 :: t64 :: t65 :: t66 :: t67 :: t68 :: t69 :: t70 :: t71 :: t72 :: t73 :: t74 :: t75 :: t76 :: t77 :: t78 :: t79 :: t80 :: t81 :: t82 :: t83 :: t84 :: t85 :: t86 :: t87 :: t88 :: t89 :: t90 :: t91 :: u92 :: u93 :: u94 :: u95 :: u96 :: u97 :: u98 :: u99 :: u100 :: u101 :: u102 :: t103 :: t104 :: t105 :: t106 :: []), defers := [] } wx) :
    c.wp Try.prog Q { tmps := List.toArray ((ptr cn) :: t1 :: t2 :: t3 :: t4 :: t5 :: (ptr k0) :: t7 :: t8 :: t9 :: t10 :: t11 :: t12 :: t13 :: t14 :: t15 :: t16 :: t17 :: t18 :: t19 :: t20 :: t21 :: t22 :: t23 :: t24 :: t25 :: t26 :: t27 :: t28 :: t29 :: t30 :: t31 :: t32 :: t33 :: t34 :: t35 :: t36 :: t37 :: t38 :: t39 :: t40 :: t41 :: t42 :: t43 :: t44 :: t45 :: t46 :: t47 :: t48 :: t49 :: t50 :: t51 :: t52 :: t53 :: t54 :: t55 :: t56 :: t57 :: t58 :: t59 :: t60 :: t61 :: t62 :: t63 :: t64 :: t65 :: t66 :: t67 :: t68 :: t69 :: t70 :: t71 :: t72 :: t73 :: t74 :: t75 :: t76 :: t77 :: t78 :: t79 :: t80 :: t81 :: t82 :: t83 :: t84 :: t85 :: t86 :: t87 :: t88 :: t89 :: t90 :: t91 :: t92 :: t93 :: t94 :: t95 :: t96 :: t97 :: t98 :: t99 :: t100 :: t101 :: t102 :: t103 :: t104 :: t105 :: t106 :: []), defers := [] } wr := by
  change some _ = some c at hc
  cases hc
  have HQF := Lib.hid hQ
  clear hQ
  have hcell : wr.cell? ⟨cn, 0, none⟩ = some (.slice A1 m1 C1) := by have := H.out.1.cell; simp [World.cell?, this]
  have hcl : cn < wr.heap.size := heap_lt H.out.1.cell
  have HC := Lib.hid hcell
  refine wp_region_noPanic ?_
  refine wp_region_T (n := 9) (S := (fun w' : World => w'.cell? ⟨cn, 0, none⟩ = some (.slice A1 m1 C1))) (by kernel_rfl) ?_
  change wpAnyT _ _ _ _ _ _ 12 _ _ wr.drew
  have hH : (fun w' : World => w'.cell? ⟨cn, 0, none⟩ = some (.slice A1 m1 C1)) wr.drew := Ext.cell' (ext_drew (Ext.refl wr)) hcell
  refine wpAnyT_take (i := 0) (v := ?_) rfl (by kernel_rfl) (by kernel_rfl) (by kernel_rfl) (by kernel_rfl) (fun _ _ _ h => h) (Or.inl ⟨by rfl, ?_⟩) hH ?_
  rotate_left
  · (intro w hSw; (try dsimp only at hSw); go_simp; try with_reducible rfl)
  try simp only [Act.put, List.setIfInBounds_toArray, List.set_cons_zero, List.set_cons_succ]
  refine wpAnyT_take (i := 1) (v := ?_) rfl (by kernel_rfl) (by kernel_rfl) (by kernel_rfl) (by kernel_rfl) (fun _ _ _ h => h) (Or.inl ⟨by rfl, ?_⟩) hH ?_
  rotate_left
  · (intro w hSw; (try dsimp only at hSw); go_simp; try with_reducible rfl)
  try simp only [Act.put, List.setIfInBounds_toArray, List.set_cons_zero, List.set_cons_succ]
  refine wpAnyT_take (i := 2) (v := ?_) rfl (by kernel_rfl) (by kernel_rfl) (by kernel_rfl) (by kernel_rfl) (fun _ _ _ h => h) (Or.inl ⟨by rfl, ?_⟩) hH ?_
  rotate_left
  · (intro w hSw; (try dsimp only at hSw); go_simp; try with_reducible rfl)
  try simp only [Act.put, List.setIfInBounds_toArray, List.set_cons_zero, List.set_cons_succ]
  refine wpAnyT_take (i := 3) (v := ?_) rfl (by kernel_rfl) (by kernel_rfl) (by kernel_rfl) (by kernel_rfl) (fun _ _ _ h => h) (Or.inl ⟨by rfl, ?_⟩) hH ?_
  rotate_left
  · (intro w hSw; (try dsimp only at hSw); go_simp; try with_reducible rfl)
  try simp only [Act.put, List.setIfInBounds_toArray, List.set_cons_zero, List.set_cons_succ]
  refine wpAnyT_take (i := 4) (v := ?_) rfl (by kernel_rfl) (by kernel_rfl) (by kernel_rfl) (by kernel_rfl) (fun _ _ _ h => h) (Or.inl ⟨by rfl, ?_⟩) hH ?_
  rotate_left
  · (intro w hSw; (try dsimp only at hSw); go_simp; try with_reducible rfl)
  try simp only [Act.put, List.setIfInBounds_toArray, List.set_cons_zero, List.set_cons_succ]
  refine wpAnyT_take (i := 5) (v := ?_) rfl (by kernel_rfl) (by kernel_rfl) (by kernel_rfl) (by kernel_rfl) (fun _ _ _ h => h) (Or.inl ⟨by rfl, ?_⟩) hH ?_
  rotate_left
  · (intro w hSw; (try dsimp only at hSw); go_simp; try with_reducible rfl)
  try simp only [Act.put, List.setIfInBounds_toArray, List.set_cons_zero, List.set_cons_succ]
  refine wpAnyT_all (rs := [6]) (by kernel_rfl) (by simp) ?_
  intro i9 hi9
  obtain rfl := List.mem_singleton.1 hi9
  refine wpOp_goK rfl rfl (fun K9 hK9 => ?_)
  go_simp
  refine (of_c W0 wr.drew (Ext.trans H.out.1.ext (ext_drew (Ext.refl wr))) k0 t H.out.2.1).mono ?_
  rintro e x1 ⟨v1, v2, kb, rfl, r1, r2, hr, hk9, hp9, f1⟩
  obtain ⟨A3, C3, rfl⟩ := own_slice r1
  obtain ⟨A4, C4, rfl⟩ := own_slice r2
  have k1 : Hid (Ext wr x1) := Lib.hid (Ext.trans (ext_drew (Ext.refl wr)) f1)
  have q1 := World.ownsRow.lt r1
  have q2 := World.ownsRow.lt r2
  have hF1 : FrOk ND W0 x1 cn (Value.slice A1 m1 C1).ownBlock (.slice A3 t.ps.length C3, .slice A4 kb.length C4) (t.ps, t.ks) := by
    refine ⟨kb, PS.of_own r1, Sl.of_own r2, hr, hp9, by omega, fun b hb => ?_⟩
    · have hb2 : wr.drew.heap.size ≤ b ∧ b < x1.heap.size := by
        rcases hb with hb | hb
        · exact q1 b hb
        · exact q2 b hb
      have hd : wr.drew.heap.size = wr.heap.size := rfl
      refine ⟨hb2.2, by omega, fun e => ?_⟩
      have := (World.ownsRow.lt H.out.1.row b e).2
      omega
  have hF1b : ∀ b, FrB (.slice A3 t.ps.length C3, .slice A4 kb.length C4) b → wr.heap.size ≤ b := by
    intro b hb
    rcases hb with hb | hb
    · exact (q1 b hb).1
    · exact (q2 b hb).1
  have hC1 := H.out.1.keep k1.out
  have HF1 := Lib.hid (And.intro hF1 (And.intro hF1b hC1))
  clear r1 r2 hr q1 q2 hF1 hF1b hC1 f1
  go_simp
  refine hK9.out _ _ ⟨.inr (Ext.cell' k1.out HC.out), ?_⟩
  clear hK9 K9
  refine wpAnyT_all (rs := [7]) (by kernel_rfl) (by simp) ?_
  intro i9 hi9
  obtain rfl := List.mem_singleton.1 hi9
  refine wpOp_goK rfl rfl (fun K9 hK9 => ?_)
  go_simp
  refine hK9.out _ _ ⟨.inr (Ext.cell' (ext_alloc k1.out _) HC.out), ?_⟩
  clear hK9 K9
  obtain ⟨x2, hx2⟩ : ∃ x2, x2 = x1.alloc (.cells #[.slice A3 t.ps.length C3, .slice A4 kb.length C4] WFT) := ⟨_, rfl⟩
  have e2 : Ext x1 x2 := by rw [hx2]; exact (Ext.refl _).alloc (Nat.le_refl _) _
  have hseg : Seg x2 (some ⟨x1.heap.size, 0, none⟩) [.slice A3 t.ps.length C3, .slice A4 kb.length C4] := by rw [hx2]; exact Seg.new x1 [_, _] WFT (by simp)
  rw [← hx2]
  have HX2 : Hid (Cur W0 x2 cn (.slice A1 m1 C1) ms1 st1 d ∧ FrOk ND W0 x2 cn (Value.slice A1 m1 C1).ownBlock (.slice A3 t.ps.length C3, .slice A4 kb.length C4) (t.ps, t.ks) ∧ Ext wr x2 ∧ Seg x2 (some ⟨x1.heap.size, 0, none⟩) [.slice A3 t.ps.length C3, .slice A4 kb.length C4]) := Lib.hid ⟨HF1.out.2.2.keep e2, HF1.out.1.keep e2.size (fun b hb _ _ => e2.block b hb) (.inl rfl), Ext.trans k1.out e2, hseg⟩
  have hrow : x2.ownsRow W0.heap.size WFT 2 (.slice A1 m1 C1) m1 (flatF ms1) := by have := HX2.out.1.row; rw [← H.out.2.2] at this; exact this
  have HR := Lib.hid hrow
  clear hx2 e2 hseg hrow hH
  refine wpAnyT_all (rs := [8]) (by kernel_rfl) (by simp) ?_
  intro i9 hi9
  obtain rfl := List.mem_singleton.1 hi9
  refine wpOp_goK rfl rfl (fun K9 hK9 => ?_)
  refine oper_app (.tmp 96) (.tmp 99) _ rfl W0.heap.size WFT 2 48 Try.underlying106 infoWF (by decide) (.slice A1 m1 C1) m1 (flatF ms1) rfl HR.out _ 1 1 [.slice A3 t.ps.length C3, .slice A4 kb.length C4] rfl rfl HX2.out.2.2.2 (by intro u hu; simp at hu; rcases hu with rfl | rfl <;> rfl) (by unfold maxLen; omega) (by omega) (by have := HX2.out.1.ext.size; omega) ?_
  intro V' x3 r3 g3 n3
  obtain ⟨A5, C5, rfl⟩ := own_slice r3
  have hx3 : x3.heap[cn]? = some (.cells #[.slice A1 m1 C1, .int .i64 (d : Int)] WCT (0, 0)) := (g3.block cn (heap_lt HX2.out.1.cell) (fun e => HX2.out.1.ne e.symm)).trans HX2.out.1.cell
  have hc3 : x3.cell? ⟨cn, 0, none⟩ = some (.slice A1 m1 C1) := by simp [World.cell?, hx3]
  have hf3 : ∀ j, x3.frozen? ⟨cn, j, none⟩ = false := fun j => by simp [World.frozen?, hx3]
  have HX3 := Lib.hid (And.intro r3 (And.intro g3 n3))
  have hcl3 : cn < x3.heap.size := heap_lt hx3
  clear r3 g3 n3 hx3
  refine hK9.out _ _ ⟨.inr hc3, ?_⟩
  clear hK9 K9
  try simp only [Act.put, List.setIfInBounds_toArray, List.set_cons_zero, List.set_cons_succ]
  refine wpAnyT_tail 9 (Nat.le_refl _) rfl (by kernel_rfl) ?_
  simp only [List.drop_succ_cons, List.drop_zero]
  repeat' go_step
  refine NoPanic.normal ?_
  have hm1 := H.out.2.2
  have hT : TwoW cn (.slice A1 m1 C1) wr x3 := by
    have h1 : TwoW cn (.slice A1 m1 C1) x2 x3 := (Only.of_grown HX3.out.2.1).mono fun i _ e => .inr e
    exact Only.trans (Only.of_ext HX2.out.2.2.1) h1
  refine HQF.out _ _ _ _ _ _ _ _ _ _ _ _ (.slice A5 (m1 + 1) C5) (.slice A3 t.ps.length C3, .slice A4 kb.length C4) ?_ ?_ ?_ HF1.out.2.1
  · exact HX2.out.1.push (V' := .slice A5 (m1 + 1) C5) (by rw [← hm1]; exact HX3.out.1) HX3.out.2.1 HX3.out.2.2 HX2.out.2.1
  · exact hT.setC 0 _
  · rcases HX3.out.2.2 with e | e
    · exact .inl e
    · exact .inr fun b hb => by rw [e] at hb; cases hb; exact HX2.out.2.2.1.size

end Go.Proofs.Ytbmakajadelckaa
