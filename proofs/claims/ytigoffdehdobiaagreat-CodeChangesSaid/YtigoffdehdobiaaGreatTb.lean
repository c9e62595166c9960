/- Contracts: shape.lay, shape.Text: a number's bytes, a text, behind whatever stands there. -/
import Derived.Test.YtigoffdehdobiaaGreatRows
import Derived.Test.YtigoffdehdobiaaGreatM04
import Derived.Test.YtigoffdehdobiaaGreatM22
import Derived.Deep.LoopGhost
set_option linter.unusedVariables false
set_option linter.unusedSimpArgs false
namespace Go.Proofs.YtigoffdehdobiaaGreat
open Go.RowKit Go.QS
set_option linter.unusedVariables false

theorem infoB : ∃ i z, Tryz.prog.info? 5 = some i ∧ i.zero = some z ∧ i.size = 1 ∧ i.bytes = 1 ∧ z.cells.size = 1 := info_of (z := .int .u8 0) (by kernel_rfl) rfl
theorem infoB' : ∃ i z, Tryz.prog.info? 5 = some i ∧ i.zero = some z ∧ i.size = 1 ∧ i.bytes = 1 ∧ z = .int .u8 0 := by
  have h : (Tryz.prog.info? 5).map (fun i => (i.zero, i.size, i.bytes)) = some (some (.int .u8 0), 1, 1) := by kernel_rfl
  cases hi : Tryz.prog.info? 5 with
  | none => rw [hi] at h; cases h
  | some i =>
    rw [hi] at h
    simp only [Option.map_some, Option.some.injEq, Prod.mk.injEq] at h
    exact ⟨i, _, rfl, h.1, h.2.1, h.2.2, rfl⟩

/-- A slice that may be appended to: a row of the call's own, or one without spare room. -/
def Rdy (W w : World) (v : Value) (l : List UInt8) : Prop :=
  w.ownsRow W.heap.size 5 1 v l.length (encB l) ∨ ∃ A, v = .slice A l.length l.length ∧ Seg w A (encB l)
theorem Rdy.slice {W w : World} {v : Value} {l : List UInt8} (h : Rdy W w v l) : ∃ A c, v = .slice A l.length c := by
  rcases h with h | ⟨A, rfl, _⟩
  · rcases h.2 with ⟨rfl, h0⟩ | ⟨g, cap, cur, rfl, _⟩
    · rw [h0]; exact ⟨_, _, rfl⟩
    · exact ⟨_, _, rfl⟩
  · exact ⟨_, _, rfl⟩
theorem Rdy.alloc {W w : World} {v : Value} {l : List UInt8} (h : Rdy W w v l) (o : Obj) : Rdy W (w.alloc o) v l := by
  rcases h with h | ⟨A, rfl, h⟩
  · exact .inl (h.alloc _)
  · exact .inr ⟨A, rfl, h.alloc o⟩

theorem wpList_appR {W w : World} {ops : Array Oper} {rest : List Oper} {o : Oper} {a : Act} {Q : Exit → Act → World → Prop} (hgd : o.guard = none) (s x : Operand) (t : TypeId)
    (ho : o.op = .call { callee := .builtin .append, args := #[s, x], argTypes := #[t, t] }) (ht : Tryz.prog.underlying t = some (.slice 5))
    (v : Value) (l : List UInt8) (hs : a.eval s = v) (hr : Rdy W w v l) (hb : Below W.heap.size W w)
    (A : Option Addr) (m c : Nat) (news : List UInt8) (hx : a.eval x = .slice A m c) (hm : 0 < m) (hl : news.length = m) (hseg : Seg w A (encB news)) (h63 : l.length + m ≤ 1000000000)
    (h : ∀ v' w', w'.ownsRow W.heap.size 5 1 v' (l ++ news).length (encB (l ++ news)) → Below W.heap.size W w' → wpList Tryz.prog ops Q rest (a.put o.dst v') w') : wpList Tryz.prog ops Q (o :: rest) a w := by
  have hn : (l ++ news).length = l.length + m := by simp [hl]
  have hbound : l.length + m ≤ maxLen := by unfold maxLen; omega
  rcases hr with hr | ⟨A0, rfl, hr⟩
  · refine wpList_appE hgd s x t ho 5 1 1 ht infoB (by decide) v l.length (encB l) hs hr hb A m c (encB news) hx (by rw [encB_length]; omega) hseg (encB_one _) hbound (by omega) ?_
    intro v' w' h1 h2
    exact h v' w' (by rw [hn, encB_append]; exact h1) h2
  · refine wpList_appG hgd s x t ho 5 1 1 ht infoB (by decide) A0 l.length (encB l) hs (by rw [encB_length]; omega) hr hb A m c (encB news) hx hm (by rw [encB_length]; omega) hseg (encB_one _) hbound (by omega) ?_
    intro v' w' h1 h2
    exact h v' w' (by rw [hn, encB_append]; exact h1) h2

/-- The same as the run's equation. -/
theorem run_appR {W w : World} (t ty : TypeId) (ht : Tryz.prog.underlying t = some (.slice 5)) (v : Value) (l : List UInt8) (hr : Rdy W w v l) (hb : Below W.heap.size W w)
    (A : Option Addr) (m c : Nat) (news : List UInt8) (hm : 0 < m) (hl : news.length = m) (hseg : Seg w A (encB news)) (h63 : l.length + m ≤ 1000000000) :
    ∃ v' w', (Builtin.append_ #[t, t] ty #[v, .slice A m c]).run Tryz.prog w = .ok v' w' ∧ w'.ownsRow W.heap.size 5 1 v' (l ++ news).length (encB (l ++ news)) ∧ Below W.heap.size W w' := by
  have hn : (l ++ news).length = l.length + m := by simp [hl]
  have hbound : l.length + m ≤ maxLen := by unfold maxLen; omega
  obtain ⟨i, z, hi, hz, h4, h5, h6⟩ := infoB
  have hne : encB news ≠ [] := by intro e; have := congrArg List.length e; simp [encB_length] at this; simp [this] at hl; omega
  rcases hr with hr | ⟨A0, rfl, hr⟩
  · obtain ⟨v', w', hrun, h1, h2, _⟩ := run_app (P := Tryz.prog) w W.heap.size t ty 5 i z 1 1 ht hi hz h4 h5 h6 (by decide) v l.length (encB l) hr A m c (encB news) (by rw [encB_length]; omega) hseg (encB_one _) hbound (by omega) hb.size
    exact ⟨v', w', hrun, by rw [hn, encB_append]; exact h1, hb.grown h2 hb.size fun k hk => (hr.lt k hk).1⟩
  · obtain ⟨b, o, rfl, hc⟩ := hseg hne
    have hcells : ∀ j u, (encB news)[j]? = some u → w.cell? ((⟨b, o, none⟩ : Addr).add j) = some u := by
      intro j u hu
      rw [Addr.add_lit]
      exact hc j u hu
    cases A0 with
    | none =>
      have h0 : l = [] := by
        rcases List.eq_nil_or_concat l with h | ⟨_, _, h⟩
        · exact h
        · obtain ⟨b, o, h', _⟩ := hr (by rw [h]; simp [encB]); cases h'
      subst h0
      obtain ⟨v', w', hrun, h1, h2, _⟩ := run_app (P := Tryz.prog) w W.heap.size t ty 5 i z 1 1 ht hi hz h4 h5 h6 (by decide) (.slice none 0 0) 0 [] (World.ownsRow_nil w _ _ _) (some ⟨b, o, none⟩) m c (encB news) (by rw [encB_length]; omega) hseg (encB_one _) (by unfold maxLen; omega) (by omega) hb.size
      refine ⟨v', w', hrun, by rw [hn, encB_append]; simpa [encB] using h1, hb.grown h2 hb.size fun k hk => by cases hk⟩
    | some a0 =>
      obtain ⟨v', w', hrun, r1, r2⟩ := run_append_arg_grows (P := Tryz.prog) w t ty 5 i z 1 1 ht hi hz h4 h5 h6 (by decide) a0 l.length l.length (encB l) (by rw [encB_length]; omega) (fun j u hu => by
          obtain ⟨b1, o1, h', hc1⟩ := hr (fun e => by rw [e] at hu; simp at hu)
          cases h'
          rw [Addr.add_lit]
          exact hc1 j u hu) ⟨b, o, none⟩ m c (encB news) (by rw [encB_length]; omega) hcells (by omega) hbound (by omega)
      exact ⟨v', w', hrun, by rw [hn, encB_append]; exact own_base r1 hb.size, hb.grown r2 hb.size fun k hk => by cases hk⟩

/-- At a step of a region that draws its order. -/
theorem step_appR {W w : World} {ops : Array Oper} {o : Oper} {a : Act} {K : Act → World → Prop} {Q : Exit → Act → World → Prop} {E : Prop} (hgd : o.guard = none) (s x : Operand) (t : TypeId)
    (ho : o.op = .call { callee := .builtin .append, args := #[s, x], argTypes := #[t, t] }) (ht : Tryz.prog.underlying t = some (.slice 5))
    (v : Value) (l : List UInt8) (hs : a.eval s = v) (hr : Rdy W w v l) (hb : Below W.heap.size W w)
    (A : Option Addr) (m c : Nat) (news : List UInt8) (hx : a.eval x = .slice A m c) (hm : 0 < m) (hl : news.length = m) (hseg : Seg w A (encB news)) (h63 : l.length + m ≤ 1000000000)
    (h : ∀ v' w', w'.ownsRow W.heap.size 5 1 v' (l ++ news).length (encB (l ++ news)) → Below W.heap.size W w' → K (a.put o.dst v') w') :
    if Region.wanted o (yielded ops a.tmps) = true then Oper.wp Tryz.prog o a w K Q else E := by
  have hw : Region.wanted o (yielded ops a.tmps) = true := by simp [Region.wanted, hgd]
  rw [if_pos hw]
  obtain ⟨v', w', hrun, h2, h3⟩ := run_appR t o.type ht v l hr hb A m c news hm hl hseg h63
  unfold Oper.wp execOp
  simp only [ho, resolve, invoke, builtin, Sem.run_bind, Sem.run_pure, Result.andThen_ok, List.map_toArray, List.map_cons, List.map_nil, hs, hx, hrun]
  exact h v' w' h2 h3

/-- So many bytes of a number, the lowest first. -/
def layB (n k : Nat) : List UInt8 := (List.range k).map fun i => UInt8.ofNat (n >>> (8 * i))
theorem layB_len (n k : Nat) : (layB n k).length = k := by simp [layB]
theorem layB_snoc (n k : Nat) : layB n (k + 1) = layB n k ++ [UInt8.ofNat (n >>> (8 * k))] := by simp [layB, List.range_succ]
theorem layB_two (n : Nat) : layB n 2 = twoB n := by
  simp [layB, twoB, List.range_succ, Nat.shiftRight_eq_div_pow]

theorem sl_full {w : World} {v : Value} {l : List UInt8} (h : BS w v l) : ∃ A c, v = .slice A l.length c ∧ l.length ≤ c ∧ c ≤ maxLen ∧ Seg w A (encB l) := by
  obtain ⟨A, c, rfl, hl, hn, hc, hs⟩ := h
  exact ⟨A, c, rfl, hn, hc, hs⟩

end Go.Proofs.YtigoffdehdobiaaGreat
