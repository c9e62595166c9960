/- Contracts: shape.lay, shape.Text: a number's bytes, a text, behind whatever stands there. -/
import Derived.Test.YtbmakajadelckaaDoorRows
import Derived.Test.YtbmakajadelckaaDoorApp
import Derived.Test.YtbmakajadelckaaDoorTa
import Derived.Deep.LoopGhost
set_option linter.unusedVariables false
set_option linter.unusedSimpArgs false
namespace Go.Proofs.YtbmakajadelckaaDoor
open Go.RowKit Go.QS
set_option linter.unusedVariables false

theorem infoB : ∃ i z, Tryd.prog.info? 5 = some i ∧ i.zero = some z ∧ i.size = 1 ∧ i.bytes = 1 ∧ z.cells.size = 1 := info_of (z := .int .u8 0) (by kernel_rfl) rfl
theorem infoB' : ∃ i z, Tryd.prog.info? 5 = some i ∧ i.zero = some z ∧ i.size = 1 ∧ i.bytes = 1 ∧ z = .int .u8 0 := by
  have h : (Tryd.prog.info? 5).map (fun i => (i.zero, i.size, i.bytes)) = some (some (.int .u8 0), 1, 1) := by kernel_rfl
  cases hi : Tryd.prog.info? 5 with
  | none => rw [hi] at h; cases h
  | some i =>
    rw [hi] at h
    simp only [Option.map_some, Option.some.injEq, Prod.mk.injEq] at h
    exact ⟨i, _, rfl, h.1, h.2.1, h.2.2, rfl⟩

/-- A slice that may be appended to: a row of the call's own, or one without spare room. -/
def Rdy (W w : World) (v : Value) (l : List UInt8) : Prop :=
  w.ownsRow W.heap.size 5 1 v l.length (encB l) ∨ ∃ A, v = .slice A l.length l.length ∧ Seg w A (encB l)
theorem Rdy.slice {W w : World} {v : Value} {l : List UInt8} (h : Rdy W w v l) : ∃ A c, v = .slice A l.length c := by
  rcases h with h | ⟨A, rfl, _⟩
  · rcases h.2 with ⟨rfl, h0⟩ | ⟨g, cap, cur, rfl, _⟩
    · rw [h0]; exact ⟨_, _, rfl⟩
    · exact ⟨_, _, rfl⟩
  · exact ⟨_, _, rfl⟩
theorem Rdy.alloc {W w : World} {v : Value} {l : List UInt8} (h : Rdy W w v l) (o : Obj) : Rdy W (w.alloc o) v l := by
  rcases h with h | ⟨A, rfl, h⟩
  · exact .inl (h.alloc _)
  · exact .inr ⟨A, rfl, h.alloc o⟩

theorem wpList_appR {W w : World} {ops : Array Oper} {rest : List Oper} {o : Oper} {a : Act} {Q : Exit → Act → World → Prop} (hgd : o.guard = none) (s x : Operand) (t : TypeId)
    (ho : o.op = .call { callee := .builtin .append, args := #[s, x], argTypes := #[t, t] }) (ht : Tryd.prog.underlying t = some (.slice 5))
    (v : Value) (l : List UInt8) (hs : a.eval s = v) (hr : Rdy W w v l) (hb : Below W.heap.size W w)
    (A : Option Addr) (m c : Nat) (news : List UInt8) (hx : a.eval x = .slice A m c) (hm : 0 < m) (hl : news.length = m) (hseg : Seg w A (encB news)) (h63 : l.length + m ≤ 1000000000)
    (h : ∀ v' w', w'.ownsRow W.heap.size 5 1 v' (l ++ news).length (encB (l ++ news)) → Below W.heap.size W w' → wpList Tryd.prog ops Q rest (a.put o.dst v') w') : wpList Tryd.prog ops Q (o :: rest) a w := by
  have hn : (l ++ news).length = l.length + m := by simp [hl]
  have hbound : l.length + m ≤ maxLen := by unfold maxLen; omega
  rcases hr with hr | ⟨A0, rfl, hr⟩
  · refine wpList_appE hgd s x t ho 5 1 1 ht infoB (by decide) v l.length (encB l) hs hr hb A m c (encB news) hx (by rw [encB_length]; omega) hseg (encB_one _) hbound (by omega) ?_
    intro v' w' h1 h2
    exact h v' w' (by rw [hn, encB_append]; exact h1) h2
  · refine wpList_appG hgd s x t ho 5 1 1 ht infoB (by decide) A0 l.length (encB l) hs (by rw [encB_length]; omega) hr hb A m c (encB news) hx hm (by rw [encB_length]; omega) hseg (encB_one _) hbound (by omega) ?_
    intro v' w' h1 h2
    exact h v' w' (by rw [hn, encB_append]; exact h1) h2

/-- The same as the run's equation. -/
theorem run_appR {W w : World} (t ty : TypeId) (ht : Tryd.prog.underlying t = some (.slice 5)) (v : Value) (l : List UInt8) (hr : Rdy W w v l) (hb : Below W.heap.size W w)
    (A : Option Addr) (m c : Nat) (news : List UInt8) (hm : 0 < m) (hl : news.length = m) (hseg : Seg w A (encB news)) (h63 : l.length + m ≤ 1000000000) :
    ∃ v' w', (Builtin.append_ #[t, t] ty #[v, .slice A m c]).run Tryd.prog w = .ok v' w' ∧ w'.ownsRow W.heap.size 5 1 v' (l ++ news).length (encB (l ++ news)) ∧ Below W.heap.size W w' := by
  have hn : (l ++ news).length = l.length + m := by simp [hl]
  have hbound : l.length + m ≤ maxLen := by unfold maxLen; omega
  obtain ⟨i, z, hi, hz, h4, h5, h6⟩ := infoB
  have hne : encB news ≠ [] := by intro e; have := congrArg List.length e; simp [encB_length] at this; simp [this] at hl; omega
  rcases hr with hr | ⟨A0, rfl, hr⟩
  · obtain ⟨v', w', hrun, h1, h2, _⟩ := run_app (P := Tryd.prog) w W.heap.size t ty 5 i z 1 1 ht hi hz h4 h5 h6 (by decide) v l.length (encB l) hr A m c (encB news) (by rw [encB_length]; omega) hseg (encB_one _) hbound (by omega) hb.size
    exact ⟨v', w', hrun, by rw [hn, encB_append]; exact h1, hb.grown h2 hb.size fun k hk => (hr.lt k hk).1⟩
  · obtain ⟨b, o, rfl, hc⟩ := hseg hne
    have hcells : ∀ j u, (encB news)[j]? = some u → w.cell? ((⟨b, o, none⟩ : Addr).add j) = some u := by
      intro j u hu
      rw [Addr.add_lit]
      exact hc j u hu
    cases A0 with
    | none =>
      have h0 : l = [] := by
        rcases List.eq_nil_or_concat l with h | ⟨_, _, h⟩
        · exact h
        · obtain ⟨b, o, h', _⟩ := hr (by rw [h]; simp [encB]); cases h'
      subst h0
      obtain ⟨v', w', hrun, h1, h2, _⟩ := run_app (P := Tryd.prog) w W.heap.size t ty 5 i z 1 1 ht hi hz h4 h5 h6 (by decide) (.slice none 0 0) 0 [] (World.ownsRow_nil w _ _ _) (some ⟨b, o, none⟩) m c (encB news) (by rw [encB_length]; omega) hseg (encB_one _) (by unfold maxLen; omega) (by omega) hb.size
      refine ⟨v', w', hrun, by rw [hn, encB_append]; simpa [encB] using h1, hb.grown h2 hb.size fun k hk => by cases hk⟩
    | some a0 =>
      obtain ⟨v', w', hrun, r1, r2⟩ := run_append_arg_grows (P := Tryd.prog) w t ty 5 i z 1 1 ht hi hz h4 h5 h6 (by decide) a0 l.length l.length (encB l) (by rw [encB_length]; omega) (fun j u hu => by
          obtain ⟨b1, o1, h', hc1⟩ := hr (fun e => by rw [e] at hu; simp at hu)
          cases h'
          rw [Addr.add_lit]
          exact hc1 j u hu) ⟨b, o, none⟩ m c (encB news) (by rw [encB_length]; omega) hcells (by omega) hbound (by omega)
      exact ⟨v', w', hrun, by rw [hn, encB_append]; exact own_base r1 hb.size, hb.grown r2 hb.size fun k hk => by cases hk⟩

/-- At a step of a region that draws its order. -/
theorem step_appR {W w : World} {ops : Array Oper} {o : Oper} {a : Act} {K : Act → World → Prop} {Q : Exit → Act → World → Prop} {E : Prop} (hgd : o.guard = none) (s x : Operand) (t : TypeId)
    (ho : o.op = .call { callee := .builtin .append, args := #[s, x], argTypes := #[t, t] }) (ht : Tryd.prog.underlying t = some (.slice 5))
    (v : Value) (l : List UInt8) (hs : a.eval s = v) (hr : Rdy W w v l) (hb : Below W.heap.size W w)
    (A : Option Addr) (m c : Nat) (news : List UInt8) (hx : a.eval x = .slice A m c) (hm : 0 < m) (hl : news.length = m) (hseg : Seg w A (encB news)) (h63 : l.length + m ≤ 1000000000)
    (h : ∀ v' w', w'.ownsRow W.heap.size 5 1 v' (l ++ news).length (encB (l ++ news)) → Below W.heap.size W w' → K (a.put o.dst v') w') :
    if Region.wanted o (yielded ops a.tmps) = true then Oper.wp Tryd.prog o a w K Q else E := by
  have hw : Region.wanted o (yielded ops a.tmps) = true := by simp [Region.wanted, hgd]
  rw [if_pos hw]
  obtain ⟨v', w', hrun, h2, h3⟩ := run_appR t o.type ht v l hr hb A m c news hm hl hseg h63
  unfold Oper.wp execOp
  simp only [ho, resolve, invoke, builtin, Sem.run_bind, Sem.run_pure, Result.andThen_ok, List.map_toArray, List.map_cons, List.map_nil, hs, hx, hrun]
  exact h v' w' h2 h3

/-- So many bytes of a number, the lowest first. -/
def layB (n k : Nat) : List UInt8 := (List.range k).map fun i => UInt8.ofNat (n >>> (8 * i))
theorem layB_len (n k : Nat) : (layB n k).length = k := by simp [layB]
theorem layB_snoc (n k : Nat) : layB n (k + 1) = layB n k ++ [UInt8.ofNat (n >>> (8 * k))] := by simp [layB, List.range_succ]
theorem layB_two (n : Nat) : layB n 2 = twoB n := by
  simp [layB, twoB, List.range_succ, Nat.shiftRight_eq_div_pow]

set_option maxRecDepth 100000 in
theorem lay_c (W w : World) (v : Value) (l : List UInt8) (n k : Nat) (hr : Rdy W w v l) (hb : Below W.heap.size W w) (hn : n < 18446744073709551616) (hk0 : 0 < k) (hk : k ≤ 7) (h9 : l.length + k ≤ 1000000000) :
    Calls Tryd.prog 19 #[v, .int .u64 n, .int .i64 k] w fun e w' => ∃ v', e = .returned v' ∧ w'.ownsRow W.heap.size 5 1 v' (l ++ layB n k).length (encB (l ++ layB n k)) ∧ Below W.heap.size W w' := by
  have HR0 := Lib.hid hr
  clear hr
  go_enter Tryd.func19, Tryd.ntmps19
  repeat' (first | go_skip | go_guarded | go_step)
  go_loopg [0, 9] k (fun gk v0 v9 wr => ∃ i : Nat, v9 = .int .i64 i ∧ i ≤ k ∧ k - i ≤ gk ∧ Hid (Rdy W wr v0 (l ++ layB n i) ∧ Below W.heap.size W wr ∧ (0 < i → wr.ownsRow W.heap.size 5 1 v0 (l ++ layB n i).length (encB (l ++ layB n i)))))
  case atStart => exact ⟨0, rfl, Nat.zero_le _, Nat.le_refl _, Lib.hid ⟨by simpa [layB] using HR0.out, hb, fun h => absurd h (Nat.lt_irrefl _)⟩⟩
  case round =>
    obtain ⟨i, rfl, hik, hgk, HI⟩ := hrel
    rcases Nat.lt_or_ge i k with hlt | hge
    · have d1 : decide (i < k) = true := by simp [hlt]
      have hlen : (l ++ layB n i).length = l.length + i := by simp [layB_len]
      have hin9 : i ≤ 7 := by omega
      obtain ⟨b, hbb⟩ : ∃ b, b = UInt8.ofNat (n >>> (8 * i)) := ⟨_, rfl⟩
      have hv : (n : Int) / 2 ^ (8 * i) % 256 = (b.toNat : Int) := by
        rw [hbb, Nat.shiftRight_eq_div_pow]
        simp
      have HL : Hid (l ++ layB n (i + 1) = l ++ layB n i ++ [b]) := Lib.hid (by rw [layB_snoc, hbb, List.append_assoc])
      clear hbb
      repeat' (first | go_skip | go_guarded | (at_builtin; refine wpList_appR (W := W) rfl (.tmp 12) (.tmp 18) _ rfl Tryd.underlying22 _ (l ++ layB n i) rfl (HI.out.1.alloc _) (HI.out.2.1.alloc HI.out.2.1.size _) _ 1 1 [b] rfl (by decide) rfl (Seg.new _ [_] _ rfl) (by omega) ?_; intro v1 w1 hown hb1) | go_step)
      have H1 : Hid (w1.ownsRow W.heap.size 5 1 v1 (l ++ layB n (i + 1)).length (encB (l ++ layB n (i + 1))) ∧ Below W.heap.size W w1) := Lib.hid (by rw [HL.out]; exact ⟨hown, hb1⟩)
      clear hown hb1
      go_roundg (k - (i + 1))
      case measure => omega
      case rel => exact ⟨i + 1, by go_num, by omega, Nat.le_refl _, Lib.hid ⟨.inl H1.out.1, H1.out.2, fun _ => H1.out.1⟩⟩
    · obtain rfl : i = k := by omega
      have d1 : decide (i < i) = false := by simp
      repeat' (first | go_skip | go_guarded | go_step)
      go_ret
      exact ⟨_, rfl, HI.out.2.2 hk0, HI.out.2.1⟩

theorem sl_full {w : World} {v : Value} {l : List UInt8} (h : BS w v l) : ∃ A c, v = .slice A l.length c ∧ l.length ≤ c ∧ c ≤ maxLen ∧ Seg w A (encB l) := by
  obtain ⟨A, c, rfl, hl, hn, hc, hs⟩ := h
  exact ⟨A, c, rfl, hn, hc, hs⟩

set_option maxRecDepth 100000 in
theorem text_c (w : World) (v : Value) (l s : List UInt8) (h : BS w v l) (h9 : l.length + s.length + 2 ≤ 1000000000) :
    Calls Tryd.prog 7 #[v, str s] w fun e w' => ∃ v', e = .returned v' ∧ w'.ownsRow w.heap.size 5 1 v' (l ++ textB s).length (encB (l ++ textB s)) ∧ Ext w w' := by
  obtain ⟨A, c, rfl, hn, hc, hs⟩ := sl_full h
  have HS := Lib.hid hs
  clear hs h
  go_enter Tryd.func7, Tryd.ntmps7
  repeat' (first | go_at_call 19 | go_skip | go_guarded | go_step)
  refine (lay_c w w _ l s.length 2 (.inr ⟨A, rfl, HS.out⟩) (Ext.refl w) (by omega) (by decide) (by decide) (by omega)).mono ?_
  rintro e w1 ⟨v1, rfl, h1, f1⟩
  have H1 := Lib.hid (And.intro h1 f1)
  have hl1 : (l ++ layB s.length 2).length = l.length + 2 := by simp [layB_len]
  clear h1 f1
  go_simp
  repeat' (first | go_skip | go_guarded | (at_builtin; refine wpList_appS (W := w) rfl (.tmp 14) (.tmp 15) _ _ rfl 5 Tryd.underlying22 Tryd.underlying9 infoB' _ _ _ rfl H1.out.1 H1.out.2 s rfl (by unfold maxLen; omega) (by omega) ?_; intro v2 w2 hown hb2) | go_step)
  go_ret
  refine ⟨_, rfl, ?_, hb2⟩
  have e : l ++ textB s = l ++ layB s.length 2 ++ s := by rw [layB_two, textB, List.append_assoc]
  rw [e, List.length_append, encB_append]
  exact hown
end Go.Proofs.YtbmakajadelckaaDoor
