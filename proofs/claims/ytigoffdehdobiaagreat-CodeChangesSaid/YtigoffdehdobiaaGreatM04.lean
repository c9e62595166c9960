/- Texts joined. -/
import Derived.Test.YtigoffdehdobiaaGreatM00
import Derived.ArgAppend
import Derived.Lib.AppendStr
import Derived.Test.YtigoffdehdobiaaGreatRows
import Derived.Test.YtigoffdehdobiaaGreatM01
import Derived.Deep.RegionHeld3
set_option linter.unusedVariables false
set_option linter.unusedSimpArgs false
/- Appends of bytes: onto a full slice of whoever's, of a string. No program. -/
namespace Go.QS
open Go.RowKit

theorem own_base {w : World} {base base' : Nat} {e : TypeId} {k n : Nat} {v : Value} {xs : List Value} (h : w.ownsRow base' e k v n xs) (hb : base ≤ base') : w.ownsRow base e k v n xs := by
  rcases h with ⟨h1, h2⟩
  refine ⟨h1, ?_⟩
  rcases h2 with h2 | ⟨g, cap, cur, rfl, hg, h3⟩
  · exact .inl h2
  · exact .inr ⟨g, cap, cur, rfl, Nat.le_trans hb hg, h3⟩

/-- A slice without spare room: what is appended goes into a new row. -/
theorem wpList_appG {P : Program} {W w : World} {ops : Array Oper} {rest : List Oper} {o : Oper} {a : Act} {Q : Exit → Act → World → Prop} (hgd : o.guard = none) (s x : Operand) (t : TypeId)
    (ho : o.op = .call { callee := .builtin .append, args := #[s, x], argTypes := #[t, t] })
    (e : TypeId) (size bytes : Nat) (ht : P.underlying t = some (.slice e)) (hi : ∃ i z, P.info? e = some i ∧ i.zero = some z ∧ i.size = size ∧ i.bytes = bytes ∧ z.cells.size = size) (hsz : 0 < size)
    (A0 : Option Addr) (n : Nat) (xs : List Value) (hs : a.eval s = .slice A0 n n) (hxl : xs.length = n * size) (h0 : Seg w A0 xs) (hb : Below W.heap.size W w)
    (A : Option Addr) (m c : Nat) (news : List Value) (hx : a.eval x = .slice A m c) (hm : 0 < m) (hl : news.length = m * size) (hr : Seg w A news) (h1 : ∀ u ∈ news, u.oneCell' = true)
    (h63 : n + m ≤ maxLen) (hbytes : (n + m) * bytes ≤ 140737488355328)
    (h : ∀ v' w', w'.ownsRow W.heap.size e size v' (n + m) (xs ++ news) → Below W.heap.size W w' → wpList P ops Q rest (a.put o.dst v') w') : wpList P ops Q (o :: rest) a w := by
  obtain ⟨i, z, h2, h3, h4, h5, h6⟩ := hi
  have hne : news ≠ [] := by
    intro e; rw [e] at hl; have := Nat.mul_pos hm hsz; simp only [List.length_nil] at hl; omega
  obtain ⟨b, o', rfl, hc⟩ := hr hne
  have hnone : A0 = none → n = 0 ∧ n = 0 := by
    intro hA
    rcases Nat.eq_zero_or_pos n with h | h
    · exact ⟨h, h⟩
    · have : xs ≠ [] := by
        intro e; rw [e] at hxl; have := Nat.mul_pos h hsz; simp only [List.length_nil] at hxl; omega
      obtain ⟨b, o, h', _⟩ := h0 this
      rw [hA] at h'; cases h'
  refine wpList_append_grows w hgd s x t ho e i z size bytes ht h2 h3 h4 h5 h6 hsz A0 n n xs hs hnone hxl ?_ ⟨b, o', none⟩ m c news hx hl ?_ h1 (by omega) h63 hbytes ?_
  · intro b0 hb0 j u hu
    obtain ⟨b1, o1, h', hc1⟩ := h0 (fun e => by rw [e] at hu; simp at hu)
    rw [hb0] at h'
    cases h'
    rw [Addr.add_lit]
    exact hc1 j u hu
  · intro j u hu
    rw [Addr.add_lit]
    exact hc j u hu
  · intro v' w' r1 r2
    exact h v' w' (own_base r1 hb.size) (hb.grown r2 hb.size fun k hk => by cases hk)

theorem strCells_str (s : List UInt8) : Lib.strCells (bs s) = encB s := by simp [Lib.strCells, encB, bs]

/-- append(b, s...), s a string. -/
theorem wpList_appS {P : Program} {W w : World} {ops : Array Oper} {rest : List Oper} {o : Oper} {a : Act} {Q : Exit → Act → World → Prop} (hgd : o.guard = none) (sl x : Operand) (t u : TypeId)
    (ho : o.op = .call { callee := .builtin .append, args := #[sl, x], argTypes := #[t, u] })
    (e : TypeId) (ht : P.underlying t = some (.slice e)) (hu : P.underlying u = some .string) (hi : ∃ i z, P.info? e = some i ∧ i.zero = some z ∧ i.size = 1 ∧ i.bytes = 1 ∧ z = .int .u8 0)
    (v : Value) (n : Nat) (xs : List Value) (hs : a.eval sl = v) (hown : w.ownsRow W.heap.size e 1 v n xs) (hb : Below W.heap.size W w) (s : List UInt8) (hx : a.eval x = str s)
    (h63 : n + s.length ≤ maxLen) (hbytes : n + s.length ≤ 140737488355328)
    (h : ∀ v' w', w'.ownsRow W.heap.size e 1 v' (n + s.length) (xs ++ encB s) → Below W.heap.size W w' → wpList P ops Q rest (a.put o.dst v') w') : wpList P ops Q (o :: rest) a w := by
  obtain ⟨i, z, h2, h3, h4, h5, rfl⟩ := hi
  refine Lib.wpList_append_own_string w hgd sl x t u ho W.heap.size e i ht hu h2 h3 h4 h5 v n xs hs hown (bs s) hx (by rw [bs_size]; exact h63) (by rw [bs_size]; exact hbytes) hb.size ?_
  intro v' w' r1 r2 _
  rw [bs_size, strCells_str] at r1
  exact h v' w' r1 (hb.grown r2 hb.size fun k hk => (hown.lt k hk).1)
end Go.QS
/- Contracts of the small functions of the radix chapter, without a token. -/
namespace Go.Proofs.YtigoffdehdobiaaGreat
open Go.RowKit Go.QS
set_option linter.unusedVariables false

abbrev NT : TypeId := 123
abbrev PT : TypeId := 55
theorem infoK : ∃ i z, Tryz.prog.info? 55 = some i ∧ i.zero = some z ∧ i.size = 1 ∧ i.bytes = 8 ∧ z.cells.size = 1 := info_of (z := .pointer none) (by kernel_rfl) rfl

theorem liveR_nil (w : World) : Calls Tryz.prog 122 #[.pointer none] w fun e w' => e = .returned (.bool false) ∧ w = w' := by
  go_enter Tryz.func122, Tryz.ntmps122
  repeat' (first | go_skip | go_guarded | go_step)
  go_ret
  exact ⟨rfl, rfl⟩

theorem label_c (w : World) (g : Nat) (l : List UInt8) (h : w.cell? ⟨g, 0, none⟩ = some (str l)) : Calls Tryz.prog 151 #[ptr g] w fun e w' => e = .returned (str l) ∧ w = w' := by
  go_enter Tryz.func151, Tryz.ntmps151
  repeat' (first | go_skip | go_guarded | go_step)
  go_ret
  exact ⟨rfl, rfl⟩

theorem value_c (w : World) (g : Nat) (b : Bool) (l : List UInt8) (h1 : w.cell? ⟨g, 1, none⟩ = some (.bool b)) (h2 : w.cell? ⟨g, 2, none⟩ = some (str l)) : Calls Tryz.prog 152 #[ptr g] w fun e w' => e = .returned (.tuple #[str l, .bool b]) ∧ Ext w w' := by
  go_enter Tryz.func152, Tryz.ntmps152
  repeat' (first | go_skip | go_guarded | go_step)
  first | (go_quiet (fail)) | skip
  repeat' (first | go_skip | go_guarded | go_step)
  go_ret2
  first | exact ⟨rfl, Ext.refl _⟩ | exact ⟨rfl, below_drewN (Ext.refl _) _⟩

theorem empty_c (w : World) : Calls Tryz.prog 58 #[] w fun e w' => e = .returned (ptr w.heap.size) ∧ w' = w.alloc (.cells #[str [], .bool false, str [], .slice none 0 0, .pointer none] NT) := by
  go_enter Tryz.func58, Tryz.ntmps58
  repeat' (first | go_skip | go_guarded | go_step)
  go_ret
  exact ⟨rfl, rfl⟩

set_option maxRecDepth 100000 in
theorem clone_k (w : World) (v : Value) (l : List Nat) (h : Sl w 1 v l.length (ptrs l)) (h9 : l.length ≤ 1000000000) :
    Calls Tryz.prog 165 #[v] w fun e w' => ∃ v', e = .returned v' ∧ w'.ownsRow w.heap.size 55 1 v' l.length (ptrs l) ∧ Ext w w' := by
  obtain ⟨A, c, rfl, hl, hn, hc, hs⟩ := h
  have hnil := fun w : World => Lib.run_eql_slice_nil (P := Tryz.prog) w 110 55 A l.length c 0 0 Tryz.underlying110
  cases A with
  | none =>
    have hl0 : l = [] := by
      cases l with
      | nil => rfl
      | cons p l => obtain ⟨b, o, h, _⟩ := hs (by simp [ptrs]); cases h
    subst hl0
    have hnil := fun w : World => Lib.run_eql_slice_nil (P := Tryz.prog) w 110 55 none 0 c 0 0 Tryz.underlying110
    go_enter Tryz.func165, Tryz.ntmps165
    repeat' go_step
    go_ret
    exact ⟨_, rfl, World.ownsRow_nil _ _ _ _, Ext.refl _⟩
  | some a =>
    go_enter Tryz.func165, Tryz.ntmps165
    repeat' (first | (at_builtin; refine wpList_appE (W := w) rfl (.tmp 5) (.tmp 6) _ rfl 55 1 8 Tryz.underlying110 infoK (by decide) _ 0 [] rfl (own_lit [] 0 (by decide) rfl (Nat.le_refl _)) ((Ext.refl w).alloc (Nat.le_refl _) _) _ _ c (ptrs l) rfl hl (hs.alloc _) (ptrs_one _) (by unfold maxLen; omega) (by omega) ?_; intro v1 w1 hown hb) | go_step)
    go_ret
    refine ⟨_, rfl, ?_, hb⟩
    simpa using hown

theorem kids_c (w : World) (g : Nat) (kv : Value) (l : List Nat) (hg : w.cell? ⟨g, 3, none⟩ = some kv) (h : Sl w 1 kv l.length (ptrs l)) (h9 : l.length ≤ 1000000000) : Calls Tryz.prog 160 #[ptr g] w fun e w' => ∃ v', e = .returned v' ∧ w'.ownsRow w.heap.size 55 1 v' l.length (ptrs l) ∧ Ext w w' := by
  have HC := Lib.hid (clone_k w kv l h h9)
  clear h
  go_enter Tryz.func160, Tryz.ntmps160
  repeat' (first | (go_at_call 165; refine HC.out.mono ?_; rintro e w1 ⟨v1, rfl, h1, h2⟩; go_simp) | go_skip | go_guarded | go_step)
  go_ret
  exact ⟨_, rfl, h1, h2⟩
end Go.Proofs.YtigoffdehdobiaaGreat
/- Contracts: a node of one's own (no token), a leaf. -/
namespace Go.Proofs.YtigoffdehdobiaaGreat
open Go.RowKit Go.QS
set_option linter.unusedVariables false

theorem row_set {w : World} {base : Nat} {e : TypeId} {k n : Nat} {v : Value} {xs : List Value} (h : w.ownsRow base e k v n xs) (a : Addr) (u : Value) (hne : a.block < base) : (w.setCell a u).ownsRow base e k v n xs := by
  refine ⟨h.1, ?_⟩
  rcases h.2 with h | ⟨g, cap, cur, h1, h2, h3, h4⟩
  · exact .inl h
  · exact .inr ⟨g, cap, cur, h1, h2, (Below.heap_setCell w a u g (by omega)).trans h3, h4⟩
theorem row_ext {w w' : World} {base : Nat} {e : TypeId} {k n : Nat} {v : Value} {xs : List Value} (h : w.ownsRow base e k v n xs) (hb : Ext w w') : w'.ownsRow base e k v n xs := by
  refine ⟨h.1, ?_⟩
  rcases h.2 with h | ⟨g, cap, cur, h1, h2, h3, h4⟩
  · exact .inl h
  · exact .inr ⟨g, cap, cur, h1, h2, (hb.block g (heap_lt h3)).trans h3, h4⟩

theorem own_slice {w : World} {base : Nat} {e : TypeId} {k n : Nat} {v : Value} {xs : List Value} (h : w.ownsRow base e k v n xs) : ∃ A c, v = .slice A n c := by
  rcases h.2 with ⟨rfl, rfl⟩ | ⟨g, cap, cur, h1, h2, h3, h4⟩
  · exact ⟨_, _, rfl⟩
  · exact ⟨_, _, h1⟩

end Go.Proofs.YtigoffdehdobiaaGreat
