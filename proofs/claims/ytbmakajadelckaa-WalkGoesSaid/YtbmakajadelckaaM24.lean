/- Texts joined. -/
import Derived.Test.YtbmakajadelckaaM05
import Derived.Test.YtbmakajadelckaaM09
import Derived.Laws.Rows
import Derived.Laws.ResultCell
import Derived.Deep.QuietTactic
set_option linter.unusedVariables false
set_option linter.unusedSimpArgs false
/- A walk's cursor: frames of a way down: plain, and in memory. -/
namespace Go.QS
open Go.RowKit Go.QS.Nk

/-- A frame: pairs and kids that are still to come. -/
abbrev Fp := List Pr × List WT
/-- What is still to come: the last frame first; the first one so deep. -/
def comB : List Fp → Nat → List (Pr × Nat)
  | [], _ => []
  | s :: r, d => comB r (d + 1) ++ (s.1.map (fun p => (p, d)) ++ walkL s.2 (d + 1))
theorem comB_append : ∀ (a b : List Fp) (d : Nat), comB (a ++ b) d = comB b (d + a.length) ++ comB a d
  | [], b, d => by simp [comB]
  | s :: a, b, d => by
    rw [List.cons_append, comB, comB_append a b (d + 1), comB, List.append_assoc, List.length_cons, show d + 1 + a.length = d + (a.length + 1) by omega]
theorem comB_snoc (a : List Fp) (s : Fp) (d : Nat) : comB (a ++ [s]) d = s.1.map (fun p => (p, d + a.length)) ++ walkL s.2 (d + a.length + 1) ++ comB a d := by
  rw [comB_append]
  simp [comB]
/-- Its weight. -/
def wtB : List Fp → Nat
  | [] => 0
  | s :: r => 1 + 2 * cntL s.2 + wtB r
theorem wtB_append : ∀ a b : List Fp, wtB (a ++ b) = wtB a + wtB b
  | [], b => by simp [wtB]
  | s :: a, b => by rw [List.cons_append, wtB, wtB, wtB_append a b]; omega
theorem wtB_snoc (a : List Fp) (s : Fp) : wtB (a ++ [s]) = wtB a + (1 + 2 * cntL s.2) := by rw [wtB_append]; simp [wtB]
theorem wtB_len : ∀ a : List Fp, a.length ≤ wtB a
  | [] => Nat.le_refl _
  | s :: a => by have := wtB_len a; rw [wtB, List.length_cons]; omega
theorem com_take (a : List Fp) (p : Pr) (ps : List Pr) (ks : List WT) : comB (a ++ [(p :: ps, ks)]) 1 = (p, a.length + 1) :: comB (a ++ [(ps, ks)]) 1 := by
  rw [comB_snoc, comB_snoc, Nat.add_comm 1 a.length]; simp
theorem com_push (a : List Fp) (t : WT) (ts : List WT) : comB (a ++ [([], t :: ts)]) 1 = comB ((a ++ [([], ts)]) ++ [(t.ps, t.ks)]) 1 := by
  rw [comB_snoc, comB_snoc, comB_snoc, walkL_cons, walkT_eq, List.length_append]
  simp only [List.map_nil, List.nil_append, List.length_cons, List.length_nil, List.append_assoc, Nat.zero_add]
  rw [show 1 + a.length + 1 = 1 + (a.length + 1) by omega]
theorem wt_push (a : List Fp) (t : WT) (ts : List WT) : wtB ((a ++ [([], ts)]) ++ [(t.ps, t.ks)]) < wtB (a ++ [([], t :: ts)]) := by
  rw [wtB_snoc, wtB_snoc, wtB_snoc, cntL_cons, cntT_eq]; simp only; omega
theorem com_pop (a : List Fp) : comB (a ++ [([], [])]) 1 = comB a 1 := by rw [comB_snoc]; simp [walkL]
theorem com_one (t : WT) : comB [(t.ps, t.ks)] 1 = walkT t 1 := by rw [walkT_eq]; simp [comB]

/-! ### In memory -/
/-- A frame's two slices. -/
abbrev Fm := Value × Value
def flatF (l : List Fm) : List Value := l.flatMap fun f => [f.1, f.2]
theorem flatF_length (l : List Fm) : (flatF l).length = l.length * 2 := by
  induction l with
  | nil => rfl
  | cons a l ih =>
    have e : flatF (a :: l) = a.1 :: a.2 :: flatF l := rfl
    rw [e]; simp only [List.length_cons, ih]; omega
theorem flatF_append (a b : List Fm) : flatF (a ++ b) = flatF a ++ flatF b := by simp [flatF]
theorem flatF_get : ∀ {l : List Fm} {i : Nat} {f : Fm}, l[i]? = some f → (flatF l)[i * 2]? = some f.1 ∧ (flatF l)[i * 2 + 1]? = some f.2
  | [], i, f, h => by simp at h
  | b :: l, 0, f, h => by
    simp at h; subst h
    exact ⟨rfl, rfl⟩
  | b :: l, i + 1, f, h => by
    have := flatF_get (l := l) (i := i) (f := f) (by simpa using h)
    have e : flatF (b :: l) = b.1 :: b.2 :: flatF l := rfl
    rw [e, show (i + 1) * 2 = i * 2 + 1 + 1 by omega]
    simpa using this
/-- The blocks that a frame leans on. -/
def FrB (m : Fm) (b : Nat) : Prop := m.1.ownBlock = some b ∨ m.2.ownBlock = some b
/-- A frame in memory; its rows lie apart from the cursor and the way. -/
def FrOk (T : TypeId) (W0 w : World) (c : Nat) (rb : Option Nat) (m : Fm) (s : Fp) : Prop :=
  ∃ kb, PS w m.1 s.1 ∧ Sl w 1 m.2 kb.length (ptrs kb) ∧ RepNs T W0 kb s.2 ∧ s.1.length ≤ 1000000 ∧ kb.length ≤ 1000000 ∧ ∀ b, FrB m b → b < w.heap.size ∧ b ≠ c ∧ rb ≠ some b
section
variable {T : TypeId} {W0 w w' : World} {c : Nat} {rb rb' : Option Nat} {m : Fm} {s : Fp}
theorem sl_block {k n : Nat} {v : Value} {xs : List Value} (h : Sl w k v n xs) (hk : ∀ b, v.ownBlock = some b → b < w.heap.size ∧ w'.heap[b]? = w.heap[b]?) : Sl w' k v n xs := by
  obtain ⟨A, C, rfl, h1, h2, h3, h4⟩ := h
  refine ⟨A, C, rfl, h1, h2, h3, fun hne => ?_⟩
  obtain ⟨b, o, rfl, hc⟩ := h4 hne
  refine ⟨b, o, rfl, fun j u hu => ?_⟩
  exact (World.cell?_of_block (w := w) (hk b rfl).2).trans (hc j u hu)
/-- A frame stays where its rows stay. -/
theorem FrOk.keep (h : FrOk T W0 w c rb m s) (hs : w.heap.size ≤ w'.heap.size) (hk : ∀ b, b < w.heap.size → b ≠ c → rb ≠ some b → w'.heap[b]? = w.heap[b]?) (hr : rb' = rb ∨ ∀ b, rb' = some b → w.heap.size ≤ b) : FrOk T W0 w' c rb' m s := by
  obtain ⟨kb, h1, h2, h3, h4, h5, h6⟩ := h
  refine ⟨kb, sl_block h1 fun b hb => ⟨(h6 b (.inl hb)).1, ?_⟩, sl_block h2 fun b hb => ⟨(h6 b (.inr hb)).1, ?_⟩, h3, h4, h5, fun b hb => ?_⟩
  · obtain ⟨e1, e2, e3⟩ := h6 b (.inl hb); exact hk b e1 e2 e3
  · obtain ⟨e1, e2, e3⟩ := h6 b (.inr hb); exact hk b e1 e2 e3
  · obtain ⟨e1, e2, e3⟩ := h6 b hb
    refine ⟨Nat.lt_of_lt_of_le e1 hs, e2, ?_⟩
    rcases hr with rfl | hr
    · exact e3
    · intro e; have := hr b e; omega
end
/-- A cursor in memory. -/
structure CurW (T CT FT : TypeId) (W0 w : World) (c : Nat) (V : Value) (ms : List Fm) (st : List Fp) (d : Nat) : Prop where
  cell : w.heap[c]? = some (.cells #[V, .int .i64 (d : Int)] CT (0, 0))
  row : w.ownsRow W0.heap.size FT 2 V ms.length (flatF ms)
  len : ms.length = st.length
  fr : ∀ (i : Nat) (m : Fm) (s : Fp), ms[i]? = some m → st[i]? = some s → FrOk T W0 w c V.ownBlock m s
  ext : Ext W0 w
  le : W0.heap.size ≤ c
  ne : V.ownBlock ≠ some c
/-- The cursor and its way turn alone. -/
abbrev TwoW (c : Nat) (V : Value) (w w' : World) : Prop := Only (fun k => k = c ∨ V.ownBlock = some k) w w'
/-- A way is the old one, or new. -/
def NewW (w : World) (V V' : Value) : Prop := V'.ownBlock = V.ownBlock ∨ ∀ b, V'.ownBlock = some b → w.heap.size ≤ b
section
variable {T CT FT : TypeId} {W0 w w' a b : World} {c d : Nat} {V V' V'' : Value} {ms : List Fm} {st : List Fp}
theorem TwoW.of_ext (f : Ext w w') : TwoW c V w w' := Only.of_ext f
theorem TwoW.trans (h : TwoW c V a b) (k : TwoW c V' b w) (n : NewW a V V') : TwoW c V a w :=
  Only.trans' h k fun i hi hT => by
    rcases hT with e | e
    · exact .inl e
    · rcases n with n | n
      · exact .inr (by rw [← n]; exact e)
      · have := n i e; omega
theorem TwoW.setC (h : TwoW c V a w) (j : Nat) (u : Value) : TwoW c V a (w.setCell ⟨c, j, none⟩ u) := Only.setCell h (.inl (.inl rfl)) u
theorem TwoW.setR (h : TwoW c V a w) {g : Nat} (hg : V.ownBlock = some g) (j : Nat) (u : Value) : TwoW c V a (w.setCell ⟨g, j, none⟩ u) := Only.setCell h (.inl (.inr hg)) u
theorem NewW.refl (w : World) (V : Value) : NewW w V V := .inl rfl
theorem NewW.trans (h : NewW a V V') (k : NewW b V' V'') (hs : a.heap.size ≤ b.heap.size) : NewW a V V'' := by
  rcases k with k | k
  · rcases h with h | h
    · exact .inl (k.trans h)
    · exact .inr fun x hx => h x (by rw [← k]; exact hx)
  · exact .inr fun x hx => Nat.le_trans hs (k x hx)
theorem CurW.keep (h : CurW T CT FT W0 w c V ms st d) (f : Ext w w') : CurW T CT FT W0 w' c V ms st d :=
  ⟨(f.block c (heap_lt h.cell)).trans h.cell, row_ext h.row f, h.len, fun i m s h1 h2 => (h.fr i m s h1 h2).keep f.size (fun b hb _ _ => f.block b hb) (.inl rfl), Ext.trans h.ext f, h.le, h.ne⟩
/-- Another cursor's turn leaves it. -/
theorem CurW.two {c2 : Nat} {V2 : Value} (h : CurW T CT FT W0 w c V ms st d) (k : TwoW c2 V2 w w') (hc : c ≠ c2) (hc2 : V2.ownBlock ≠ some c) (hV : ∀ b, V.ownBlock = some b → b ≠ c2 ∧ V2.ownBlock ≠ some b)
    (hf : ∀ (i : Nat) (m : Fm), ms[i]? = some m → ∀ b, FrB m b → b ≠ c2 ∧ V2.ownBlock ≠ some b) (hE : Ext W0 w') : CurW T CT FT W0 w' c V ms st d := by
  refine ⟨(k.block c (heap_lt h.cell) (fun e => e.elim hc hc2)).trans h.cell, Only.own k h.row (fun b hb e => e.elim (hV b hb).1 (hV b hb).2), h.len, fun i m s h1 h2 => ?_, hE, h.le, h.ne⟩
  obtain ⟨kb, e1, e2, e3, e4, e5, e6⟩ := h.fr i m s h1 h2
  have hb := hf i m h1
  refine ⟨kb, sl_block e1 fun b hb' => ⟨(e6 b (.inl hb')).1, k.block b (e6 b (.inl hb')).1 fun e => e.elim (hb b (.inl hb')).1 (hb b (.inl hb')).2⟩, sl_block e2 fun b hb' => ⟨(e6 b (.inr hb')).1, k.block b (e6 b (.inr hb')).1 fun e => e.elim (hb b (.inr hb')).1 (hb b (.inr hb')).2⟩, e3, e4, e5, fun b hb' => ?_⟩
  obtain ⟨z1, z2, z3⟩ := e6 b hb'
  exact ⟨Nat.lt_of_lt_of_le z1 k.size, z2, z3⟩
end
end Go.QS
/- Contracts: a walk's of, New, Depth. -/
namespace Go.Proofs.Ytbmakajadelckaa
open Go.RowKit Go.QS Go.QS.Nk
set_option linter.unusedVariables false

abbrev WCT : TypeId := 108
abbrev WFT : TypeId := 104
abbrev Cur (W0 w : World) (c : Nat) (V : Value) (ms : List Fm) (st : List Fp) (d : Nat) : Prop := CurW ND WCT WFT W0 w c V ms st d
theorem infoWF : ∃ i z, Try.prog.info? 104 = some i ∧ i.zero = some z ∧ i.size = 2 ∧ i.bytes = 48 ∧ z.cells.size = 2 := info_of (z := .agg #[.slice none 0 0, .slice none 0 0]) (by kernel_rfl) rfl
theorem results_rowL {P : Program} {fn : Func} {p : Tmp} {ty : TypeId} (h : fn.results = #[.cell p ty]) (tmps : Array Value) (w : World) (g : Nat) (t : TypeId) (cs : Array Value) (fr : Nat × Nat) (d : TypeDesc)
    (hp : tmps.getD p undef = .pointer (some ⟨g, 0, none⟩)) (hg : w.heap[g]? = some (.cells cs t fr)) (hu : P.underlying ty = some d) (hd : (match d with | .struct _ | .array _ _ => true | _ => false) = true) (hi : (P.info? ty).map (·.size) = some cs.size) :
    (results fn tmps).run P w = .ok (.agg cs) w := results_cell_row h tmps w g t cs fr d hp hg hu hd hi

set_option maxRecDepth 100000 in
set_option maxHeartbeats 1000000 in
theorem of_cc (w : World) (v1 v2 gv : Value) (xs ys : List Value) (n m : Nat)
    (h1 : ∀ W, Ext w W → Calls Try.prog 43 #[gv] W fun e w' => ∃ v', e = .returned v' ∧ w'.ownsRow W.heap.size NP 2 v' n xs ∧ Ext W w')
    (h2 : ∀ W, Ext w W → Calls Try.prog 64 #[gv] W fun e w' => ∃ v', e = .returned v' ∧ w'.ownsRow W.heap.size NK 1 v' m ys ∧ Ext W w') :
    Calls Try.prog 51 #[gv] w fun e w' => ∃ v1 v2, e = .returned (.agg #[v1, v2]) ∧ w'.ownsRow w.heap.size NP 2 v1 n xs ∧ w'.ownsRow w.heap.size NK 1 v2 m ys ∧ Ext w w' := by
  have HH := Lib.hid (And.intro h1 h2)
  clear h1 h2
  go_enter Try.func51, Try.ntmps51
  repeat' (go_not_at_region 1; (first | go_skip | go_guarded | go_step))
  obtain ⟨a, ha⟩ : ∃ a, a = w.heap.size := ⟨_, rfl⟩
  rw [← ha]
  refine wp_nameW (fun w' => w'.heap[a]? = some (.cells #[.slice none 0 0, .slice none 0 0] WFT (0, 0)) ∧ Ext w w' ∧ w.heap.size ≤ a) ⟨by rw [ha]; exact heap_new w _, (Ext.refl w).alloc (Nat.le_refl _) _, by omega⟩ ?_
  clear ha
  intro w1 H1
  repeat' (first | go_at_call 43 | go_skip | go_guarded | go_step)
  refine (HH.out.1 w1 H1.out.2.1).mono ?_
  rintro e w2 ⟨u1, rfl, r1, f1⟩
  obtain ⟨A1, C1, rfl⟩ := own_slice r1
  have H2 : Hid (w2.heap[a]? = some (.cells #[.slice none 0 0, .slice none 0 0] WFT (0, 0)) ∧ Ext w w2 ∧ w2.ownsRow w.heap.size NP 2 (.slice A1 n C1) n xs) := Lib.hid ⟨(f1.block a (heap_lt H1.out.1)).trans H1.out.1, H1.out.2.1.trans f1, by
    refine ⟨r1.1, ?_⟩
    rcases r1.2 with h | ⟨g, cap, cur, q1, q2, q3⟩
    · exact .inl h
    · exact .inr ⟨g, cap, cur, q1, Nat.le_trans H1.out.2.1.size q2, q3⟩⟩
  clear r1 f1
  go_simp
  repeat' (first | go_at_call 64 | go_skip | go_guarded | go_step)
  refine (HH.out.2 w2 H2.out.2.1).mono ?_
  rintro e w3 ⟨u2, rfl, r2, f2⟩
  obtain ⟨A2, C2, rfl⟩ := own_slice r2
  have H3 : Hid (w3.heap[a]? = some (.cells #[.slice none 0 0, .slice none 0 0] WFT (0, 0)) ∧ Ext w w3 ∧ w3.ownsRow w.heap.size NP 2 (.slice A1 n C1) n xs ∧ w3.ownsRow w.heap.size NK 1 (.slice A2 m C2) m ys) := Lib.hid ⟨(f2.block a (heap_lt H2.out.1)).trans H2.out.1, H2.out.2.1.trans f2, row_ext H2.out.2.2 f2, by
    refine ⟨r2.1, ?_⟩
    rcases r2.2 with h | ⟨g, cap, cur, q1, q2, q3⟩
    · exact .inl h
    · exact .inr ⟨g, cap, cur, q1, Nat.le_trans H2.out.2.1.size q2, q3⟩⟩
  clear r2 f2 H2
  have hal := heap_lt H3.out.1
  have ha0 : w3.cell? ⟨a, 0, none⟩ = some (.slice none 0 0) ∧ w3.cell? ⟨a, 1, none⟩ = some (.slice none 0 0) := by
    have := H3.out.1
    constructor <;> simp [World.cell?, this]
  have haf : ∀ j, w3.frozen? ⟨a, j, none⟩ = false := fun j => by have := H3.out.1; simp [World.frozen?, this]
  obtain ⟨a0, a1⟩ := ha0
  go_simp
  repeat' (first | go_skip | go_guarded | go_step)
  (try simp only [Exit.inBlock, Exit.then])
  refine bodyPost_ret_by (results_rowL rfl _ _ _ _ _ _ _ rfl (heap_set (heap_set H3.out.1 0 _) 1 _) Try.underlying104 rfl (by kernel_rfl)) rfl ?_
  have hle : w.heap.size ≤ a := H1.out.2.2
  have hT1 : (w3.setCell ⟨a, 0, none⟩ (.slice A1 n C1)).heap[a]? = some (.cells #[.slice A1 n C1, .slice none 0 0] WFT (0, 0)) := heap_set H3.out.1 0 _
  exact ⟨_, _, rfl, own_other (own_other H3.out.2.2.1 H3.out.1 (by decide) 0 _) hT1 (by decide) 1 _, own_other (own_other H3.out.2.2.2 H3.out.1 (by decide) 0 _) hT1 (by decide) 1 _, (H3.out.2.1.setCell hle _).setCell hle _⟩

theorem of_c (W0 w : World) (f0 : Ext W0 w) (g : Nat) (t : WT) (h : RepN ND W0 g t) :
    Calls Try.prog 51 #[ptr g] w fun e w' => ∃ v1 v2 kb, e = .returned (.agg #[v1, v2]) ∧ w'.ownsRow w.heap.size NP 2 v1 t.ps.length (flat t.ps) ∧ w'.ownsRow w.heap.size NK 1 v2 kb.length (ptrs kb) ∧ RepNs ND W0 kb t.ks ∧ kb.length ≤ 32 ∧ t.ps.length ≤ 1000000 ∧ Ext w w' := by
  obtain ⟨d, n, ow, pv, kv, kb, nd, _, _, h9, hk9, hk⟩ := h.open
  refine (of_cc w nil0 nil0 (ptr g) _ _ _ _ (fun W f => npairs_c W g pv t.ps (nd.ext (Ext.trans f0 f)).node.cells.2.2.1 (nd.ext (Ext.trans f0 f)).pairs (by omega)) (fun W f => nkids_c W g kv kb (nd.ext (Ext.trans f0 f)).node.cells.2.2.2.1 (nd.ext (Ext.trans f0 f)).kids (by omega))).mono ?_
  rintro e w' ⟨v1, v2, rfl, r1, r2, f⟩
  exact ⟨v1, v2, kb, rfl, r1, r2, hk, hk9, h9, f⟩
theorem of_nil (w : World) :
    Calls Try.prog 51 #[nil0] w fun e w' => ∃ v1 v2, e = .returned (.agg #[v1, v2]) ∧ w'.ownsRow w.heap.size NP 2 v1 0 [] ∧ w'.ownsRow w.heap.size NK 1 v2 0 [] ∧ Ext w w' :=
  of_cc w nil0 nil0 nil0 [] [] 0 0 (fun W f => (pairs_nil W).mono fun e w' ⟨h1, h2⟩ => ⟨_, h1, World.ownsRow_nil _ _ _ _, h2 ▸ Ext.refl _⟩) (fun W f => (kids_nil W).mono fun e w' ⟨h1, h2⟩ => ⟨_, h1, World.ownsRow_nil _ _ _ _, h2 ▸ Ext.refl _⟩)

/-- The plain tree of a root or none. -/
def RootW (w : World) (v : Value) (t : WT) : Prop := (v = nil0 ∧ t = .mk false [] []) ∨ ∃ g, v = ptr g ∧ RepN ND w g t
theorem of_root {w : World} {v : Value} {t : WT} (h : RootW w v t) :
    Calls Try.prog 51 #[v] w fun e w' => ∃ v1 v2 kb, e = .returned (.agg #[v1, v2]) ∧ w'.ownsRow w.heap.size NP 2 v1 t.ps.length (flat t.ps) ∧ w'.ownsRow w.heap.size NK 1 v2 kb.length (ptrs kb) ∧ RepNs ND w kb t.ks ∧ kb.length ≤ 32 ∧ t.ps.length ≤ 1000000 ∧ Ext w w' := by
  rcases h with ⟨rfl, rfl⟩ | ⟨g, rfl, h⟩
  · refine (of_nil w).mono ?_
    rintro e w' ⟨v1, v2, rfl, r1, r2, f⟩
    exact ⟨v1, v2, [], rfl, r1, r2, RepNs.nil _ _, by simp, by simp, f⟩
  · exact of_c w w (Ext.refl w) g t h

set_option maxRecDepth 100000 in
set_option maxHeartbeats 1000000 in
theorem wnew_c (w : World) (v : Value) (t : WT) (h : RootW w v t) :
    Calls Try.prog 14 #[v] w fun e w' => ∃ c V m, e = .returned (ptr c) ∧ Cur w w' c V [m] [(t.ps, t.ks)] 0 ∧ Ext w w' := by
  have HO := Lib.hid (of_root h)
  clear h
  go_enter Try.func14, Try.ntmps14
  repeat' (first | go_at_call 51 | go_skip | go_guarded | go_step)
  refine HO.out.mono ?_
  rintro e w1 ⟨v1, v2, kb, rfl, r1, r2, hr, hk9, hp9, f1⟩
  obtain ⟨A1, C1, rfl⟩ := own_slice r1
  obtain ⟨A2, C2, rfl⟩ := own_slice r2
  have H1 := Lib.hid (And.intro r1 (And.intro r2 (And.intro hr f1)))
  clear r1 r2 hr f1 HO
  go_simp
  repeat' (first | go_skip | go_guarded | go_step)
  go_ret
  obtain ⟨r1, r2, hr, f1⟩ := H1.out
  obtain ⟨w2, hw2⟩ : ∃ x, x = w1.alloc (.cells #[.slice A1 t.ps.length C1, .slice A2 kb.length C2] WFT) := ⟨_, rfl⟩
  have E2 : Ext w1 w2 := by rw [hw2]; exact (Ext.refl _).alloc (Nat.le_refl _) _
  have hs2 : w2.heap.size = w1.heap.size + 1 := by rw [hw2]; simp
  have hb2 : w2.heap[w1.heap.size]? = some (.cells #[.slice A1 t.ps.length C1, .slice A2 kb.length C2] WFT (0, 0)) := by rw [hw2]; exact heap_new w1 _
  obtain ⟨w3, hw3⟩ : ∃ x, x = w2.alloc (.cells #[.slice (some ⟨w1.heap.size, 0, none⟩) 1 1, .int .i64 0] WCT) := ⟨_, rfl⟩
  have E3 : Ext w2 w3 := by rw [hw3]; exact (Ext.refl _).alloc (Nat.le_refl _) _
  have hb3 : w3.heap[w2.heap.size]? = some (.cells #[.slice (some ⟨w1.heap.size, 0, none⟩) 1 1, .int .i64 0] WCT (0, 0)) := by rw [hw3]; exact heap_new w2 _
  have hs1 := f1.size
  have E13 : Ext w1 w3 := Ext.trans E2 E3
  have q1 := World.ownsRow.lt r1
  have q2 := World.ownsRow.lt r2
  refine ⟨w2.heap.size, .slice (some ⟨w1.heap.size, 0, none⟩) 1 1, (.slice A1 t.ps.length C1, .slice A2 kb.length C2), ?_, ?_, ?_⟩
  · rw [hs2]; simp
  · have hst : Cur w w3 w2.heap.size (.slice (some ⟨w1.heap.size, 0, none⟩) 1 1) [(.slice A1 t.ps.length C1, .slice A2 kb.length C2)] [(t.ps, t.ks)] 0 := by
      refine ⟨hb3, ?_, rfl, fun i m s a b => ?_, Ext.trans f1 E13, by omega, ?_⟩
      · refine row_ext ?_ E3
        refine ⟨rfl, .inr ⟨w1.heap.size, 1, #[.slice A1 t.ps.length C1, .slice A2 kb.length C2], rfl, hs1, hb2, Nat.le_refl _, by decide, by simp, rfl⟩⟩
      · match i with
        | 0 =>
          simp at a b
          subst a b
          refine ⟨kb, (PS.of_own r1).below E13, (Sl.of_own r2).below E13, hr, hp9, by omega, fun b hb => ?_⟩
          have hlt : b < w1.heap.size := by
            rcases hb with hb | hb
            · exact (q1 b hb).2
            · exact (q2 b hb).2
          have := E13.size
          refine ⟨by omega, by omega, fun e => ?_⟩
          have e' : w1.heap.size = b := by simpa [Value.ownBlock] using e
          omega
        | i + 1 => simp at a
      · intro e
        have e' : w1.heap.size = w2.heap.size := by simpa [Value.ownBlock] using e
        omega
    rw [hw3, hw2] at hst
    rw [hw2]
    exact hst
  · have := Ext.trans f1 E13
    rw [hw3, hw2] at this
    exact this
end Go.Proofs.Ytbmakajadelckaa
