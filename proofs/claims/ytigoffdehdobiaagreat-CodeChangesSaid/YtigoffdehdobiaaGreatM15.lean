/- Texts joined. -/
import Derived.Test.YtigoffdehdobiaaGreatM11
import Derived.Test.YtigoffdehdobiaaGreatM14
import Derived.Test.YtigoffdehdobiaaGreatM13
import Derived.Test.YtigoffdehdobiaaGreatM03
set_option linter.unusedVariables false
set_option linter.unusedSimpArgs false
/- Contract: the span laws' tree, and whose own its list is; a tree stays where another block turns. -/
namespace Go.Proofs.YtigoffdehdobiaaGreat
open Go.RowKit Go.QS
set_option linter.unusedVariables false

theorem own_lower {w : World} {base base' : Nat} {e : TypeId} {k n : Nat} {v : Value} {xs : List Value} (h : w.ownsRow base' e k v n xs) (hb : base ≤ base') : w.ownsRow base e k v n xs := by
  refine ⟨h.1, ?_⟩
  rcases h.2 with h | ⟨g, cap, cur, h1, h2, h3⟩
  · exact .inl h
  · exact .inr ⟨g, cap, cur, h1, Nat.le_trans hb h2, h3⟩

/-- A block that holds no pointer and is no node may turn: the tree stays. -/
theorem Rep.away {T Tg : TypeId} {w w' : World} {gb : Nat} {a b : List UInt8} {c : Bool} {f : Nat × Nat} (hb : w.heap[gb]? = some (.cells #[str a, str b, .bool c] Tg f)) (hw : ∀ k, k ≠ gb → w'.heap[k]? = w.heap[k]?) {g : Nat} {t : RT} (h : Rep T w g t) : Rep T w' g t := by
  induction h with
  | @mk g t kv ow ps h hs hl _ ih =>
    have hg : g ≠ gb := by
      intro e
      subst e
      unfold NodeAt at h
      rw [hb] at h
      simp at h
    refine .mk ((hw g hg).trans h) ?_ hl ih
    obtain ⟨A, C, rfl, h1, h2, h3, h4⟩ := hs
    refine ⟨A, C, rfl, h1, h2, h3, fun hne => ?_⟩
    obtain ⟨b', o', rfl, hc⟩ := h4 hne
    refine ⟨b', o', rfl, fun j u hu => ?_⟩
    have hcj := hc j u hu
    have hbb : b' ≠ gb := by
      intro e
      subst e
      obtain ⟨q, _, rfl⟩ := List.mem_map.1 (List.mem_of_getElem? hu)
      simp only [World.cell?, hb] at hcj
      match hj : o' + j with
      | 0 => simp [hj] at hcj
      | 1 => simp [hj] at hcj
      | 2 => simp [hj] at hcj
      | n + 3 => simp [hj] at hcj
    exact (World.cell?_of_block (hw b' hbb)).trans hcj
theorem row_away {w w' : World} {gb base : Nat} {e Tg : TypeId} {k n : Nat} {v : Value} {xs : List Value} {cs : Array Value} {f : Nat × Nat} (h : w.ownsRow base e k v n xs) (hb : w.heap[gb]? = some (.cells cs Tg f)) (hT : Tg ≠ e) (hw : ∀ k, k ≠ gb → w'.heap[k]? = w.heap[k]?) : w'.ownsRow base e k v n xs := by
  refine ⟨h.1, ?_⟩
  rcases h.2 with h | ⟨g, cap, cur, h1, h2, h3, h4⟩
  · exact .inl h
  · refine .inr ⟨g, cap, cur, h1, h2, (hw g ?_).trans h3, h4⟩
    intro e
    subst e
    rw [hb] at h3
    cases h3
    exact hT rfl

end Go.Proofs.YtigoffdehdobiaaGreat
/- Contracts: span.Each, Pairs, Count. -/
namespace Go.Proofs.YtigoffdehdobiaaGreat
open Go Go.RowKit Go.QS
set_option linter.unusedVariables false

/-- What span.Each hands back: a closure over three boxes. -/
def EachAt (w : World) (v : Value) (p0 : Option Addr) (s : Sp) (back : Bool) : Prop :=
  ∃ k0 k1 k2, v = .func (.func 137) #[] #[ptr k0, ptr k1, ptr k2] ∧ EachBx w k0 k1 k2 p0 s back

set_option maxRecDepth 100000 in
theorem each_c (w : World) (p0 : Option Addr) (s : Sp) (back : Bool) :
    Calls Tryz.prog 114 #[.pointer p0, s.v, .bool back] w fun e w' => ∃ v, e = .returned v ∧ EachAt w' v p0 s back ∧ Ext w w' := by
  obtain ⟨f, tt, o⟩ := s
  go_enter Tryz.func114, Tryz.ntmps114
  repeat' (first | go_skip | go_guarded | go_step)
  go_ret
  have e1 : Ext w (w.alloc (.cells #[.pointer p0] 55)) := (Ext.refl w).alloc (Nat.le_refl _) _
  have e2 := e1.alloc e1.size (.cells #[str f, str tt, .bool o] 144)
  have e3 := e2.alloc e2.size (.cells #[.bool back] 4)
  have f2 : Ext (w.alloc (.cells #[.pointer p0] 55)) (((w.alloc (.cells #[.pointer p0] 55)).alloc (.cells #[str f, str tt, .bool o] 144)).alloc (.cells #[.bool back] 4)) := ((Ext.refl _).alloc (Nat.le_refl _) _).alloc (by simp) _
  have f3 : Ext ((w.alloc (.cells #[.pointer p0] 55)).alloc (.cells #[str f, str tt, .bool o] 144)) (((w.alloc (.cells #[.pointer p0] 55)).alloc (.cells #[str f, str tt, .bool o] 144)).alloc (.cells #[.bool back] 4)) := (Ext.refl _).alloc (Nat.le_refl _) _
  have h1 := box_extG (heap_newG w (.cells #[.pointer p0] 55)) f2
  have h2 := box_extG (heap_newG (w.alloc (.cells #[.pointer p0] 55)) (.cells #[str f, str tt, .bool o] 144)) f3
  have h3 := heap_newG ((w.alloc (.cells #[.pointer p0] 55)).alloc (.cells #[str f, str tt, .bool o] 144)) (.cells #[.bool back] 4)
  simp only [World.size_alloc] at h1 h2 h3
  refine ⟨_, rfl, ⟨_, _, _, rfl, ⟨?_, h2, ?_⟩⟩, e3⟩
  · rw [cellG h1]; rfl
  · rw [cellG h3]; rfl

set_option maxRecDepth 100000 in
theorem spairs_c (w : World) (p0 : Option Addr) (r0 : List Wn) (s : Sp) (L : List Pr) (hr : RootAt w p0 r0) (hG : Good r0) (hw : wt r0 ≤ 1000000) (hs9 : s.f.length ≤ 1000) (hL : L = com s false r0) (hL9 : L.length ≤ 1000000) :
    Calls Tryz.prog 91 #[.pointer p0, s.v] w fun e w' => ∃ v', e = .returned v' ∧ w'.ownsRow w.heap.size 70 2 v' L.length (flat L) ∧ Ext w w' := by
  obtain ⟨f, tt, o⟩ := s
  have HR := Lib.hid (And.intro hr (And.intro hG hL))
  clear hr hG hL
  go_enter Tryz.func91, Tryz.ntmps91
  repeat' (first
    | (go_at_call 114; refine (each_c _ p0 ⟨f, tt, o⟩ false).mono ?_; rintro e w1 ⟨v1, rfl, ⟨k0, k1, k2, rfl, hk⟩, h1⟩; replace hk := Lib.hid hk; replace h1 := Lib.hid (Ext.trans ((Ext.refl w).alloc (Nat.le_refl _) _) h1); go_simp)
    | (go_at_call 113
       refine (collect_c w1 tauS tauS_pr tauS_prs 137 _ each_enters L hL9 _ ((each_seq 4 (by decide) w1 p0 r0 ⟨f, tt, o⟩ false k0 k1 k2 L (HR.out.1.ext h1.out) HR.out.2.1 hw hs9 HR.out.2.2).pre (fun W hW => ⟨hW, hk.out.ext hW⟩))).mono ?_
       rintro e w2 ⟨v2, rfl, h2, h3⟩; replace h2 := Lib.hid h2; replace h3 := Lib.hid h3; go_simp)
    | go_skip | go_guarded | go_step)
  go_ret
  exact ⟨_, rfl, own_lower h2.out h1.out.size, Ext.trans h1.out h3.out⟩

end Go.Proofs.YtigoffdehdobiaaGreat
/- Contracts: bytes.Clone, code.Of, the law's cut. -/
namespace Go.Proofs.YtigoffdehdobiaaGreat
open Go.RowKit Go.QS
set_option linter.unusedVariables false

theorem run_uptoB {t e : TypeId} (ht : Tryz.prog.underlying t = some (.slice e)) (hi : ∃ i z, Tryz.prog.info? e = some i ∧ i.zero = some z ∧ i.size = 1 ∧ i.bytes = 1 ∧ z.cells.size = 1) (A : Option Addr) {n c up : Nat} (h2 : up ≤ n) (hnc : n ≤ c) :
    ∀ w, (Instr.slice t (.slice A n c) none (some (.int .i64 (up : Int))) none).run Tryz.prog w = .ok (.slice A up c) w := by
  obtain ⟨inf, z, hi, hz, hs, hb, hzs⟩ := hi
  intro w
  have g3 : (up : Int) ≤ (c : Int) := by omega
  have g4 : up ≤ c := by omega
  simp [Instr.slice, Instr.sliceBounds, Instr.sliceBound, asIntOf, run_underlying ht, sizeOf, typeInfo, hi, hs, g4]
  cases A with
  | none => simp
  | some a => intro _; simp [Addr.add]

theorem own_sliceB {w : World} {base : Nat} {e : TypeId} {k n : Nat} {v : Value} {xs : List Value} (h : w.ownsRow base e k v n xs) : ∃ A c, v = .slice A n c := by
  rcases h.2 with ⟨rfl, rfl⟩ | ⟨g, cap, cur, h1, h2, h3, h4⟩
  · exact ⟨_, _, rfl⟩
  · exact ⟨_, _, h1⟩

set_option maxRecDepth 100000 in
theorem cloneB_w (w : World) (v : Value) (l : List UInt8) (h : BS w v l) (h9 : l.length ≤ 1000000000) :
    Calls Tryz.prog 42 #[v] w fun e w' => ∃ v', e = .returned v' ∧ w'.ownsRow w.heap.size 5 1 v' l.length (encB l) ∧ Ext w w' := by
  obtain ⟨A, c, rfl, hl, hn, hc, hs⟩ := h
  cases A with
  | none =>
    have hl0 : l = [] := by
      cases l with
      | nil => rfl
      | cons p l => obtain ⟨b, o, h, _⟩ := hs (by simp [encB]); cases h
    subst hl0
    have hnil := fun w : World => Lib.run_eql_slice_nil (P := Tryz.prog) w 22 5 none 0 c 0 0 Tryz.underlying22
    go_enter Tryz.func42, Tryz.ntmps42
    repeat' go_step
    go_ret
    exact ⟨_, rfl, World.ownsRow_nil _ _ _ _, Ext.refl _⟩
  | some a =>
    have hnil := fun w : World => Lib.run_eql_slice_nil (P := Tryz.prog) w 22 5 (some a) l.length c 0 0 Tryz.underlying22
    go_enter Tryz.func42, Tryz.ntmps42
    repeat' (first | (at_builtin; refine wpList_appE (W := w) rfl (.tmp 5) (.tmp 6) _ rfl 5 1 1 Tryz.underlying22 infoU8 (by decide) _ 0 [] rfl (own_lit [] 0 (by decide) rfl (Nat.le_refl _)) ((Ext.refl w).alloc (Nat.le_refl _) _) _ _ c (encB l) rfl hl (hs.alloc _) (encB_one _) (by unfold maxLen; omega) (by omega) ?_; intro v1 w1 hown hb) | go_step)
    go_ret
    refine ⟨_, rfl, ?_, hb⟩
    simpa using hown

set_option maxRecDepth 100000 in
theorem cutB_c (w : World) (v : Value) (l : List UInt8) (most : Nat) (hm : most ≤ 1000000) (h : BS w v l) :
    Calls Tryz.prog 7 #[v, .int .i64 (most : Int)] w fun e w' => ∃ v', e = .returned v' ∧ w'.ownsRow w.heap.size 5 1 v' (l.take most).length (encB (l.take most)) ∧ Ext w w' := by
  obtain ⟨A, c, rfl, hl, hn, hc, hs⟩ := h
  obtain ⟨k, hk⟩ : ∃ k, k = (l.take most).length := ⟨_, rfl⟩
  have hk2 : k = min l.length most := by rw [hk, List.length_take, Nat.min_comm]
  have hkl : k ≤ l.length := by omega
  have hkm : k ≤ 1000000 := by omega
  have hmin : min (l.length : Int) (most : Int) = (k : Int) := by omega
  have hrun := run_uptoB Tryz.underlying22 infoU8 A (n := l.length) (c := c) hkl hn
  have hsk : Seg w A (encB (l.take most)) := by rw [encB_take]; exact hs.take most
  have hlk : (encB (l.take most)).length = k * 1 := by rw [encB_length, ← hk, Nat.mul_one]
  rw [← hk]
  have HK := Lib.hid hk
  clear hk hk2
  go_enter Tryz.func7, Tryz.ntmps7
  repeat' (first | (at_builtin; refine wpList_appE (W := w) rfl (.tmp 5) (.tmp 11) _ rfl 5 1 1 Tryz.underlying22 infoU8 (by decide) _ 0 [] rfl (own_lit [] 0 (by decide) rfl (Nat.le_refl _)) ((Ext.refl w).alloc (Nat.le_refl _) _) A k c (encB (l.take most)) rfl hlk (hsk.alloc _) (encB_one _) (by unfold maxLen; omega) (by omega) ?_; intro v1 w1 hown hb) | go_skip | go_guarded | go_step)
  go_ret
  refine ⟨_, rfl, ?_, hb⟩
  simpa using hown

theorem InAt.of_own {w : World} {base : Nat} {v : Value} {l : List UInt8} (h : w.ownsRow base 5 1 v l.length (encB l)) (hc : l.length ≤ maxLen) :
    InAt (fun b => base ≤ b ∧ b < w.heap.size) w.heap.size (w.alloc (.cells #[v, .int .i64 ((0 : Nat) : Int)] InT)) l 0 := by
  rcases h.2 with ⟨rfl, h0⟩ | ⟨g, cap, cur, rfl, hb, hg, hn, hcap, _, _⟩
  · have hl0 : l = [] := List.length_eq_zero_iff.1 h0
    subst hl0
    exact ⟨none, 0, heap_alloc_new w _, Nat.le_refl _, Nat.zero_le _, Seg.nil _ _, fun a ha => by cases ha⟩
  · have hlt := heap_lt hg
    refine ⟨some ⟨g, 0, none⟩, cap, heap_alloc_new w _, hn, hcap, ?_, fun a ha => ?_⟩
    · have hB := (BS.of_own h).below ((Ext.refl w).alloc (Nat.le_refl _) (.cells #[.slice (some ⟨g, 0, none⟩) l.length cap, .int .i64 ((0 : Nat) : Int)] InT))
      obtain ⟨A, c, e1, e2, e3, e4, e5⟩ := hB
      cases e1
      exact e5
    · cases ha
      exact ⟨by show g ≠ _; omega, hb, hlt⟩

set_option maxRecDepth 100000 in
theorem of_c (w : World) (v : Value) (l : List UInt8) (h : BS w v l) (h9 : l.length ≤ 1000000000) :
    Calls Tryz.prog 19 #[v] w fun e w' => ∃ g, e = .returned (ptr g) ∧ InAt (fun b => w.heap.size ≤ b ∧ b < g) g w' l 0 ∧ Ext w w' ∧ w.heap.size ≤ g := by
  have HC := Lib.hid (cloneB_w w v l h h9)
  have h99 : l.length ≤ maxLen := by unfold maxLen; omega
  clear h
  go_enter Tryz.func19, Tryz.ntmps19
  repeat' (first | go_at_call 42 | go_skip | go_guarded | go_step)
  refine HC.out.mono ?_
  rintro x w1 ⟨v1, rfl, r1, f1⟩
  obtain ⟨A1, c1, rfl⟩ := own_sliceB r1
  replace r1 := Lib.hid r1
  replace f1 := Lib.hid f1
  go_simp
  repeat' (first | go_skip | go_guarded | go_step)
  go_ret
  exact ⟨_, rfl, InAt.of_own r1.out h99, f1.out.alloc f1.out.size _, f1.out.size⟩
end Go.Proofs.YtigoffdehdobiaaGreat
