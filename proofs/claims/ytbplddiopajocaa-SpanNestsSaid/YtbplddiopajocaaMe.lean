/- Texts joined. -/
import Derived.Test.YtbplddiopajocaaRows
import Derived.Test.YtbplddiopajocaaMb
import Derived.Test.YtbplddiopajocaaMc
import Derived.Deep.RegionHeld3
set_option linter.unusedVariables false
set_option linter.unusedSimpArgs false
/- Contracts of the small functions of the radix chapter, without a token. -/
namespace Go.Proofs.Ytbplddiopajocaa
open Go.RowKit Go.QS
set_option linter.unusedVariables false

abbrev NT : TypeId := 88
abbrev PT : TypeId := 26
theorem infoK : ∃ i z, Try.prog.info? 26 = some i ∧ i.zero = some z ∧ i.size = 1 ∧ i.bytes = 8 ∧ z.cells.size = 1 := info_of (z := .pointer none) (by kernel_rfl) rfl

theorem live_nil (w : World) : Calls Try.prog 62 #[.pointer none] w fun e w' => e = .returned (.bool false) ∧ w = w' := by
  go_enter Try.func62, Try.ntmps62
  repeat' (first | go_skip | go_guarded | go_step)
  go_ret
  exact ⟨rfl, rfl⟩

theorem owned_nil (w : World) (g : Nat) : Calls Try.prog 39 #[ptr g, .pointer none] w fun e w' => e = .returned (.bool false) ∧ w = w' := by
  go_enter Try.func39, Try.ntmps39
  repeat' (first | (go_at_call 62; refine (live_nil _).mono ?_; rintro e w1 ⟨rfl, rfl⟩; go_simp) | go_skip | go_guarded | go_step)
  go_ret
  exact ⟨rfl, rfl⟩

theorem label_c (w : World) (g : Nat) (l : List UInt8) (h : w.cell? ⟨g, 0, none⟩ = some (str l)) : Calls Try.prog 41 #[ptr g] w fun e w' => e = .returned (str l) ∧ w = w' := by
  go_enter Try.func41, Try.ntmps41
  repeat' (first | go_skip | go_guarded | go_step)
  go_ret
  exact ⟨rfl, rfl⟩

theorem value_c (w : World) (g : Nat) (b : Bool) (l : List UInt8) (h1 : w.cell? ⟨g, 1, none⟩ = some (.bool b)) (h2 : w.cell? ⟨g, 2, none⟩ = some (str l)) : Calls Try.prog 52 #[ptr g] w fun e w' => e = .returned (.tuple #[str l, .bool b]) ∧ Ext w w' := by
  go_enter Try.func52, Try.ntmps52
  repeat' (first | go_skip | go_guarded | go_step)
  first | (go_quiet (fail)) | skip
  repeat' (first | go_skip | go_guarded | go_step)
  go_ret2
  first | exact ⟨rfl, Ext.refl _⟩ | exact ⟨rfl, below_drewN (Ext.refl _) _⟩

theorem some_c (w : World) (g : Nat) : Calls Try.prog 43 #[ptr g] w fun e w' => e = .returned (ptr g) ∧ w = w' := by
  go_enter Try.func43, Try.ntmps43
  repeat' (first | go_skip | go_guarded | go_step)
  go_ret
  exact ⟨rfl, rfl⟩

theorem empty_c (w : World) : Calls Try.prog 10 #[] w fun e w' => e = .returned (ptr w.heap.size) ∧ w' = w.alloc (.cells #[str [], .bool false, str [], .slice none 0 0, .pointer none] NT) := by
  go_enter Try.func10, Try.ntmps10
  repeat' (first | go_skip | go_guarded | go_step)
  go_ret
  exact ⟨rfl, rfl⟩

theorem named_c (w : World) (g : Nat) (l0 l : List UInt8) (h : w.cell? ⟨g, 0, none⟩ = some (str l0)) (hf : w.frozen? ⟨g, 0, none⟩ = false) : Calls Try.prog 89 #[ptr g, str l] w fun e w' => e = .returned (ptr g) ∧ w' = w.setCell ⟨g, 0, none⟩ (str l) := by
  go_enter Try.func89, Try.ntmps89
  repeat' (first | go_skip | go_guarded | go_step)
  go_ret
  exact ⟨rfl, rfl⟩

theorem valued_c (w : World) (g : Nat) (b0 : Bool) (l0 l : List UInt8) (h1 : w.cell? ⟨g, 1, none⟩ = some (.bool b0)) (h2 : w.cell? ⟨g, 2, none⟩ = some (str l0)) (hf1 : w.frozen? ⟨g, 1, none⟩ = false) (hf2 : w.frozen? ⟨g, 2, none⟩ = false) : Calls Try.prog 65 #[ptr g, str l] w fun e w' => e = .returned (ptr g) ∧ Ext (w.setCell ⟨g, 1, none⟩ (.bool true) |>.setCell ⟨g, 2, none⟩ (str l)) w' := by
  go_enter Try.func65, Try.ntmps65
  repeat' (first | go_skip | go_guarded | go_step)
  go_ret
  exact ⟨rfl, Ext.refl _⟩

set_option maxRecDepth 100000 in
theorem clone_k (w : World) (v : Value) (l : List Nat) (h : Sl w 1 v l.length (ptrs l)) (h9 : l.length ≤ 1000000000) :
    Calls Try.prog 63 #[v] w fun e w' => ∃ v', e = .returned v' ∧ w'.ownsRow w.heap.size 26 1 v' l.length (ptrs l) ∧ Ext w w' := by
  obtain ⟨A, c, rfl, hl, hn, hc, hs⟩ := h
  have hnil := fun w : World => Lib.run_eql_slice_nil (P := Try.prog) w 74 26 A l.length c 0 0 Try.underlying74
  cases A with
  | none =>
    have hl0 : l = [] := by
      cases l with
      | nil => rfl
      | cons p l => obtain ⟨b, o, h, _⟩ := hs (by simp [ptrs]); cases h
    subst hl0
    have hnil := fun w : World => Lib.run_eql_slice_nil (P := Try.prog) w 74 26 none 0 c 0 0 Try.underlying74
    go_enter Try.func63, Try.ntmps63
    repeat' go_step
    go_ret
    exact ⟨_, rfl, World.ownsRow_nil _ _ _ _, Ext.refl _⟩
  | some a =>
    go_enter Try.func63, Try.ntmps63
    repeat' (first | (at_builtin; refine wpList_appE (W := w) rfl (.tmp 5) (.tmp 6) _ rfl 26 1 8 Try.underlying74 infoK (by decide) _ 0 [] rfl (own_lit [] 0 (by decide) rfl (Nat.le_refl _)) ((Ext.refl w).alloc (Nat.le_refl _) _) _ _ c (ptrs l) rfl hl (hs.alloc _) (ptrs_one _) (by unfold maxLen; omega) (by omega) ?_; intro v1 w1 hown hb) | go_step)
    go_ret
    refine ⟨_, rfl, ?_, hb⟩
    simpa using hown

theorem kids_c (w : World) (g : Nat) (kv : Value) (l : List Nat) (hg : w.cell? ⟨g, 3, none⟩ = some kv) (h : Sl w 1 kv l.length (ptrs l)) (h9 : l.length ≤ 1000000000) : Calls Try.prog 40 #[ptr g] w fun e w' => ∃ v', e = .returned v' ∧ w'.ownsRow w.heap.size 26 1 v' l.length (ptrs l) ∧ Ext w w' := by
  have HC := Lib.hid (clone_k w kv l h h9)
  clear h
  go_enter Try.func40, Try.ntmps40
  repeat' (first | (go_at_call 63; refine HC.out.mono ?_; rintro e w1 ⟨v1, rfl, h1, h2⟩; go_simp) | go_skip | go_guarded | go_step)
  go_ret
  exact ⟨_, rfl, h1, h2⟩
end Go.Proofs.Ytbplddiopajocaa
/- Contracts: a node of one's own (no token), a leaf. -/
namespace Go.Proofs.Ytbplddiopajocaa
open Go.RowKit Go.QS
set_option linter.unusedVariables false

theorem row_set {w : World} {base : Nat} {e : TypeId} {k n : Nat} {v : Value} {xs : List Value} (h : w.ownsRow base e k v n xs) (a : Addr) (u : Value) (hne : a.block < base) : (w.setCell a u).ownsRow base e k v n xs := by
  refine ⟨h.1, ?_⟩
  rcases h.2 with h | ⟨g, cap, cur, h1, h2, h3, h4⟩
  · exact .inl h
  · exact .inr ⟨g, cap, cur, h1, h2, (Below.heap_setCell w a u g (by omega)).trans h3, h4⟩
theorem row_ext {w w' : World} {base : Nat} {e : TypeId} {k n : Nat} {v : Value} {xs : List Value} (h : w.ownsRow base e k v n xs) (hb : Ext w w') : w'.ownsRow base e k v n xs := by
  refine ⟨h.1, ?_⟩
  rcases h.2 with h | ⟨g, cap, cur, h1, h2, h3, h4⟩
  · exact .inl h
  · exact .inr ⟨g, cap, cur, h1, h2, (hb.block g (heap_lt h3)).trans h3, h4⟩

theorem own_slice {w : World} {base : Nat} {e : TypeId} {k n : Nat} {v : Value} {xs : List Value} (h : w.ownsRow base e k v n xs) : ∃ A c, v = .slice A n c := by
  rcases h.2 with ⟨rfl, rfl⟩ | ⟨g, cap, cur, h1, h2, h3, h4⟩
  · exact ⟨_, _, rfl⟩
  · exact ⟨_, _, h1⟩

set_option maxRecDepth 100000 in
theorem own_c (w : World) (g : Nat) (lab : List UInt8) (val : Option (List UInt8)) (kv : Value) (ow : Option Addr) (ps : List Nat) (h : NodeAt NT w g lab val kv ow) (hs : Sl w 1 kv ps.length (ptrs ps)) (h9 : ps.length ≤ 1000000000) :
    Calls Try.prog 64 #[ptr g, .pointer none] w fun e w' => ∃ g' kv', e = .returned (ptr g') ∧ Ext w w' ∧ NodeAt NT w' g' lab val kv' none ∧ w'.ownsRow (g' + 1) PT 1 kv' ps.length (ptrs ps) ∧ w.heap.size ≤ g' := by
  obtain ⟨c0, c1, c2, c3, c4⟩ := h.cells
  have hg := h.lt
  have HS := Lib.hid hs
  have hsl : ∃ A n c, kv = .slice A n c := by obtain ⟨A, c, rfl, _⟩ := hs; exact ⟨_, _, _, rfl⟩
  obtain ⟨A, n, c, rfl⟩ := hsl
  clear h hs
  go_enter Try.func64, Try.ntmps64
  repeat' (first | (go_at_call 39; refine (owned_nil _ _).mono ?_; rintro e w1 ⟨rfl, rfl⟩; go_simp) | go_skip | go_guarded | go_step)
  refine (clone_k _ _ ps (HS.out.alloc _) h9).mono ?_
  rintro e w1 ⟨kv1, rfl, r1, b1⟩
  obtain ⟨A1, c1', rfl⟩ := own_slice r1
  have hN : NodeAt NT w1 w.heap.size lab val (.slice A n c) ow := NodeAt.ext (NodeAt.new NT w rfl) b1
  obtain ⟨d0, d1, d2, d3, d4⟩ := hN.cells
  have hf := hN.free
  have HR := Lib.hid (And.intro r1 (And.intro b1 hN))
  clear r1 b1 hN
  go_simp
  repeat' (first | (go_at_call 62; refine (live_nil _).mono ?_; rintro e w1 ⟨rfl, rfl⟩; go_simp) | go_skip | go_guarded | go_step)
  go_ret
  obtain ⟨r1, b1, hN⟩ := HR.out
  refine ⟨_, _, rfl, ?_, (hN.set3 _).set4 none, ?_, Nat.le_refl _⟩
  · exact ((((Ext.refl w).alloc (Nat.le_refl _) _).trans (b1.mono (by simp))).setCell (Nat.le_refl _) _).setCell (Nat.le_refl _) _
  · simp only [World.size_alloc] at r1
    exact row_set (row_set r1 _ _ (Nat.lt_succ_self _)) _ _ (Nat.lt_succ_self _)

set_option maxRecDepth 100000 in
theorem fresh_c (w : World) (lab v : List UInt8) :
    Calls Try.prog 68 #[.pointer none, str lab, str v] w fun e w' => ∃ g, e = .returned (ptr g) ∧ Ext w w' ∧ Rep NT w' g (.node lab (some v) []) ∧ w.heap.size ≤ g := by
  have h0 : NodeAt NT (w.alloc (.cells #[str [], .bool false, str [], .slice none 0 0, .pointer none] NT)) w.heap.size [] none (.slice none 0 0) none := NodeAt.new (lab := []) (val := none) (kv := .slice none 0 0) (ow := none) NT w rfl
  have H0 := Lib.hid h0
  clear h0
  go_enter Try.func68, Try.ntmps68
  repeat' (first | go_skip | go_guarded | go_step)
  refine (own_c _ w.heap.size [] none (.slice none 0 0) none [] H0.out (Sl.nil _ _) (by simp)).mono ?_
  rintro e w1 ⟨g, kv1, rfl, b1, n1, r1, hg⟩
  simp only [World.size_alloc] at hg
  have hb1 := ((Ext.refl w).alloc (Nat.le_refl _) _).trans (b1.mono (by simp))
  have HR := Lib.hid (And.intro hb1 (And.intro n1 r1))
  clear b1 n1 r1 hb1
  go_simp
  repeat' (first | go_skip | go_guarded | go_step)
  refine (named_c _ _ _ _ HR.out.2.1.cells.1 (HR.out.2.1.free 0)).mono ?_
  rintro e w2 ⟨rfl, rfl⟩
  go_simp
  repeat' (first | go_skip | go_guarded | go_step)
  have n2 := HR.out.2.1.set0 lab
  refine (valued_c _ _ _ _ _ n2.cells.2.1 n2.cells.2.2.1 (n2.free 1) (n2.free 2)).mono ?_
  rintro e w3 ⟨rfl, b3⟩
  have H3 := Lib.hid (And.intro n2 b3)
  clear n2 b3
  go_simp
  repeat' (first | go_skip | go_guarded | go_step)
  go_ret
  obtain ⟨hb1, n1, r1⟩ := HR.out
  obtain ⟨n2, b3⟩ := H3.out
  have hn := (n2.set12 true v).ext b3
  have hle : w.heap.size ≤ g := by omega
  refine ⟨_, rfl, ?_, Rep.make (ps := []) hn ?_ (Reps.nil _ _), hle⟩
  · exact Ext.trans (((hb1.setCell hle _).setCell hle _).setCell hle _) b3
  · exact (Sl.of_own (row_set (row_set (row_set r1 _ _ (Nat.lt_succ_self _)) _ _ (Nat.lt_succ_self _)) _ _ (Nat.lt_succ_self _))).below b3
end Go.Proofs.Ytbplddiopajocaa
