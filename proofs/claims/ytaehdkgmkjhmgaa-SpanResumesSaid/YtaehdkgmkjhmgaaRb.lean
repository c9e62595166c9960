/- Contracts: a node of one's own (no token), a leaf. -/
import Derived.Test.YtaehdkgmkjhmgaaRa
namespace Go.Proofs.Ytaehdkgmkjhmgaa
open Go.RowKit Go.QS
set_option linter.unusedVariables false

theorem row_set {w : World} {base : Nat} {e : TypeId} {k n : Nat} {v : Value} {xs : List Value} (h : w.ownsRow base e k v n xs) (a : Addr) (u : Value) (hne : a.block < base) : (w.setCell a u).ownsRow base e k v n xs := by
  refine ⟨h.1, ?_⟩
  rcases h.2 with h | ⟨g, cap, cur, h1, h2, h3, h4⟩
  · exact .inl h
  · exact .inr ⟨g, cap, cur, h1, h2, (Below.heap_setCell w a u g (by omega)).trans h3, h4⟩
theorem row_ext {w w' : World} {base : Nat} {e : TypeId} {k n : Nat} {v : Value} {xs : List Value} (h : w.ownsRow base e k v n xs) (hb : Ext w w') : w'.ownsRow base e k v n xs := by
  refine ⟨h.1, ?_⟩
  rcases h.2 with h | ⟨g, cap, cur, h1, h2, h3, h4⟩
  · exact .inl h
  · exact .inr ⟨g, cap, cur, h1, h2, (hb.block g (heap_lt h3)).trans h3, h4⟩

theorem own_slice {w : World} {base : Nat} {e : TypeId} {k n : Nat} {v : Value} {xs : List Value} (h : w.ownsRow base e k v n xs) : ∃ A c, v = .slice A n c := by
  rcases h.2 with ⟨rfl, rfl⟩ | ⟨g, cap, cur, h1, h2, h3, h4⟩
  · exact ⟨_, _, rfl⟩
  · exact ⟨_, _, h1⟩

set_option maxRecDepth 100000 in
theorem own_c (w : World) (g : Nat) (lab : List UInt8) (val : Option (List UInt8)) (kv : Value) (ow : Option Addr) (ps : List Nat) (h : NodeAt NT w g lab val kv ow) (hs : Sl w 1 kv ps.length (ptrs ps)) (h9 : ps.length ≤ 1000000000) :
    Calls Try.prog 81 #[ptr g, .pointer none] w fun e w' => ∃ g' kv', e = .returned (ptr g') ∧ Ext w w' ∧ NodeAt NT w' g' lab val kv' none ∧ w'.ownsRow (g' + 1) PT 1 kv' ps.length (ptrs ps) ∧ w.heap.size ≤ g' := by
  obtain ⟨c0, c1, c2, c3, c4⟩ := h.cells
  have hg := h.lt
  have HS := Lib.hid hs
  have hsl : ∃ A n c, kv = .slice A n c := by obtain ⟨A, c, rfl, _⟩ := hs; exact ⟨_, _, _, rfl⟩
  obtain ⟨A, n, c, rfl⟩ := hsl
  clear h hs
  go_enter Try.func81, Try.ntmps81
  repeat' (first | (go_at_call 94; refine (owned_nil _ _).mono ?_; rintro e w1 ⟨rfl, rfl⟩; go_simp) | go_skip | go_guarded | go_step)
  refine (clone_k _ _ ps (HS.out.alloc _) h9).mono ?_
  rintro e w1 ⟨kv1, rfl, r1, b1⟩
  obtain ⟨A1, c1', rfl⟩ := own_slice r1
  have hN : NodeAt NT w1 w.heap.size lab val (.slice A n c) ow := NodeAt.ext (NodeAt.new NT w rfl) b1
  obtain ⟨d0, d1, d2, d3, d4⟩ := hN.cells
  have hf := hN.free
  have HR := Lib.hid (And.intro r1 (And.intro b1 hN))
  clear r1 b1 hN
  go_simp
  repeat' (first | (go_at_call 95; refine (live_nil _).mono ?_; rintro e w1 ⟨rfl, rfl⟩; go_simp) | go_skip | go_guarded | go_step)
  go_ret
  obtain ⟨r1, b1, hN⟩ := HR.out
  refine ⟨_, _, rfl, ?_, (hN.set3 _).set4 none, ?_, Nat.le_refl _⟩
  · exact ((((Ext.refl w).alloc (Nat.le_refl _) _).trans (b1.mono (by simp))).setCell (Nat.le_refl _) _).setCell (Nat.le_refl _) _
  · simp only [World.size_alloc] at r1
    exact row_set (row_set r1 _ _ (Nat.lt_succ_self _)) _ _ (Nat.lt_succ_self _)

set_option maxRecDepth 100000 in
theorem fresh_c (w : World) (lab v : List UInt8) :
    Calls Try.prog 85 #[.pointer none, str lab, str v] w fun e w' => ∃ g, e = .returned (ptr g) ∧ Ext w w' ∧ Rep NT w' g (.node lab (some v) []) ∧ w.heap.size ≤ g := by
  have h0 : NodeAt NT (w.alloc (.cells #[str [], .bool false, str [], .slice none 0 0, .pointer none] NT)) w.heap.size [] none (.slice none 0 0) none := NodeAt.new (lab := []) (val := none) (kv := .slice none 0 0) (ow := none) NT w rfl
  have H0 := Lib.hid h0
  clear h0
  go_enter Try.func85, Try.ntmps85
  repeat' (first | go_skip | go_guarded | go_step)
  refine (own_c _ w.heap.size [] none (.slice none 0 0) none [] H0.out (Sl.nil _ _) (by simp)).mono ?_
  rintro e w1 ⟨g, kv1, rfl, b1, n1, r1, hg⟩
  simp only [World.size_alloc] at hg
  have hb1 := ((Ext.refl w).alloc (Nat.le_refl _) _).trans (b1.mono (by simp))
  have HR := Lib.hid (And.intro hb1 (And.intro n1 r1))
  clear b1 n1 r1 hb1
  go_simp
  repeat' (first | go_skip | go_guarded | go_step)
  refine (named_c _ _ _ _ HR.out.2.1.cells.1 (HR.out.2.1.free 0)).mono ?_
  rintro e w2 ⟨rfl, rfl⟩
  go_simp
  repeat' (first | go_skip | go_guarded | go_step)
  have n2 := HR.out.2.1.set0 lab
  refine (valued_c _ _ _ _ _ n2.cells.2.1 n2.cells.2.2.1 (n2.free 1) (n2.free 2)).mono ?_
  rintro e w3 ⟨rfl, b3⟩
  have H3 := Lib.hid (And.intro n2 b3)
  clear n2 b3
  go_simp
  repeat' (first | go_skip | go_guarded | go_step)
  go_ret
  obtain ⟨hb1, n1, r1⟩ := HR.out
  obtain ⟨n2, b3⟩ := H3.out
  have hn := (n2.set12 true v).ext b3
  have hle : w.heap.size ≤ g := by omega
  refine ⟨_, rfl, ?_, Rep.make (ps := []) hn ?_ (Reps.nil _ _), hle⟩
  · exact Ext.trans (((hb1.setCell hle _).setCell hle _).setCell hle _) b3
  · exact (Sl.of_own (row_set (row_set (row_set r1 _ _ (Nat.lt_succ_self _)) _ _ (Nat.lt_succ_self _)) _ _ (Nat.lt_succ_self _))).below b3
end Go.Proofs.Ytaehdkgmkjhmgaa
