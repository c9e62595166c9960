/- RadixVersions' words: roots and their lists, grown by append, while trees stand. -/
import Derived.Test.YtmpeniboccahdaaVr
import Derived.Test.YtmpeniboccahdaaMi
namespace Go.Proofs.Ytmpeniboccahdaa
open Go.RowKit Go.QS
set_option linter.unusedVariables false

abbrev NP : TypeId := 26
abbrev LP : TypeId := 28
def FN (u : Value) : Prop := u = .pointer none
def FL (u : Value) : Prop := u = .slice none 0 0
theorem fn_ptr (g : Nat) : ¬ FN (ptr g) := fun h => by cases h
theorem fn_str (s : List UInt8) : ¬ FN (str s) := fun h => by cases h
theorem fl_ptr (g : Nat) : ¬ FL (ptr g) := fun h => by cases h
theorem fl_str (s : List UInt8) : ¬ FL (str s) := fun h => by cases h
theorem infoN : ∃ i z, Try.prog.info? NP = some i ∧ i.zero = some z ∧ i.size = 1 ∧ i.bytes = 8 ∧ z.cells.size = 1 ∧ ∀ u ∈ z.cells, FN u :=
  info_ofZ (z := .pointer none) (by kernel_rfl) rfl (fun u hu => by simpa [Value.cells, FN] using hu)
theorem infoL : ∃ i z, Try.prog.info? LP = some i ∧ i.zero = some z ∧ i.size = 1 ∧ i.bytes = 24 ∧ z.cells.size = 1 ∧ ∀ u ∈ z.cells, FL u :=
  info_ofZ (z := .slice none 0 0) (by kernel_rfl) rfl (fun u hu => by simpa [Value.cells, FL] using hu)
theorem keep2c {w w' : World} {a1 a2 : Addr} {u1 u2 : Value} (f : Ext w w') (h : w.cell? a1 = some u1 ∧ w.cell? a2 = some u2) : w'.cell? a1 = some u1 ∧ w'.cell? a2 = some u2 :=
  ⟨(f.cell (World.block_lt_of_cell? w _ h.1)).trans h.1, (f.cell (World.block_lt_of_cell? w _ h.2)).trans h.2⟩
theorem keep2t {F : Value → Prop} {e : TypeId} {w w' : World} {a1 a2 : Addr} {u1 u2 : Value} (f : Turn F e w w') (h : w.cell? a1 = some u1 ∧ w.cell? a2 = some u2) (h1 : ¬ F u1) (h2 : ¬ F u2) : w'.cell? a1 = some u1 ∧ w'.cell? a2 = some u2 :=
  ⟨f.cell h.1 h1, f.cell h.2 h2⟩

theorem one_new (w : World) (u : Value) (e : TypeId) : (w.alloc (.cells #[u] e)).cell? ⟨w.heap.size, 0, none⟩ = some u := by rw [World.cell?_alloc_at _ _ _ _ rfl]; rfl
theorem one_newD (w : World) (u : Value) (e : TypeId) : (w.alloc (.cells #[u] e)).drew.cell? ⟨w.heap.size, 0, none⟩ = some u := one_new w u e

/-- Versions: roots in one row, their lists in another; each tree has just its list's pairs. -/
structure Vers (W w : World) (v3 v4 : Value) (gs : List Nat) (us : List Value) : Prop where
  ext : Ext W w
  roots : ZR FN W.heap.size NP w v3 (ptrs gs)
  lists : ZR FL W.heap.size LP w v4 us
  len : gs.length = us.length
  has : ∀ (k g : Nat) (u : Value), gs[k]? = some g → us[k]? = some u → ∃ T X, Rep NT w g T ∧ Ok T X ∧ PS w u X ∧ X.length + 1 ≤ gs.length
theorem Vers.ext' {W w w' : World} {v3 v4 : Value} {gs : List Nat} {us : List Value} (h : Vers W w v3 v4 gs us) (f : Ext w w') : Vers W w' v3 v4 gs us :=
  ⟨h.ext.trans f, h.roots.ext f, h.lists.ext f, h.len, fun k g u h1 h2 => by
    obtain ⟨T, X, a, b, c, d⟩ := h.has k g u h1 h2
    exact ⟨T, X, a.ext f, b, c.below f, d⟩⟩
theorem Vers.lists3 {W w w1 w2 w3 : World} {v3 v4 : Value} {gs : List Nat} {us : List Value} (h : Vers W w v3 v4 gs us) (e1 : Ext w w1) (t2 : Turn FN NP w1 w2) (e3 : Ext w2 w3) : ZR FL W.heap.size LP w3 v4 us :=
  ((h.lists.ext e1).turn t2 (by decide)).ext e3
theorem Vers.snoc {W w w1 w2 w3 w4 : World} {v3 v4 v3' v4' u : Value} {gs : List Nat} {us : List Value} {g : Nat} {t : RT} {Y : List Pr} (h : Vers W w v3 v4 gs us) (e1 : Ext w w1) (r1 : Rep NT w1 g t) (o1 : Ok t Y)
    (z2 : ZR FN W.heap.size NP w2 v3' (ptrs gs ++ [ptr g])) (t2 : Turn FN NP w1 w2) (e3 : Ext w2 w3) (p3 : PS w3 u Y) (hl : Y.length ≤ gs.length)
    (z4 : ZR FL W.heap.size LP w4 v4' (us ++ [u])) (t4 : Turn FL LP w3 w4) (b4 : Ext W w4) : Vers W w4 v3' v4' (gs ++ [g]) (us ++ [u]) := by
  have hrep : ∀ {g : Nat} {t : RT}, Rep NT w1 g t → Rep NT w4 g t := fun r => t4.rep fl_ptr (by decide) ((t2.rep fn_ptr (by decide) r).ext e3)
  refine ⟨b4, ?_, z4, by simp [h.len], fun k g' u' h1 h2 => ?_⟩
  · have : ptrs (gs ++ [g]) = ptrs gs ++ [ptr g] := by simp [ptrs]
    rw [this]
    exact (z2.ext e3).turn t4 (by decide)
  · rcases Nat.lt_or_ge k gs.length with hk | hk
    · rw [List.getElem?_append_left hk] at h1
      rw [List.getElem?_append_left (by rw [← h.len]; exact hk)] at h2
      obtain ⟨T, X, a, b, c, d⟩ := h.has k g' u' h1 h2
      exact ⟨T, X, hrep (a.ext e1), b, t4.ps ((t2.ps (c.below e1) fn_str).below e3) fl_str, by simp; omega⟩
    · rw [List.getElem?_append_right hk] at h1
      rw [List.getElem?_append_right (by rw [← h.len]; exact hk)] at h2
      have e : k - gs.length = 0 := by
        have := (List.getElem?_eq_some_iff.1 h1).1
        simpa using this
      rw [e] at h1
      rw [show k - us.length = 0 by rw [← h.len]; exact e] at h2
      cases h1
      cases h2
      exact ⟨t, Y, hrep r1, o1, t4.ps p3 fl_str, by simp; omega⟩
theorem zr_open {F : Value → Prop} {base : Nat} {e : TypeId} {w : World} {v : Value} {xs : List Value} (h : ZR F base e w v xs) (h0 : 0 < xs.length) : ∃ g c, v = .slice (some ⟨g, 0, none⟩) xs.length c := by
  rcases h.1.2 with ⟨_, h2⟩ | ⟨g, c, cur, h2, _⟩
  · omega
  · exact ⟨g, c, h2⟩
theorem Vers.open {W w : World} {v3 v4 : Value} {gs : List Nat} {us : List Value} (h : Vers W w v3 v4 gs us) (h0 : 0 < gs.length) : ∃ gr rc gl lc, v3 = .slice (some ⟨gr, 0, none⟩) gs.length rc ∧ v4 = .slice (some ⟨gl, 0, none⟩) gs.length lc := by
  obtain ⟨gr, rc, e1⟩ := zr_open h.roots (by simpa using h0)
  obtain ⟨gl, lc, e2⟩ := zr_open h.lists (by rw [← h.len]; exact h0)
  rw [ptrs_length] at e1
  rw [← h.len] at e2
  exact ⟨gr, rc, gl, lc, e1, e2⟩
theorem emptyO_c (w : World) : Calls Try.prog 12 #[] w fun e w' => ∃ g, e = .returned (ptr g) ∧ Ext w w' ∧ Rep NT w' g (RT.node [] none []) := by
  refine (empty_c w).mono ?_
  rintro e w' ⟨rfl, rfl⟩
  exact ⟨_, rfl, (Ext.refl _).alloc (Nat.le_refl _) _, empty_rep w⟩
theorem Vers.start {W w : World} {g : Nat} (hE : Ext W w) (r : Rep NT w g (RT.node [] none [])) :
    Vers W ((w.alloc (.cells #[ptr g] NP)).alloc (.cells #[.slice none 0 0] LP)) (.slice (some ⟨w.heap.size, 0, none⟩) 1 1) (.slice (some ⟨w.heap.size + 1, 0, none⟩) 1 1) [g] [.slice none 0 0] := by
  have e1 : Ext w (w.alloc (.cells #[ptr g] NP)) := (Ext.refl _).alloc (Nat.le_refl _) _
  have e2 : Ext w ((w.alloc (.cells #[ptr g] NP)).alloc (.cells #[.slice none 0 0] LP)) := e1.trans ((Ext.refl _).alloc (Nat.le_refl _) _)
  have z1 : ZR FN W.heap.size NP (w.alloc (.cells #[ptr g] NP)) (.slice (some ⟨w.heap.size, 0, none⟩) 1 1) [ptr g] := ZR.one FN NP w _ hE.size
  have z2 : ZR FL W.heap.size LP ((w.alloc (.cells #[ptr g] NP)).alloc (.cells #[.slice none 0 0] LP)) (.slice (some ⟨(w.alloc (.cells #[ptr g] NP)).heap.size, 0, none⟩) 1 1) [.slice none 0 0] := ZR.one FL LP _ _ (hE.trans e1).size
  have hs : (w.alloc (.cells #[ptr g] NP)).heap.size = w.heap.size + 1 := by simp
  rw [hs] at z2
  refine ⟨hE.trans e2, z1.ext ((Ext.refl _).alloc (Nat.le_refl _) _), z2, rfl, fun k g' u h1 h2 => ?_⟩
  match k with
  | 0 =>
    cases h1
    cases h2
    exact ⟨_, [], r.ext e2, Ok.nil, Sl.nil _ _, by simp⟩
  | k + 1 => simp at h1
theorem sl_one {w : World} {u : Value} {k n : Nat} {xs : List Value} (h : Sl w k u n xs) : u.oneCell' = true ∧ ¬ FN u := by
  obtain ⟨A, c, rfl, _⟩ := h
  exact ⟨rfl, fun h => by cases h⟩
end Go.Proofs.Ytmpeniboccahdaa
