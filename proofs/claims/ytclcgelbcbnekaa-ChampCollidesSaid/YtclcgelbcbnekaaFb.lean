/- The document's trie in memory; its hash. -/
import Derived.Test.YtclcgelbcbnekaaFa
import Derived.Test.YtclcgelbcbnekaaBr
import Derived.Test.YtclcgelbcbnekaaHs
import Derived.Deep.LoopGhost
set_option linter.unusedVariables false
set_option linter.unusedSimpArgs false
namespace Go.Proofs.Ytclcgelbcbnekaa
open Go.RowKit Go.QS Go.QS.Nk
set_option linter.unusedVariables false
variable [Zero (Nat → Prop)]
set_option linter.unusedSectionVars false

abbrev TT : TypeId := 224
abbrev RP : TypeId := 51
abbrev U64 : TypeId := 88
theorem infoRP : ∃ i z, Try.prog.info? 51 = some i ∧ i.zero = some z ∧ i.size = 2 ∧ i.bytes = 32 ∧ z.cells.size = 2 := info_of (z := .agg #[str [], str []]) (by kernel_rfl) rfl
theorem infoU : ∃ i z, Try.prog.info? 88 = some i ∧ i.zero = some z ∧ i.size = 1 ∧ i.bytes = 8 ∧ z.cells.size = 1 := info_of (z := .int .u64 0) (by kernel_rfl) rfl
/-- A chunk's entry. -/
def EntOk (R : Nat → List Pr → Prop) (A : Array Value) (c : Nat) (x : List Pr) : Prop :=
  (x = [] ∧ A[2 + c]? = some (.int .i64 0)) ∨ (∃ p, x = [p] ∧ A[2 + c]? = some (.int .i64 1) ∧ A[34 + 2 * c]? = some (str p.1) ∧ A[35 + 2 * c]? = some (str p.2)) ∨ (2 ≤ x.length ∧ ∃ q, A[2 + c]? = some (.int .i64 2) ∧ A[98 + c]? = some (ptr q) ∧ R q x)
theorem EntOk.mono {R R' : Nat → List Pr → Prop} {A : Array Value} {c : Nat} {x : List Pr} (h : EntOk R A c x) (hR : ∀ q, R q x → R' q x) : EntOk R' A c x := by
  rcases h with h | h | ⟨h1, q, h2, h3, h4⟩
  · exact .inl h
  · exact .inr (.inl h)
  · exact .inr (.inr ⟨h1, q, h2, h3, hR q h4⟩)
theorem EntOk.other {R : Nat → List Pr → Prop} {A A' : Array Value} {c c' : Nat} {x : List Pr} (h : EntOk R A c' x) (hc : c < 32) (hc' : c' < 32) (hne : c' ≠ c) (ha : ∀ j, j ≠ 2 + c → j ≠ 34 + 2 * c → j ≠ 35 + 2 * c → j ≠ 98 + c → A'[j]? = A[j]?) : EntOk R A' c' x := by
  have e1 := ha (2 + c') (by omega) (by omega) (by omega) (by omega)
  have e2 := ha (34 + 2 * c') (by omega) (by omega) (by omega) (by omega)
  have e3 := ha (35 + 2 * c') (by omega) (by omega) (by omega) (by omega)
  have e4 := ha (98 + c') (by omega) (by omega) (by omega) (by omega)
  unfold EntOk
  rw [e1, e2, e3, e4]
  exact h
/-- The document's trie of these pairs, of so many levels more. -/
def DR (H : List UInt8 → Nat) (w : World) : Nat → Nat → List Pr → Prop
  | 0, q, l => ∃ A v, w.heap[q]? = some (.cells A TT (0, 0)) ∧ A[0]? = some (.bool true) ∧ A[1]? = some v ∧ PS w v l ∧ ∀ c, c < 32 → A[2 + c]? = some (.int .i64 0)
  | f + 1, q, l => ∃ A, w.heap[q]? = some (.cells A TT (0, 0)) ∧ A[0]? = some (.bool false) ∧ (∀ c, c < 32 → EntOk (DR H w f) A c (Go.QS.part H (12 - f) c l)) ∧ A[1]? = some (.slice none 0 0)
theorem DR.ext {H : List UInt8 → Nat} {w w' : World} (h : Ext w w') : ∀ (f : Nat) {q : Nat} {l : List Pr}, DR H w f q l → DR H w' f q l
  | 0, q, l, ⟨A, v, h1, h2, h3, h4, h5⟩ => ⟨A, v, (h.block q (heap_lt h1)).trans h1, h2, h3, h4.below h, h5⟩
  | f + 1, q, l, ⟨A, h1, h2, h3, h4⟩ => ⟨A, (h.block q (heap_lt h1)).trans h1, h2, fun c hc => (h3 c hc).mono fun q' hq => DR.ext h f hq, h4⟩
set_option maxRecDepth 100000 in
set_option maxHeartbeats 1000000 in
theorem rhash_c (w : World) (h : Hs) (s : List UInt8) (hk : h.Ok) (hs : s.length ≤ 1000000000) :
    Calls Try.prog 145 #[hsV h, str s] w fun e w' => e = .returned (.int .u64 (h.hash s)) ∧ Ext w w' := by
  obtain ⟨a0, a1, mk⟩ := h
  obtain ⟨l0, l1, l2⟩ := hk
  simp only at l0 l1 l2
  have hA := bits_and_u64_nat (sipN a0 a1 s) mk (sipN_lt l0 l1 s) l2
  have HC := Lib.hid (fun W => rsum_c W a0 a1 s l0 l1 hs)
  obtain ⟨x, hx⟩ : ∃ x, x = sipN a0 a1 s := ⟨_, rfl⟩
  have HX := Lib.hid hx
  rw [← hx] at hA HC
  clear hx
  go_enter Try.func145, Try.ntmps145
  repeat' (go_not_at_region 1; (first | go_skip | go_guarded | go_step))
  obtain ⟨g, hg⟩ : ∃ g, g = w.heap.size := ⟨_, rfl⟩
  have hgw : w.heap.size ≤ g := by omega
  rw [← hg]
  refine wp_named (fun w' => w'.cell? ⟨g, 0, none⟩ = some (.int .u64 a0) ∧ w'.cell? ⟨g, 1, none⟩ = some (.int .u64 a1) ∧ w'.cell? ⟨g, 2, none⟩ = some (.int .u64 mk) ∧ Ext w w') ⟨?_, ?_, ?_, (Ext.refl w).alloc (Nat.le_refl _) _⟩ ?_
  · rw [World.cell?_alloc_at _ _ _ _ (by simp [hg])]; rfl
  · rw [World.cell?_alloc_at _ _ _ _ (by simp [hg])]; rfl
  · rw [World.cell?_alloc_at _ _ _ _ (by simp [hg])]; rfl
  clear hg
  intro wa HW
  obtain ⟨q0, q1, q2, qe⟩ := HW.out
  have HK : Hid (_ ∧ _ ∧ _) := Lib.hid ⟨q0, q1, q2⟩
  clear qe
  go_region_held3 (fun w' => w'.cell? ⟨g, 0, none⟩ = some (.int .u64 a0) ∧ w'.cell? ⟨g, 1, none⟩ = some (.int .u64 a1) ∧ w'.cell? ⟨g, 2, none⟩ = some (.int .u64 mk))
    (first | exact keep3h e1.out HK.out | exact keep3h (below_drewN (Ext.refl _) 1) HK.out)
    ((go_at_call 167; refine (HC.out _).mono ?_; rintro e x1 ⟨rfl, f1⟩; have e1 : Hid (Ext wa x1) := Lib.hid (Ext.trans (below_drewN (Ext.refl _) 1) f1); clear f1))
  repeat' (first | go_skip | go_guarded | go_step)
  go_ret
  exact ⟨by rw [show Hs.hash ⟨a0, a1, mk⟩ s = x &&& mk by rw [HX.out]; rfl]; rfl, HW.out.2.2.2.trans e1.out⟩
end Go.Proofs.Ytclcgelbcbnekaa
