/- Contracts of spans: Has, past, All. -/
import Derived.Test.YtbplddiopajocaaSa
set_option linter.unusedVariables false
set_option linter.unusedSimpArgs false
namespace Go.Proofs.Ytbplddiopajocaa
open Go.RowKit Go.QS
set_option linter.unusedVariables false

/-- A span. -/
structure Sp where
  f : List UInt8
  t : List UInt8
  o : Bool
abbrev Sp.v (s : Sp) : Value := .agg #[str s.f, str s.t, .bool s.o]
def Sp.has (s : Sp) (k : List UInt8) : Bool := !decide (k < s.f) && (s.o || decide (k < s.t))
def Sp.past (s : Sp) (k : List UInt8) : Bool := (!s.o && !decide (k < s.t)) || (decide (k < s.f) && !begins s.f k)

set_option maxRecDepth 100000 in
theorem shas_c (w : World) (s : Sp) (k : List UInt8) :
    Calls Try.prog 30 #[s.v, str k] w fun e w' => e = .returned (.bool (s.has k)) ∧ Ext w w' := by
  obtain ⟨f, t, o⟩ := s
  unfold Sp.has
  by_cases h1 : k < f
  · have d1 : Op.bytesLess k f = true := by rw [bless]; simp [h1]
    have h2 : True := trivial
    cases o <;>
    · go_enter Try.func30, Try.ntmps30
      repeat' (first | go_skip | go_guarded | go_step)
      go_ret
      refine ⟨?_, (Ext.refl w).alloc (Nat.le_refl _) _⟩
      simp [h1]
  · have d1 : Op.bytesLess k f = false := by rw [bless]; simp [h1]
    by_cases h2 : k < t
    · have d2 : Op.bytesLess k t = true := by rw [bless]; simp [h2]
      cases o <;>
      · go_enter Try.func30, Try.ntmps30
        repeat' (first | go_skip | go_guarded | go_step)
        go_ret
        refine ⟨?_, (Ext.refl w).alloc (Nat.le_refl _) _⟩
        simp [h1, h2]
    · have d2 : Op.bytesLess k t = false := by rw [bless]; simp [h2]
      cases o <;>
      · go_enter Try.func30, Try.ntmps30
        repeat' (first | go_skip | go_guarded | go_step)
        go_ret
        refine ⟨?_, (Ext.refl w).alloc (Nat.le_refl _) _⟩
        simp [h1, h2]

set_option maxRecDepth 100000 in
theorem spast_c (w : World) (s : Sp) (k : List UInt8) (hf : s.f.length ≤ 9223372036854775807) (hk : k.length ≤ 9223372036854775807) :
    Calls Try.prog 75 #[s.v, str k] w fun e w' => e = .returned (.bool (s.past k)) ∧ Ext w w' := by
  obtain ⟨f, t, o⟩ := s
  unfold Sp.past
  have HB := Lib.hid (fun W => begins_c W f k hf hk)
  clear hf hk
  by_cases h2 : k < t
  · have d2 : Op.bytesLess k t = true := by rw [bless]; simp [h2]
    by_cases h1 : k < f
    · have d1 : Op.bytesLess k f = true := by rw [bless]; simp [h1]
      cases hb : begins f k <;> cases o <;> rw [hb] at HB <;>
      · go_enter Try.func75, Try.ntmps75
        repeat' (first | (go_at_call 90; refine (HB.out _).mono ?_; rintro e w1 ⟨rfl, rfl⟩; go_simp) | go_skip | go_guarded | go_step)
        go_ret
        refine ⟨?_, (Ext.refl w).alloc (Nat.le_refl _) _⟩
        simp [h1, h2]
    · have d1 : Op.bytesLess k f = false := by rw [bless]; simp [h1]
      cases o <;>
      · go_enter Try.func75, Try.ntmps75
        repeat' (first | go_skip | go_guarded | go_step)
        go_ret
        refine ⟨?_, (Ext.refl w).alloc (Nat.le_refl _) _⟩
        simp [h1, h2]
  · have d2 : Op.bytesLess k t = false := by rw [bless]; simp [h2]
    cases o with
    | false =>
      go_enter Try.func75, Try.ntmps75
      repeat' (first | go_skip | go_guarded | go_step)
      go_ret
      refine ⟨?_, (Ext.refl w).alloc (Nat.le_refl _) _⟩
      simp [h2]
    | true =>
      by_cases h1 : k < f
      · have d1 : Op.bytesLess k f = true := by rw [bless]; simp [h1]
        cases hb : begins f k <;> rw [hb] at HB <;>
        · go_enter Try.func75, Try.ntmps75
          repeat' (first | (go_at_call 90; refine (HB.out _).mono ?_; rintro e w1 ⟨rfl, rfl⟩; go_simp) | go_skip | go_guarded | go_step)
          go_ret
          refine ⟨?_, (Ext.refl w).alloc (Nat.le_refl _) _⟩
          simp [h1, h2]
      · have d1 : Op.bytesLess k f = false := by rw [bless]; simp [h1]
        go_enter Try.func75, Try.ntmps75
        repeat' (first | go_skip | go_guarded | go_step)
        go_ret
        refine ⟨?_, (Ext.refl w).alloc (Nat.le_refl _) _⟩
        simp [h1, h2]
end Go.Proofs.Ytbplddiopajocaa
