/- Contracts: the document's Has; SpanHas. -/
import Derived.Test.YtbplddiopajocaaSl
set_option linter.unusedVariables false
set_option linter.unusedSimpArgs false
namespace Go.Proofs.Ytbplddiopajocaa
open Go.RowKit Go.QS
set_option linter.unusedVariables false

set_option maxRecDepth 100000 in
set_option maxHeartbeats 2000000 in
theorem rhas_c (w : World) (s : Sp) (k : List UInt8) (hk : k.length ≤ 9223372036854775807) :
    Calls Try.prog 48 #[str s.f, str s.t, .bool s.o, str k] w fun e w' => e = .returned (.bool (s.has k)) ∧ Ext w w' := by
  obtain ⟨f, t, o⟩ := s
  unfold Sp.has
  have H1 := Lib.hid (fun W => less_c' W k f hk)
  have H2 := Lib.hid (fun W => less_c' W k t hk)
  clear hk
  cases h1 : decide (k < f) with
  | true =>
    rw [h1] at H1
    go_enter Try.func48, Try.ntmps48
    repeat' (first | (go_at_call 45; refine (H1.out _).mono ?_; rintro e w1 ⟨rfl, f1⟩; replace f1 := Lib.hid f1; go_simp) | go_skip | go_guarded | go_step)
    go_ret
    exact ⟨rfl, f1.out⟩
  | false =>
    rw [h1] at H1
    cases o with
    | true =>
      go_enter Try.func48, Try.ntmps48
      repeat' (first | (go_at_call 45; refine (H1.out _).mono ?_; rintro e w1 ⟨rfl, f1⟩; replace f1 := Lib.hid f1; go_simp) | go_skip | go_guarded | go_step)
      go_ret
      exact ⟨rfl, f1.out⟩
    | false =>
      cases h2 : decide (k < t) <;> rw [h2] at H2 <;>
      · go_enter Try.func48, Try.ntmps48
        repeat' (first | go_at_call 45 | go_skip | go_guarded | go_step)
        refine (H1.out _).mono ?_
        rintro e w1 ⟨rfl, f1⟩
        replace f1 := Lib.hid f1
        go_simp
        repeat' (first | go_at_call 45 | go_skip | go_guarded | go_step)
        refine (H2.out _).mono ?_
        rintro e w2 ⟨rfl, f2⟩
        replace f2 := Lib.hid f2
        go_simp
        repeat' (first | go_skip | go_guarded | go_step)
        go_ret
        exact ⟨rfl, Ext.trans f1.out f2.out⟩

theorem keep3 {w w' : World} {g : Nat} {u0 u1 u2 : Value} (f : Ext w w') (h : w.cell? ⟨g, 0, none⟩ = some u0 ∧ w.cell? ⟨g, 1, none⟩ = some u1 ∧ w.cell? ⟨g, 2, none⟩ = some u2) : w'.cell? ⟨g, 0, none⟩ = some u0 ∧ w'.cell? ⟨g, 1, none⟩ = some u1 ∧ w'.cell? ⟨g, 2, none⟩ = some u2 :=
  ⟨(f.cell (World.block_lt_of_cell? w _ h.1)).trans h.1, (f.cell (World.block_lt_of_cell? w _ h.2.1)).trans h.2.1, (f.cell (World.block_lt_of_cell? w _ h.2.2)).trans h.2.2⟩
end Go.Proofs.Ytbplddiopajocaa
