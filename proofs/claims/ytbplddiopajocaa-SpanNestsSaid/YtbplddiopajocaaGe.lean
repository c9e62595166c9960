/- Contracts: span.Each, Pairs, Count. -/
import Derived.Test.YtbplddiopajocaaGc
import Derived.Test.YtbplddiopajocaaGd
import Derived.Test.YtbplddiopajocaaSk
import Derived.Test.YtbplddiopajocaaDk
set_option linter.unusedVariables false
set_option linter.unusedSimpArgs false
namespace Go.Proofs.Ytbplddiopajocaa
open Go Go.RowKit Go.QS
set_option linter.unusedVariables false

/-- What span.Each hands back: a closure over three boxes. -/
def EachAt (w : World) (v : Value) (p0 : Option Addr) (s : Sp) (back : Bool) : Prop :=
  ∃ k0 k1 k2, v = .func (.func 50) #[] #[ptr k0, ptr k1, ptr k2] ∧ EachBx w k0 k1 k2 p0 s back

set_option maxRecDepth 100000 in
theorem each_c (w : World) (p0 : Option Addr) (s : Sp) (back : Bool) :
    Calls Try.prog 26 #[.pointer p0, s.v, .bool back] w fun e w' => ∃ v, e = .returned v ∧ EachAt w' v p0 s back ∧ Ext w w' := by
  obtain ⟨f, tt, o⟩ := s
  go_enter Try.func26, Try.ntmps26
  repeat' (first | go_skip | go_guarded | go_step)
  go_ret
  have e1 : Ext w (w.alloc (.cells #[.pointer p0] 26)) := (Ext.refl w).alloc (Nat.le_refl _) _
  have e2 := e1.alloc e1.size (.cells #[str f, str tt, .bool o] 42)
  have e3 := e2.alloc e2.size (.cells #[.bool back] 4)
  have f2 : Ext (w.alloc (.cells #[.pointer p0] 26)) (((w.alloc (.cells #[.pointer p0] 26)).alloc (.cells #[str f, str tt, .bool o] 42)).alloc (.cells #[.bool back] 4)) := ((Ext.refl _).alloc (Nat.le_refl _) _).alloc (by simp) _
  have f3 : Ext ((w.alloc (.cells #[.pointer p0] 26)).alloc (.cells #[str f, str tt, .bool o] 42)) (((w.alloc (.cells #[.pointer p0] 26)).alloc (.cells #[str f, str tt, .bool o] 42)).alloc (.cells #[.bool back] 4)) := (Ext.refl _).alloc (Nat.le_refl _) _
  have h1 := box_extG (heap_newG w (.cells #[.pointer p0] 26)) f2
  have h2 := box_extG (heap_newG (w.alloc (.cells #[.pointer p0] 26)) (.cells #[str f, str tt, .bool o] 42)) f3
  have h3 := heap_newG ((w.alloc (.cells #[.pointer p0] 26)).alloc (.cells #[str f, str tt, .bool o] 42)) (.cells #[.bool back] 4)
  simp only [World.size_alloc] at h1 h2 h3
  refine ⟨_, rfl, ⟨_, _, _, rfl, ⟨?_, h2, ?_⟩⟩, e3⟩
  · rw [cellG h1]; rfl
  · rw [cellG h3]; rfl

set_option maxRecDepth 100000 in
theorem spairs_c (w : World) (p0 : Option Addr) (r0 : List Wn) (s : Sp) (L : List Pr) (hr : RootAt w p0 r0) (hG : Good r0) (hw : wt r0 ≤ 1000000) (hs9 : s.f.length ≤ 1000) (hL : L = com s false r0) (hL9 : L.length ≤ 1000000) :
    Calls Try.prog 25 #[.pointer p0, s.v] w fun e w' => ∃ v', e = .returned v' ∧ w'.ownsRow w.heap.size 24 2 v' L.length (flat L) ∧ Ext w w' := by
  obtain ⟨f, tt, o⟩ := s
  have HR := Lib.hid (And.intro hr (And.intro hG hL))
  clear hr hG hL
  go_enter Try.func25, Try.ntmps25
  repeat' (first
    | (go_at_call 26; refine (each_c _ p0 ⟨f, tt, o⟩ false).mono ?_; rintro e w1 ⟨v1, rfl, ⟨k0, k1, k2, rfl, hk⟩, h1⟩; replace hk := Lib.hid hk; replace h1 := Lib.hid (Ext.trans ((Ext.refl w).alloc (Nat.le_refl _) _) h1); go_simp)
    | (go_at_call 49
       refine (collect_c w1 tauS tauS_pr tauS_prs 50 _ each_enters L hL9 _ ((each_seq 4 (by decide) w1 p0 r0 ⟨f, tt, o⟩ false k0 k1 k2 L (HR.out.1.ext h1.out) HR.out.2.1 hw hs9 HR.out.2.2).pre (fun W hW => ⟨hW, hk.out.ext hW⟩))).mono ?_
       rintro e w2 ⟨v2, rfl, h2, h3⟩; replace h2 := Lib.hid h2; replace h3 := Lib.hid h3; go_simp)
    | go_skip | go_guarded | go_step)
  go_ret
  exact ⟨_, rfl, own_lower h2.out h1.out.size, Ext.trans h1.out h3.out⟩

set_option maxRecDepth 100000 in
theorem scount_c (w : World) (p0 : Option Addr) (r0 : List Wn) (s : Sp) (L : List Pr) (hr : RootAt w p0 r0) (hG : Good r0) (hw : wt r0 ≤ 1000000) (hs9 : s.f.length ≤ 1000) (hL : L = com s false r0) (hL9 : L.length ≤ 1000000) :
    Calls Try.prog 24 #[.pointer p0, s.v] w fun e w' => e = .returned (.int .i64 L.length) ∧ Ext w w' := by
  have HP := fun w' (h : Ext w w') => spairs_c w' p0 r0 s L (hr.ext h) hG hw hs9 hL hL9
  have HP' := Lib.hid HP
  obtain ⟨f, tt, o⟩ := s
  clear hr hG hL HP
  go_enter Try.func24, Try.ntmps24
  repeat' (first
    | (go_at_call 25; refine (HP'.out _ ((Ext.refl w).alloc (Nat.le_refl _) _)).mono ?_; rintro e w1 ⟨v1, rfl, h1, h2⟩; obtain ⟨A1, C1, rfl⟩ := own_slice h1; replace h2 := Lib.hid (Ext.trans ((Ext.refl w).alloc (Nat.le_refl _) _) h2); clear h1; go_simp)
    | go_skip | go_guarded | go_step)
  go_ret
  exact ⟨rfl, h2.out⟩
end Go.Proofs.Ytbplddiopajocaa
