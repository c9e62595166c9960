/- Contracts: a gauge's ops, Name. -/
import Derived.Test.YtbmakajadelckaaWpb
set_option linter.unusedVariables false
set_option linter.unusedSimpArgs false
namespace Go.Proofs.Ytbmakajadelckaa
open Go.RowKit Go.QS Go.QS.Nk
set_option linter.unusedVariables false

def nmI (i : Int) : List UInt8 := if 0 ≤ i ∧ i ≤ 5 then nmO i.toNat else []
/-- What ops hands back. -/
def OpsR (w : World) (i : Int) (e : Ending) (w' : World) : Prop :=
  ∃ dv, e = .returned (.tuple #[str (nmI i), dv]) ∧ Ext w w' ∧ ((0 ≤ i ∧ i ≤ 5 ∧ DoOk w' dv i.toNat) ∨ (¬(0 ≤ i ∧ i ≤ 5) ∧ dv = .nilFunc))
set_option maxRecDepth 100000 in
theorem ops0_c (w : World) : Calls Try.prog 61 #[.int .i64 0] w (OpsR w 0) := by
  go_enter Try.func61, Try.ntmps61
  repeat' (first | go_skip | go_guarded | go_step)
  (try simp only [Exit.inBlock, Exit.then])
  go_ret2
  exact ⟨_, rfl, (Ext.refl w).alloc (Nat.le_refl _) _, .inl ⟨by decide, by decide, do0_ok _⟩⟩
set_option maxRecDepth 100000 in
theorem ops1_c (w : World) : Calls Try.prog 61 #[.int .i64 1] w (OpsR w 1) := by
  go_enter Try.func61, Try.ntmps61
  repeat' (first | go_skip | go_guarded | go_step)
  (try simp only [Exit.inBlock, Exit.then])
  go_ret2
  exact ⟨_, rfl, (Ext.refl w).alloc (Nat.le_refl _) _, .inl ⟨by decide, by decide, do1_ok _ w.heap.size (by rw [World.cell?_alloc_at _ _ _ _ rfl]; rfl)⟩⟩
set_option maxRecDepth 100000 in
theorem ops2_c (w : World) : Calls Try.prog 61 #[.int .i64 2] w (OpsR w 2) := by
  go_enter Try.func61, Try.ntmps61
  repeat' (first | go_skip | go_guarded | go_step)
  (try simp only [Exit.inBlock, Exit.then])
  go_ret2
  exact ⟨_, rfl, (Ext.refl w).alloc (Nat.le_refl _) _, .inl ⟨by decide, by decide, do2_ok _ w.heap.size (by rw [World.cell?_alloc_at _ _ _ _ rfl]; rfl)⟩⟩
set_option maxRecDepth 100000 in
theorem ops3_c (w : World) : Calls Try.prog 61 #[.int .i64 3] w (OpsR w 3) := by
  go_enter Try.func61, Try.ntmps61
  repeat' (first | go_skip | go_guarded | go_step)
  (try simp only [Exit.inBlock, Exit.then])
  go_ret2
  exact ⟨_, rfl, (Ext.refl w).alloc (Nat.le_refl _) _, .inl ⟨by decide, by decide, do3_ok _ w.heap.size (by rw [World.cell?_alloc_at _ _ _ _ rfl]; rfl)⟩⟩
set_option maxRecDepth 100000 in
theorem ops4_c (w : World) : Calls Try.prog 61 #[.int .i64 4] w (OpsR w 4) := by
  go_enter Try.func61, Try.ntmps61
  repeat' (first | go_skip | go_guarded | go_step)
  (try simp only [Exit.inBlock, Exit.then])
  go_ret2
  exact ⟨_, rfl, (Ext.refl w).alloc (Nat.le_refl _) _, .inl ⟨by decide, by decide, do4_ok _ w.heap.size (by rw [World.cell?_alloc_at _ _ _ _ rfl]; rfl)⟩⟩
set_option maxRecDepth 100000 in
theorem ops5_c (w : World) : Calls Try.prog 61 #[.int .i64 5] w (OpsR w 5) := by
  go_enter Try.func61, Try.ntmps61
  repeat' (first | go_skip | go_guarded | go_step)
  (try simp only [Exit.inBlock, Exit.then])
  go_ret2
  exact ⟨_, rfl, (Ext.refl w).alloc (Nat.le_refl _) _, .inl ⟨by decide, by decide, do5_ok _⟩⟩
set_option maxRecDepth 100000 in
theorem opsn_c (w : World) (i : Int) (hi : ¬(0 ≤ i ∧ i ≤ 5)) : Calls Try.prog 61 #[.int .i64 i] w (OpsR w i) := by
  have e0 : (i == 0) = false := by simp; omega
  have e1 : (i == 1) = false := by simp; omega
  have e2 : (i == 2) = false := by simp; omega
  have e3 : (i == 3) = false := by simp; omega
  have e4 : (i == 4) = false := by simp; omega
  have e5 : (i == 5) = false := by simp; omega
  have HI := Lib.hid hi
  clear hi
  go_enter Try.func61, Try.ntmps61
  repeat' (first | go_skip | go_guarded | go_step)
  (try simp only [Exit.inBlock, Exit.then])
  go_ret2
  exact ⟨_, by rw [nmI, if_neg HI.out]; rfl, (Ext.refl w).alloc (Nat.le_refl _) _, .inr ⟨HI.out, rfl⟩⟩
theorem ops_c (w : World) (i : Int) : Calls Try.prog 61 #[.int .i64 i] w (OpsR w i) := by
  by_cases h : 0 ≤ i ∧ i ≤ 5
  · obtain ⟨n, rfl⟩ : ∃ n : Nat, i = n := ⟨i.toNat, by omega⟩
    match n, h with
    | 0, _ => exact ops0_c w
    | 1, _ => exact ops1_c w
    | 2, _ => exact ops2_c w
    | 3, _ => exact ops3_c w
    | 4, _ => exact ops4_c w
    | 5, _ => exact ops5_c w
    | n + 6, h => omega
  · exact opsn_c w i h
set_option maxRecDepth 100000 in
theorem name_c (w : World) (i : Int) : Calls Try.prog 27 #[.int .i64 i] w fun e w' => e = .returned (str (nmI i)) ∧ Ext w w' := by
  go_enter Try.func27, Try.ntmps27
  repeat' (first | go_at_call 61 | go_skip | go_guarded | go_step)
  refine (ops_c w i).mono ?_
  rintro e w1 ⟨dv, rfl, f1, _⟩
  replace f1 := Lib.hid f1
  go_simp
  repeat' (first | go_skip | go_guarded | go_step)
  go_ret
  exact ⟨rfl, f1.out⟩
end Go.Proofs.Ytbmakajadelckaa
