/- Contracts: a clone, and the sorted list. -/
import Derived.Test.YtdajhbllakmmlaaPk
namespace Go.Proofs.Ytdajhbllakmmlaa
open Go.RowKit Go.QS
set_option linter.unusedVariables false

set_option maxRecDepth 100000 in
theorem clone_c (w : World) (v : Value) (l : List Pr) (h : PS w v l) (h9 : l.length ≤ 1000000000) :
    Calls Try.prog 26 #[v] w fun e w' => ∃ v', e = .returned v' ∧ w'.ownsRow w.heap.size 40 2 v' l.length (flat l) ∧ Ext w w' := by
  obtain ⟨A, c, rfl, hl, hn, hc, hs⟩ := h
  have hnil := fun w : World => Lib.run_eql_slice_nil (P := Try.prog) w 22 40 A l.length c 0 0 Try.underlying22
  cases A with
  | none =>
    have hl0 : l = [] := by
      cases l with
      | nil => rfl
      | cons p l => obtain ⟨b, o, h, _⟩ := hs (by simp [flat_cons]); cases h
    subst hl0
    have hnil := fun w : World => Lib.run_eql_slice_nil (P := Try.prog) w 22 40 none 0 c 0 0 Try.underlying22
    go_enter Try.func26, Try.ntmps26
    repeat' go_step
    go_ret
    exact ⟨_, rfl, World.ownsRow_nil _ _ _ _, Ext.refl _⟩
  | some a =>
    go_enter Try.func26, Try.ntmps26
    repeat' (first | (at_builtin; refine wpList_appE (W := w) rfl (.tmp 5) (.tmp 6) _ rfl 40 2 32 Try.underlying22 infoP (by decide) _ 0 [] rfl (own_lit [] 0 (by decide) rfl (Nat.le_refl _)) ((Ext.refl w).alloc (Nat.le_refl _) _) _ _ c (flat l) rfl hl (hs.alloc _) (flat_one _) (by unfold maxLen; omega) (by omega) ?_; intro v1 w1 hown hb) | go_step)
    go_ret
    refine ⟨_, rfl, ?_, hb⟩
    simpa using hown

set_option maxRecDepth 100000 in
theorem ins_nil (W : World) (v : Value) : Calls Try.prog 36 #[v, .int .i64 0, .int .i64 0, cmpV] W fun e w' => e = .returned (.tuple #[]) ∧ W = w' := by
  go_enter Try.func36, Try.ntmps36
  repeat' go_step
  refine wp_loop_once ?_
  repeat' go_step
  exact bodyPost_end (results_none rfl _ _ _) rfl ⟨rfl, rfl⟩

set_option maxRecDepth 100000 in
theorem stable_nil (W : World) (v : Value) : Calls Try.prog 33 #[v, .int .i64 0, cmpV] W fun e w' => e = .returned (.tuple #[]) ∧ W = w' := by
  go_enter Try.func33, Try.ntmps33
  repeat' go_step
  refine wp_loop_once ?_
  repeat' (first | (go_at_call 36; refine (ins_nil _ _).mono ?_; rintro e w' ⟨rfl, rfl⟩; go_simp) | go_step)
  refine wp_loop_once ?_
  repeat' go_step
  exact bodyPost_end (results_none rfl _ _ _) rfl ⟨rfl, rfl⟩

/-- A row that the call owns, empty or not. -/
theorem own_cases {base : Nat} {e : TypeId} {w : World} {v : Value} {l : List Pr} (h : w.ownsRow base e 2 v l.length (flat l)) : (l = [] ∧ (v = .slice none 0 0 ∨ ∃ g cap, v = .slice (some ⟨g, 0, none⟩) 0 cap ∧ Rw base e w g cap [])) ∨ ∃ g cap, v = .slice (some ⟨g, 0, none⟩) l.length cap ∧ 0 < l.length ∧ Rw base e w g cap l := by
  rcases h.2 with ⟨rfl, h0⟩ | ⟨g, cap, cur, rfl, r⟩
  · exact .inl ⟨List.eq_nil_of_length_eq_zero h0, .inl rfl⟩
  · cases l with
    | nil => exact .inl ⟨rfl, .inr ⟨g, cap, rfl, h⟩⟩
    | cons p l => exact .inr ⟨g, cap, rfl, by simp, h⟩

set_option maxRecDepth 100000 in
theorem sortfn_c (base : Nat) (w : World) (v : Value) (l : List Pr) (h : w.ownsRow base 40 2 v l.length (flat l)) (h9 : l.length ≤ 1000000000) :
    Calls Try.prog 27 #[v, cmpV] w fun e w' => e = .returned (.tuple #[]) ∧ w'.ownsRow base 40 2 v l.length (flat (ssort l)) ∧ w.grownBy w' v.ownBlock := by
  rcases own_cases h with ⟨rfl, h1⟩ | ⟨g, cap, rfl, h1, hR⟩
  · have hv : ∃ A c, v = .slice A 0 c := by
      rcases h1 with rfl | ⟨g, cap, rfl, _⟩
      · exact ⟨_, _, rfl⟩
      · exact ⟨_, _, rfl⟩
    obtain ⟨A, c, rfl⟩ := hv
    clear h1
    go_enter Try.func27, Try.ntmps27
    repeat' (first | (go_at_call 33; refine (stable_nil _ _).mono ?_; rintro e w' ⟨rfl, rfl⟩; go_simp) | go_step)
    refine bodyPost_end (results_none rfl _ _ _) rfl ⟨rfl, ?_, World.grownBy.refl _ _⟩
    rw [ssort_nil]; exact h
  · have HC := Lib.hid (stable_c base w g cap l.length l hR rfl h9)
    clear h hR
    go_enter Try.func27, Try.ntmps27
    repeat' (first | (go_at_call 33; refine HC.out.mono ?_; rintro e w1 ⟨rfl, H1⟩; replace H1 := Lib.hid H1; go_simp) | go_step)
    refine bodyPost_end (results_none rfl _ _ _) rfl ⟨rfl, ?_, H1.out.2⟩
    have := H1.out.1
    unfold Rw at this
    rwa [ssort_length] at this
end Go.Proofs.Ytdajhbllakmmlaa
