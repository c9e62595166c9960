/- Contract: Cut. -/
import Derived.Test.YtaehdkgmkjhmgaaRf
namespace Go.Proofs.Ytaehdkgmkjhmgaa
open Go.RowKit Go.QS
set_option linter.unusedVariables false

def begD (s w : List UInt8) : Bool := s.take w.length == w
theorem begD_iff {s w : List UInt8} : begD s w = true ↔ ∃ r, s = w ++ r := by
  unfold begD
  rw [beq_iff_eq]
  constructor
  · intro h
    refine ⟨s.drop w.length, ?_⟩
    conv => lhs; rw [← List.take_append_drop w.length s, h]
  · rintro ⟨r, rfl⟩; exact List.take_left
theorem begD_le {s p : List UInt8} (h : begD s p = true) : p.length ≤ s.length := by
  obtain ⟨r, rfl⟩ := begD_iff.1 h
  simp
set_option maxRecDepth 100000 in
theorem cutD_c (w : World) (s p : List UInt8) (hs : s.length ≤ 1000000) (hp : p.length ≤ 1000000) :
    Calls Try.prog 73 #[str s, str p] w fun e w' => e = .returned (.tuple #[str (if begD s p then s.drop p.length else []), .bool (begD s p)]) ∧ w = w' := by
  have HB : Hid (Calls Try.prog 93 #[str s, str p] w fun e w' => e = .returned (.bool (begD s p)) ∧ w = w') := Lib.hid (begins_c w s p (by omega) (by omega))
  cases hb : begD s p with
  | true =>
    have hle := begD_le hb
    have hi1 : (p.length : Int) ≤ (s.length : Int) := by omega
    have hi0 : (0 : Int) ≤ (p.length : Int) := by omega
    have hdr : List.take (s.length - p.length) (s.drop p.length) = s.drop p.length := List.take_of_length_le (by simp)
    rw [hb] at HB
    clear hb
    go_enter Try.func73, Try.ntmps73
    repeat' (first | (go_at_call 93; refine HB.out.mono ?_; rintro e w1 ⟨rfl, rfl⟩; go_simp) | go_skip | go_guarded | go_step)
    go_ret2
    exact ⟨rfl, rfl⟩
  | false =>
    rw [hb] at HB
    clear hb
    go_enter Try.func73, Try.ntmps73
    repeat' (first | (go_at_call 93; refine HB.out.mono ?_; rintro e w1 ⟨rfl, rfl⟩; go_simp) | go_skip | go_guarded | go_step)
    go_ret2
    exact ⟨rfl, rfl⟩
end Go.Proofs.Ytaehdkgmkjhmgaa
