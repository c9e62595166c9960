/- The keys that begin with one, and those that go on by each byte: plain. -/
import Derived.Test.YtbplddiopajocaaSpa
import Derived.Test.YtbplddiopajocaaGq
set_option linter.unusedVariables false
set_option linter.unusedSimpArgs false
namespace Go.Proofs.Ytbplddiopajocaa
open Go.RowKit Go.QS
set_option linter.unusedVariables false

theorem begins_iff {s p : List UInt8} : begins s p = true ↔ ∃ r, s = p ++ r := by
  unfold begins
  rw [beq_iff_eq]
  constructor
  · intro h
    refine ⟨s.drop p.length, ?_⟩
    have := (List.take_append_drop p.length s).symm
    rw [h] at this
    exact this
  · rintro ⟨r, rfl⟩
    exact List.take_left

/-- Those of a list whose keys begin so. -/
def bgn (X : List Pr) (p : List UInt8) : List Pr := X.filter fun q => begins q.1 p
theorem mem_bgn {X : List Pr} {p : List UInt8} {q : Pr} : q ∈ bgn X p ↔ q ∈ X ∧ ∃ r, q.1 = p ++ r := by
  unfold bgn
  rw [List.mem_filter, begins_iff]
/-- Those whose keys go on by one of the first n bytes. -/
def gos (X : List Pr) (p : List UInt8) : Nat → List Pr
  | 0 => []
  | n + 1 => gos X p n ++ bgn X (p ++ [UInt8.ofNat n])
theorem mem_gos {X : List Pr} {p : List UInt8} {q : Pr} : ∀ {n : Nat}, q ∈ gos X p n ↔ q ∈ X ∧ ∃ b r, b < n ∧ q.1 = p ++ UInt8.ofNat b :: r
  | 0 => by simp [gos]
  | n + 1 => by
    simp only [gos, List.mem_append, mem_gos (n := n), mem_bgn]
    constructor
    · rintro (⟨h1, b, r, h2, h3⟩ | ⟨h1, r, h3⟩)
      · exact ⟨h1, b, r, by omega, h3⟩
      · exact ⟨h1, n, r, by omega, by rw [h3]; simp⟩
    · rintro ⟨h1, b, r, h2, h3⟩
      by_cases hb : b = n
      · subst hb
        exact .inr ⟨h1, r, by rw [h3]; simp⟩
      · exact .inl ⟨h1, b, r, by omega, h3⟩
theorem bgn_rise {X : List Pr} (h : Rise X) (p : List UInt8) : Rise (bgn X p) := List.Pairwise.filter _ h
theorem gos_rise {X : List Pr} (h : Rise X) (p : List UInt8) : ∀ {n : Nat}, n ≤ 256 → Rise (gos X p n)
  | 0, _ => by simp [gos, Rise]
  | n + 1, hn => by
    refine rise_append (gos_rise h p (by omega)) (bgn_rise h _) fun a ha c hc => ?_
    obtain ⟨_, b, r, hb, e1⟩ := mem_gos.1 ha
    obtain ⟨_, r', e2⟩ := mem_bgn.1 hc
    rw [e1, e2, List.append_assoc, app_lt]
    refine head_lt ?_
    have h1 : (UInt8.ofNat b).toNat = b % 256 := rfl
    have h2 : (UInt8.ofNat n).toNat = n % 256 := rfl
    rw [h1, h2]; omega
theorem nests_all {X : List Pr} (h : Rise X) (p : List UInt8) : (X.filter fun q => decide (q.1 = p)) ++ gos X p 256 = bgn X p := by
  refine rise_ext _ _ (rise_append (List.Pairwise.filter _ h) (gos_rise h p (Nat.le_refl _)) fun a ha c hc => ?_) (bgn_rise h p) fun q => ?_
  · have e1 : a.1 = p := by simpa using (List.mem_filter.1 ha).2
    obtain ⟨_, b, r, hb, e2⟩ := mem_gos.1 hc
    rw [e1, e2]
    have : p ++ [] < p ++ UInt8.ofNat b :: r := by rw [app_lt]; exact nil_lt (by simp)
    simpa using this
  · rw [List.mem_append, mem_bgn, mem_gos, List.mem_filter]
    constructor
    · rintro (⟨h1, h2⟩ | ⟨h1, b, r, _, h2⟩)
      · exact ⟨h1, [], by simpa using h2⟩
      · exact ⟨h1, _, h2⟩
    · rintro ⟨h1, r, h2⟩
      cases r with
      | nil => exact .inl ⟨h1, by simpa using h2⟩
      | cons c r => exact .inr ⟨h1, c.toNat, r, c.toNat_lt, by rw [h2]; simp⟩
theorem filter_le {α : Type} (f g : α → Bool) (h : ∀ x, f x = true → g x = true) : ∀ X : List α, (X.filter f).length ≤ (X.filter g).length
  | [] => by simp
  | x :: r => by
    have ih := filter_le f g h r
    cases hf : f x
    · cases hg : g x
      · simpa [List.filter_cons, hf, hg] using ih
      · simp [List.filter_cons, hf, hg]; omega
    · simp [List.filter_cons, hf, h x hf]; exact ih
theorem bgn_app {X : List Pr} {p m : List UInt8} : (bgn X (p ++ m)).length ≤ (bgn X p).length := by
  refine filter_le _ _ (fun q hq => ?_) X
  obtain ⟨r, e⟩ := begins_iff.1 hq
  exact begins_iff.2 ⟨m ++ r, by rw [e]; simp⟩
end Go.Proofs.Ytbplddiopajocaa
