/- Texts joined. -/
import Derived.Test.YtigoffdehdobiaaGreatM05
import Derived.Test.YtigoffdehdobiaaGreatM08
import Derived.Deep.DeepCutAuto
import Derived.Deep.RegionWith
set_option linter.unusedVariables false
set_option linter.unusedSimpArgs false
/- Plain laws: kids that are as they must be. No program. -/
namespace Go.QS

/-- Kids as they must be, below a way that has room for so many bytes. -/
inductive Kd : Nat → List RT → Prop
  | nil (N : Nat) : Kd N []
  | cons {N : Nat} {t : RT} {r : List RT} (h1 : t.lab ≠ []) (h2 : t.lab.length ≤ N) (h3 : t.val.isSome = true ∨ 2 ≤ t.kids.length) (h4 : Kd (N - t.lab.length) t.kids) (h5 : ∀ q ∈ r, t.hd < q.hd) (h6 : Kd N r) : Kd N (t :: r)

def Br (N : Nat) (t : RT) : Prop := t.lab ≠ [] ∧ t.lab.length ≤ N ∧ (t.val.isSome = true ∨ 2 ≤ t.kids.length) ∧ Kd (N - t.lab.length) t.kids

theorem kd_iff : ∀ {N : Nat} {ks : List RT}, Kd N ks ↔ Heads ks ∧ ∀ k ∈ ks, Br N k
  | N, [] => ⟨fun _ => ⟨List.Pairwise.nil, fun k h => by cases h⟩, fun _ => .nil N⟩
  | N, t :: r => by
    rw [heads_cons]
    constructor
    · intro h
      cases h with
      | cons h1 h2 h3 h4 h5 h6 =>
        obtain ⟨i1, i2⟩ := kd_iff.1 h6
        refine ⟨⟨h5, i1⟩, fun k hk => ?_⟩
        rcases List.mem_cons.1 hk with rfl | hk
        · exact ⟨h1, h2, h3, h4⟩
        · exact i2 k hk
    · rintro ⟨⟨h5, h6⟩, h⟩
      obtain ⟨h1, h2, h3, h4⟩ := h t (List.mem_cons_self ..)
      exact .cons h1 h2 h3 h4 h5 (kd_iff.2 ⟨h6, fun k hk => h k (List.mem_cons_of_mem _ hk)⟩)

theorem Kd.heads {N : Nat} {ks : List RT} (h : Kd N ks) : Heads ks := (kd_iff.1 h).1
theorem Kd.br {N : Nat} {ks : List RT} (h : Kd N ks) {k : RT} (hk : k ∈ ks) : Br N k := (kd_iff.1 h).2 k hk
theorem Kd.ne {N : Nat} {ks : List RT} (h : Kd N ks) : ∀ k ∈ ks, k.lab ≠ [] := fun _ hk => (h.br hk).1

theorem RT.hd_lt (k : RT) : k.hd < 256 := UInt8.toNat_lt _
theorem heads_len : ∀ (n : Nat) (ks : List RT), Heads ks → (∀ k ∈ ks, n ≤ k.hd) → ks.length + n ≤ 256 ∨ ks = []
  | n, [], _, _ => .inr rfl
  | n, t :: r, h, hn => by
    rw [heads_cons] at h
    have h1 := hn t (List.mem_cons_self ..)
    rcases heads_len (t.hd + 1) r h.2 (fun k hk => h.1 k hk) with h2 | rfl
    · left; simp; omega
    · left; have := RT.hd_lt t; simp; omega
theorem Kd.len {N : Nat} {ks : List RT} (h : Kd N ks) : ks.length ≤ 256 := by
  rcases heads_len 0 ks h.heads (fun k _ => Nat.zero_le _) with h | rfl
  · omega
  · simp

theorem Kd.one {N : Nat} {t : RT} (h : Br N t) : Kd N [t] := .cons h.1 h.2.1 h.2.2.1 h.2.2.2 (fun q hq => by cases hq) (.nil N)

theorem tsplit_kd {N k : Nat} {t : RT} (h : Br N t) (hk : k < t.lab.length) : Kd (N - k) (tsplit t k).kids := by
  obtain ⟨h1, h2, h3, h4⟩ := h
  refine Kd.one ⟨?_, ?_, h3, ?_⟩
  · intro e
    have := congrArg List.length e
    simp at this; omega
  · simp; omega
  · simp only [RT.lab_node, RT.kids_node, List.length_drop]
    rwa [show N - k - (t.lab.length - k) = N - t.lab.length by omega]

theorem hd_eq {t : RT} {c : UInt8} {l : List UInt8} (h : t.lab = c :: l) : t.hd = c.toNat := by simp [RT.hd, h]
theorem hd_lab {t : RT} {c : UInt8} (hne : t.lab ≠ []) (h : t.hd = c.toNat) : ∃ l, t.lab = c :: l := by
  obtain ⟨x, l, hl⟩ := List.exists_cons_of_ne_nil hne
  rw [hd_eq hl] at h
  exact ⟨l, by rw [hl, UInt8.toNat_inj.1 h]⟩
theorem common_pos {c : UInt8} {a b : List UInt8} : common (c :: a) (c :: b) = common a b + 1 := by simp [common]

/-- The kid that a byte leads to. -/
theorem fH_get {ks : List RT} {c : Nat} (hs : Heads ks) (h : fH ks c = true) : ∃ k, ks[fI ks c]? = some k ∧ k.hd = c := by
  rw [fH_at hs] at h
  cases hq : ks[fI ks c]? with
  | none => rw [hq] at h; cases h
  | some q =>
    rw [hq] at h
    exact ⟨q, rfl, by simpa using h⟩
end Go.QS
/- Contract: put, without a token: at a node itself; a new leaf. -/
namespace Go.Proofs.YtigoffdehdobiaaGreat
open Go.RowKit Go.QS
set_option linter.unusedVariables false

end Go.Proofs.YtigoffdehdobiaaGreat
/- Contract: put, without a token: a new leaf. -/
namespace Go.Proofs.YtigoffdehdobiaaGreat
open Go.RowKit Go.QS
set_option linter.unusedVariables false

theorem Rep.leaf {T : TypeId} {w w' : World} {g : Nat} {l : List UInt8} {v : Option (List UInt8)} (h : Rep T w g (.node l v [])) (hb : w'.heap[g]? = w.heap[g]?) : Rep T w' g (.node l v []) := by
  obtain ⟨kv, ow, ps, nd, sl, rp⟩ := h.open
  have hp : ps = [] := List.eq_nil_of_length_eq_zero (by have := rp.1; simpa using this)
  subst hp
  obtain ⟨A, c, h1, h2, h3, h4, _⟩ := sl
  exact Rep.make (ps := []) (hb.trans nd) ⟨A, c, h1, h2, h3, h4, Seg.nil _ _⟩ ⟨rfl, fun j p k h => by simp at h⟩

end Go.Proofs.YtigoffdehdobiaaGreat
