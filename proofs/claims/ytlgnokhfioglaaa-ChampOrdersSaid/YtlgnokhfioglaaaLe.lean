/- Facts for chapter 6's laws: lists of short pairs; a hasher, a trie and its list in memory. -/
import Derived.Test.YtlgnokhfioglaaaBn
import Derived.Deep.LoopGhost
set_option linter.unusedVariables false
set_option linter.unusedSimpArgs false
namespace Go.Proofs.Ytlgnokhfioglaaa
open Go.RowKit Go.QS Go.QS.Nk
set_option linter.unusedVariables false

/-- A list that rises, of keys and values of at most 40 bytes. -/
structure OkL (X : List Pr) : Prop where
  rise : Rise X
  short : ∀ q ∈ X, q.1.length ≤ 40 ∧ q.2.length ≤ 40
theorem OkL.nil : OkL [] := ⟨rise_nil, fun q hq => by cases hq⟩
theorem OkL.put {X : List Pr} (h : OkL X) {p : Pr} (hp : p.1.length ≤ 40 ∧ p.2.length ≤ 40) : OkL (rput X p) := ⟨rput_rise h.rise p, fun q hq => by
  rcases mem_rput.1 hq with rfl | ⟨h1, _⟩
  · exact hp
  · exact h.short q h1⟩
theorem OkL.drop {X : List Pr} (h : OkL X) (k : List UInt8) : OkL (rdrop X k) := ⟨rdrop_rise h.rise k, fun q hq => h.short q (mem_rdrop.1 hq).1⟩
theorem OkL.keys {X : List Pr} (h : OkL X) : ∀ q ∈ X, q.1.length ≤ 1000000 := fun q hq => by have := (h.short q hq).1; omega
theorem OkL.keys' {X : List Pr} (h : OkL X) : ∀ q ∈ X, q.1.length ≤ 1000 := fun q hq => by have := (h.short q hq).1; omega
theorem OkL.was {X : List Pr} (h : OkL X) (p : Pr) : hasK X p.1 = true → (getL p.1 X).getD [] = p.2 → p ∈ X := by
  intro h1 h2
  rw [← getL_has h.rise] at h1
  obtain ⟨v, hv⟩ := Option.isSome_iff_exists.1 h1
  rw [hv] at h2
  have := (getL_iff h.rise).1 hv
  rw [show v = p.2 from h2] at this
  exact this
/-- A hasher, a trie, its list. -/
structure St6 (w : World) (gh : Nat) (h : Hs) (g : Nat) (v : Value) (X : List Pr) : Prop where
  hs : HsAt w gh h
  tr : TR ND h.hash w 13 g X
  ok : OkL X
  ps : PS w v X
theorem St6.ext {w w' : World} {gh g : Nat} {h : Hs} {v : Value} {X : List Pr} (H : St6 w gh h g v X) (f : Ext w w') : St6 w' gh h g v X := ⟨H.hs.ext f, TR.ext f 13 H.tr, H.ok, H.ps.below f⟩
set_option maxRecDepth 100000 in
theorem neqN (g : Nat) (w : World) : (binOp .neq 32 (ptr g) (ptr g)).run Try.prog w = .ok (.bool false) w := by
  have h : (Try.prog.info? 112).isSome = true := by kernel_rfl
  obtain ⟨j, hj⟩ := Option.isSome_iff_exists.1 h
  exact Lib.run_neq_ptr_same w _ Try.underlying32 hj
theorem fieldP (a x : Value) (w : World) : (Instr.field 36 (.agg #[a, x]) 0).run Try.prog w = .ok a w := by
  unfold Instr.field
  simp [go_sem, asAgg]
theorem box5 {w : World} {g : Nat} {a b c d e : Value} {t : TypeId} {f : Nat × Nat} (h : w.heap[g]? = some (.cells #[a, b, c, d, e] t f)) : w.cell? ⟨g, 0, none⟩ = some a ∧ w.cell? ⟨g, 1, none⟩ = some b ∧ w.cell? ⟨g, 2, none⟩ = some c ∧ w.cell? ⟨g, 3, none⟩ = some d ∧ w.cell? ⟨g, 4, none⟩ = some e := by
  simp [World.cell?, h]
theorem cput6 {h : Hs} (hk : h.Ok) {w : World} {gh g : Nat} {v : Value} {X : List Pr} (H : St6 w gh h g v X) (p : Pr) (hX : X.length ≤ 1000) (hp : p.1.length ≤ 40 ∧ p.2.length ≤ 40) :
    Calls Try.prog 43 #[hsV h, nil0, ptr g, prV p] w fun e w' => ∃ g', e = .returned (.tuple #[ptr g', .bool (!hasK X p.1)]) ∧ Ext w w' ∧ TR ND h.hash w' 13 g' (rput X p) ∧ OkL (rput X p) ∧ (p ∈ X → g' = g) :=
  (cput_c h hk w (ptr g) X p (Rot.of H.tr) H.ok.rise (by omega) H.ok.keys (by omega)).mono fun e w' ⟨g', h1, h2, h3, h4⟩ => ⟨g', h1, h3, h2, H.ok.put hp, h4 g rfl⟩
theorem cdrop6 {h : Hs} (hk : h.Ok) {w : World} {gh g : Nat} {v : Value} {X : List Pr} (H : St6 w gh h g v X) (k : List UInt8) (hX : X.length ≤ 1000) (hp : k.length ≤ 40) :
    Calls Try.prog 41 #[hsV h, nil0, ptr g, str k] w fun e w' => ∃ g', e = .returned (.tuple #[ptr g', .bool (hasK X k)]) ∧ Ext w w' ∧ TR ND h.hash w' 13 g' (rdrop X k) ∧ OkL (rdrop X k) ∧ (hasK X k = false → g' = g) :=
  (cdrop_c h hk w (ptr g) X k (Rot.of H.tr) H.ok.rise (by omega) (by omega)).mono fun e w' ⟨g', h1, h2, h3, h4⟩ => ⟨g', h1, h3, h2, H.ok.drop k, h4 g rfl⟩
theorem cget6 {h : Hs} (hk : h.Ok) {w : World} {gh g : Nat} {v : Value} {X : List Pr} (H : St6 w gh h g v X) (k : List UInt8) (hX : X.length ≤ 1000) (hp : k.length ≤ 40) :
    Calls Try.prog 45 #[hsV h, ptr g, str k] w fun e w' => e = .returned (.tuple #[str ((getL k X).getD []), .bool (hasK X k)]) ∧ Ext w w' :=
  get_c h hk w (ptr g) X k (Rot.of H.tr) H.ok.rise (by omega) (by omega)
end Go.Proofs.Ytlgnokhfioglaaa
