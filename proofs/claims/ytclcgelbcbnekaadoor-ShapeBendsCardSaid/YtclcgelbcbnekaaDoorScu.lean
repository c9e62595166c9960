/- ShapeBends: its walk. -/
import Derived.Test.YtclcgelbcbnekaaDoorSct
set_option linter.unusedVariables false
set_option linter.unusedSimpArgs false
namespace Go.QS
/-- All blocks but one; but two. -/
abbrev SB (a : Nat) : Zero (Nat → Prop) := ⟨fun k => k ≠ a⟩
abbrev SB2 (a b : Nat) : Zero (Nat → Prop) := ⟨fun k => k ≠ a ∧ k ≠ b⟩
end Go.QS
namespace Go.Proofs.YtclcgelbcbnekaaDoor
open Go Go.RowKit Go.QS Go.QS.Nk
set_option linter.unusedVariables false
variable [Zero (Nat → Prop)]
set_option linter.unusedSectionVars false

theorem keepT_pr {B g : Nat} {a b W : World} {p : Pr} (h : KeepT B b W) (f : Only (fun k => k = g) a b) (hg : g < B) (hga : PrAt a g p) : KeepT B a W :=
  ⟨h.os.trans f.os, h.tape.trans f.tape, h.output.trans f.output, Nat.le_trans f.size h.size, fun k hk hn => by
    by_cases e : k = g
    · subst e; exact absurd ⟨hg, _, NP, hga, by decide⟩ hn
    · refine (h.block k (Nat.lt_of_lt_of_le hk f.size) (fun hs => hn ⟨hs.1, ?_⟩)).trans (f.block k hk e)
      obtain ⟨A, T, hA, hT⟩ := hs.2
      exact ⟨A, T, (f.block k hk e).symm.trans hA, hT⟩⟩
set_option maxRecDepth 100000 in
set_option maxHeartbeats 4000000 in
theorem shapeBends_c (w : World) (h : Hs) (hh : h.Ok) (v1 : Value) (l : List Pr) (iv : UInt8) (p : Pr) (kv : UInt8) (hP1 : PS w v1 l) (hT : Tab32 w) :
    Calls Tryd.prog 4 #[hsV h, v1, .int .u8 iv.toNat, .agg #[str p.1, str p.2], .int .u8 kv.toNat] w fun e w' => e = .returned (.bool true) ∧ Ext w w' := by
  have HP := Lib.hid (And.intro hP1 hT)
  clear hP1 hT
  have hi9 := iv.toNat_lt
  have hk9 := kv.toNat_lt
  obtain ⟨iN, hiN⟩ : ∃ i, i = iv.toNat := ⟨_, rfl⟩
  obtain ⟨kN, hkN⟩ : ∃ i, i = kv.toNat := ⟨_, rfl⟩
  rw [← hiN] at hi9 ⊢
  rw [← hkN] at hk9 ⊢
  clear hiN hkN
  go_enter Tryd.func4, Tryd.ntmps4
  repeat' (go_not_at_region 1; (first | go_skip | go_guarded | go_step))
  obtain ⟨gh, hgh⟩ : ∃ g, g = w.heap.size := ⟨_, rfl⟩
  rw [← hgh]
  refine wp_nameS (fun w' => (HsAt w' gh h ∧ PrAt w' (gh + 1) p) ∧ Ext w w' ∧ w.heap.size ≤ gh) ⟨?_, ((Ext.refl w).alloc (Nat.le_refl _) _).alloc (by simp) _, by omega⟩ ?_
  · have h0 := heap_newG w (.cells #[.int .u64 h.k0, .int .u64 h.k1, .int .u64 h.mask] 26)
    have h1 := heap_newG (w.alloc (.cells #[.int .u64 h.k0, .int .u64 h.k1, .int .u64 h.mask] 26)) (.cells #[str p.1, str p.2] NP)
    rw [← hgh] at h0
    rw [World.size_alloc, ← hgh] at h1
    exact ⟨box_extG h0 ((Ext.refl _).alloc (Nat.le_refl _) _), h1⟩
  clear hgh
  intro wa HW
  repeat' (first | go_at_call 6 | go_skip | go_guarded | go_step)
  refine (awake07_c wa).mono ?_
  rintro e w1 ⟨rfl, f1⟩
  have H1 : Hid ((HsAt w1 gh h ∧ PrAt w1 (gh + 1) p) ∧ Ext w w1 ∧ w.heap.size ≤ gh) := Lib.hid ⟨⟨HW.out.1.1.ext f1, HW.out.1.2.ext f1⟩, Ext.trans HW.out.2.1 f1, HW.out.2.2⟩
  clear f1 HW
  obtain ⟨c0, c1, c2⟩ := H1.out.1.1.cells
  go_simp
  repeat' (first | go_at_call 14 | go_skip | go_guarded | go_step)
  refine (@trie07_c (SB (gh + 1)) h hh w1 v1 l (HP.out.1.below H1.out.2.1) (fun k hk => (show k ≠ gh + 1 by have := heap_lt H1.out.1.2; omega))).mono ?_
  rintro e w2 ⟨g, vx, rfl, f2, t2, p2⟩
  obtain ⟨X, hX⟩ : ∃ X, X = xOf l := ⟨_, rfl⟩
  obtain ⟨hXo, hX9, hXl, hXq⟩ := xOf_sh l
  rw [← hX] at t2 p2 hXo hX9 hXl hXq
  have H2 : Hid ((HsAt w2 gh h ∧ PrAt w2 (gh + 1) p) ∧ Ext w w2 ∧ @TR (SB (gh + 1)) ND h.hash w2 13 g X ∧ PS w2 vx X ∧ w.heap.size ≤ gh) := Lib.hid ⟨⟨H1.out.1.1.ext f2, H1.out.1.2.ext f2⟩, Ext.trans H1.out.2.1 f2, t2, p2, H1.out.2.2⟩
  have HXq : Hid (X.length ≤ 40 ∧ ∀ p ∈ X, p.1.length ≤ 40 ∧ p.2.length ≤ 40) := Lib.hid ⟨hXl, hXq⟩
  clear f2 t2 p2 c0 c1 c2 H1 hX hXo hX9 hXq hXl
  obtain ⟨c0, c1, c2⟩ := H2.out.1.1.cells
  go_simp
  repeat' (first | go_at_call 13 | go_skip | go_guarded | go_step)
  refine (own07_c w2 h).mono ?_
  rintro e w3 ⟨rfl, f3⟩
  have H3 := Lib.hid f3
  clear f3 c0 c1 c2
  go_simp
  repeat' (first | go_at_call 15 | go_skip | go_guarded | go_step)
  refine (rof6S_c h hh w3 vx X (H2.out.2.2.2.1.below H3.out) (by have := HXq.out.1; omega) (fun q hq => by have := (HXq.out.2 q hq).1; omega)).mono ?_
  rintro e w4 ⟨q, A, rfl, f4, hlq, hq4, hzs, hent⟩
  have H4 : Hid (Ext w2 w4 ∧ w2.heap.size ≤ q ∧ w4.heap[q]? = some (.cells A TT (0, 0)) ∧ Zs A 32 ∧ ∀ W, KeepT (q + 1) w4 W → ∀ c, c < 32 → EntOk (DR h.hash W 12) A c (Go.QS.part h.hash 0 c X)) := Lib.hid ⟨Ext.trans H3.out f4, Nat.le_trans H3.out.size hlq, hq4, hzs, hent⟩
  clear f4 hlq hq4 hzs hent H3
  go_simp
  obtain ⟨k, hk⟩ : ∃ k, k = iN % 32 := ⟨_, rfl⟩
  have hk32 : k < 32 := by omega
  repeat' (first | go_at_call 16 | (go_not_at_region 6; (first | go_skip | go_guarded | go_step)))
  have hp4 := H2.out.1.2.ext H4.out.1
  obtain ⟨c0, c1⟩ := hp4.cells
  repeat' (first | go_at_call 16 | go_skip | go_guarded | go_step)
  refine (few07_c w4 p).mono ?_
  rintro e w5 ⟨rfl, f5⟩
  obtain ⟨pc, hpc⟩ : ∃ q, q = cutP p := ⟨_, rfl⟩
  rw [← hpc]
  have hpl : pc.1.length ≤ 40 ∧ pc.2.length ≤ 40 := by rw [hpc]; exact cutP_short p
  clear hpc
  have hp5 := hp4.ext f5
  clear c0 c1
  obtain ⟨c0, c1⟩ := hp5.cells
  have cf := box_free' hp5
  have hne : gh ≠ gh + 1 := by omega
  go_simp
  repeat' (((fail_if_success (with_reducible refine (?_ : Code.wp _ (Code.seq (Code.seq _ _) _) _ _ _)))); (first | go_skip | go_guarded | go_step))
  refine wp_nameS (fun w' => PrAt w' (gh + 1) pc ∧ Only (fun b => b = gh + 1) w5 w') ⟨heap_set (heap_set hp5 0 _) 1 _, ((Only.refl w5).setCell (p := ⟨gh + 1, 0, none⟩) (S := fun b => b = gh + 1) (.inl rfl) _).setCell (p := ⟨gh + 1, 1, none⟩) (.inl rfl) _⟩ ?_
  intro w6 H5
  have o26 : Only (fun b => b = gh + 1) w2 w6 := (Only.of_ext (H4.out.1.trans f5)).trans' (T := fun b => b = gh + 1) (S := fun b => b = gh + 1) H5.out.2 (fun _ _ e => e)
  have o46 : Only (fun b => b = gh + 1) w4 w6 := (Only.of_ext f5).trans' (T := fun b => b = gh + 1) (S := fun b => b = gh + 1) H5.out.2 (fun _ _ e => e)
  have hg2 := heap_lt H2.out.1.2
  have HE6 : Ext w w6 := ((Only.of_ext H2.out.2.1).trans' (T := fun b => b = gh + 1) (S := fun b => b = gh + 1) o26 (fun _ _ e => e)).ext (fun i hi e => by have := H2.out.2.2.2.2; omega)
  have H6 : Hid (@BdH (SB2 (gh + 1) q) w w6 gh (gh + 1) g q h A pc X) := Lib.hid (by
    refine @BdH.mk (SB2 (gh + 1) q) w w6 gh (gh + 1) g q h A pc X HE6 ?_ ?_ ?_ ?_ H4.out.2.2.2.1 ?_ ?_ ?_ ?_ ?_ ⟨HXq.out.1, HXq.out.2, hpl⟩
    · exact Nat.le_trans H2.out.2.1.size H4.out.2.1
    · exact o26.heap H2.out.1.1 hne
    · exact H5.out.1
    · exact o46.heap H4.out.2.2.1 (by have := H4.out.2.1; omega)
    · exact fun W hW => H4.out.2.2.2.2 W (keepT_pr hW o46 (by have := H4.out.2.1; omega) hp4)
    · exact TR.turn9 (i1 := SB (gh + 1)) (i2 := SB2 (gh + 1) q) o26 (fun b hb e => (show b ≠ gh + 1 from e) hb) (fun b hb e => show b ≠ gh + 1 ∧ b ≠ q from ⟨e, by have := H4.out.2.1; omega⟩) (fun b hb => show b ≠ gh + 1 ∧ b ≠ q from ⟨by have := o26.size; omega, by have := H4.out.2.1; have := heap_lt H4.out.2.2.1; have := o46.size; omega⟩) 13 H2.out.2.2.1
    · exact fun e => (show q ≠ gh + 1 ∧ q ≠ q from e).2 rfl
    · have := H4.out.2.1; omega
    · have := H4.out.2.1; omega)
  clear o26 o46 hg2 HE6 H5 H4 H2 hp4 hp5 c0 c1 cf hne f5 hpl HXq
  have hkI : (iN : Int) % 32 = (k : Int) := by omega
  rw [hkI]
  clear hkI
  go_step
  go_cut [11] (fun v11 wx => Hid (∃ g1, v11 = ptr g1 ∧ @BdE (SB2 (gh + 1) q) w wx gh g1 q h))
  case first =>
    have hm : kN % 4 = 0 ∨ kN % 4 = 1 ∨ kN % 4 = 2 ∨ kN % 4 = 3 := by omega
    rcases hm with e4 | e4 | e4 | e4
    · have d3 : (kN : Int) % 4 = 0 := by omega
      repeat' (go_not_at_region 13; (first | go_skip | go_guarded | go_step))
      rename_i K hK
      refine @bd_a (SB2 (gh + 1) q) w w6 gh (gh + 1) g q k h A pc X hk32 H6 _ _ K _ _ _ _ _ _ _ _ _ _ _ _ _ _ _ _ _ _ _ _ _ _ _ _ _ _ _ _ _ _ _ _ _ _ _ _ _ _ _ _ _ _ _ _ _ _ _ _ _ _ _ _ _ _ _ _ _ _ _ _ _ _ _ _ _ _ _ _ _ _ _ _ _ _ _ _ _ _ _ _ _ _ _ _ _ _ _ _ _ _ _ _ _ _ _ _ _ _ _ _ _ _ _ _ _ _ _ _ _ _ _ _ _ _ _ _ _ _ _ _ _ _ (by kernel_rfl) (by kernel_rfl) hK ?_
      intro g1 z68 z69 z70 z71 z72 z73 z74 z75 z76 z77 z78 z79 z80 z81 z82 wx hpo
      have HZ := Lib.hid hpo
      clear hpo
      repeat' (first | go_skip | go_guarded | go_step)
      go_meet
      exact Lib.hid ⟨g1, rfl, HZ.out⟩
    · have d3 : (kN : Int) % 4 = 1 := by omega
      repeat' (go_not_at_region 16; (first | go_skip | go_guarded | go_step))
      rename_i K hK
      refine @bd_b (SB2 (gh + 1) q) w w6 gh (gh + 1) g q k h A pc X hk32 H6 _ _ K _ _ _ _ _ _ _ _ _ _ _ _ _ _ _ _ _ _ _ _ _ _ _ _ _ _ _ _ _ _ _ _ _ _ _ _ _ _ _ _ _ _ _ _ _ _ _ _ _ _ _ _ _ _ _ _ _ _ _ _ _ _ _ _ _ _ _ _ _ _ _ _ _ _ _ _ _ _ _ _ _ _ _ _ _ _ _ _ _ _ _ _ _ _ _ _ _ _ _ _ _ _ _ _ _ _ _ _ _ _ _ _ _ _ _ _ _ _ _ _ _ _ (by kernel_rfl) (by kernel_rfl) hK ?_
      intro g1 z85 z86 z87 z88 z89 z90 z91 z92 wx hpo
      have HZ := Lib.hid hpo
      clear hpo
      repeat' (first | go_skip | go_guarded | go_step)
      go_meet
      exact Lib.hid ⟨g1, rfl, HZ.out⟩
    · have d3 : (kN : Int) % 4 = 2 := by omega
      repeat' (go_not_at_region 19; (first | go_skip | go_guarded | go_step))
      rename_i K hK
      refine @bd_c (SB2 (gh + 1) q) w w6 gh (gh + 1) g q k h A pc X hk32 H6 _ _ K _ _ _ _ _ _ _ _ _ _ _ _ _ _ _ _ _ _ _ _ _ _ _ _ _ _ _ _ _ _ _ _ _ _ _ _ _ _ _ _ _ _ _ _ _ _ _ _ _ _ _ _ _ _ _ _ _ _ _ _ _ _ _ _ _ _ _ _ _ _ _ _ _ _ _ _ _ _ _ _ _ _ _ _ _ _ _ _ _ _ _ _ _ _ _ _ _ _ _ _ _ _ _ _ _ _ _ _ _ _ _ _ _ _ _ _ _ _ _ _ _ _ (by kernel_rfl) (by kernel_rfl) hK ?_
      intro g1 z95 z96 z97 z98 z99 z100 z101 z102 z103 z104 z105 z106 z107 z108 z109 z110 wx hpo
      have HZ := Lib.hid hpo
      clear hpo
      repeat' (first | go_skip | go_guarded | go_step)
      go_meet
      exact Lib.hid ⟨g1, rfl, HZ.out⟩
    · have d3 : (kN : Int) % 4 = 3 := by omega
      repeat' (go_not_at_region 8; (first | go_skip | go_guarded | go_step))
      rename_i K hK
      refine @bd_d (SB2 (gh + 1) q) w w6 gh (gh + 1) g q k h A pc X hk32 H6 _ _ K _ _ _ _ _ _ _ _ _ _ _ _ _ _ _ _ _ _ _ _ _ _ _ _ _ _ _ _ _ _ _ _ _ _ _ _ _ _ _ _ _ _ _ _ _ _ _ _ _ _ _ _ _ _ _ _ _ _ _ _ _ _ _ _ _ _ _ _ _ _ _ _ _ _ _ _ _ _ _ _ _ _ _ _ _ _ _ _ _ _ _ _ _ _ _ _ _ _ _ _ _ _ _ _ _ _ _ _ _ _ _ _ _ _ _ _ _ _ _ _ _ _ (by kernel_rfl) (by kernel_rfl) hK ?_
      intro g1 z15 z35 z36 z37 z38 z39 z40 z41 z42 z43 z44 z45 z46 z47 z48 z49 z50 z51 z52 z53 z54 z55 z56 z57 z58 z59 z60 z61 z62 z63 z64 z65 wx hpo
      have HZ := Lib.hid hpo
      clear hpo
      repeat' (first | go_skip | go_guarded | go_step)
      go_meet
      exact Lib.hid ⟨g1, rfl, HZ.out⟩
  case rest =>
  obtain ⟨g1, rfl, hE⟩ := hcut.out
  clear hcut
  obtain ⟨e1, e2, t, e3, e4, e5, e6, e7, e8, e9⟩ := hE
  have HE1 := Lib.hid e1
  clear e1
  repeat' (go_not_at_region 21; (first | go_skip | go_guarded | go_step))
  rename_i K hK
  refine @bd_21 (SB2 (gh + 1) q) wc gh g1 q h hh t e2 e3 e4 e5 e6 e7 e8 e9 (HP.out.2.ext HE1.out) _ _ _ _ _ _ _ _ _ _ _ _ _ _ _ _ _ _ _ _ _ _ _ _ _ _ _ _ _ _ _ _ _ _ _ _ _ _ _ _ _ _ _ _ _ _ _ _ _ _ _ _ _ _ _ _ _ _ _ _ _ _ _ _ _ _ _ _ _ _ _ _ _ _ _ _ _ _ _ _ _ _ _ _ _ _ _ _ _ _ _ _ _ _ _ _ _ _ _ _ _ _ _ _ _ _ _ _ _ _ _ _ _ _ _ _ _ _ _ _ _ _ _ _ _ (by kernel_rfl) ?_
  intro u111 u112 u113 u114 u115 u116 u117 u118 u119 u120 u121 u122 u123 u124 u125 wx hpo
  have HZ := Lib.hid (Ext.trans HE1.out hpo)
  clear hpo
  repeat' (first | go_skip | go_guarded | go_step)
  go_ret
  exact ⟨rfl, HZ.out⟩
end Go.Proofs.YtclcgelbcbnekaaDoor
