/- Contract: a node of one's own, without a token: one like it. -/
import Derived.Test.YtlgnokhfioglaaaNn
namespace Go.Proofs.Ytlgnokhfioglaaa
open Go.RowKit Go.QS Go.QS.Nk
set_option linter.unusedVariables false

theorem keep2n {w w' : World} {a1 a2 : Addr} {u1 u2 : Value} (f : Ext w w') (h : w.cell? a1 = some u1 ∧ w.cell? a2 = some u2) : w'.cell? a1 = some u1 ∧ w'.cell? a2 = some u2 :=
  ⟨(f.cell (World.block_lt_of_cell? w _ h.1)).trans h.1, (f.cell (World.block_lt_of_cell? w _ h.2)).trans h.2⟩

set_option maxRecDepth 100000 in
set_option maxHeartbeats 1000000 in
theorem nown_c (w : World) (g d n : Nat) (ps : List Pr) (ks : List Nat) (bk : Bool) (ow : Option Addr) (pv kv : Value) (h : Nd ND w g d n ps ks bk ow pv kv) (hp9 : ps.length ≤ 1000000000) (hk9 : ks.length ≤ 1000000000) :
    Calls Try.prog 53 #[ptr g, nil0] w fun e w' => ∃ c pv' kv', e = .returned (ptr c) ∧ NdO ND NP NK w.heap.size w' c d n ps ks bk none pv' kv' ∧ w.heap.size ≤ c ∧ Ext w w' := by
  obtain ⟨PA, pc, rfl, hpl, hpn, hpc, hps⟩ := h.pairs
  obtain ⟨KA, kc, rfl, hkl, hkn, hkc, hks⟩ := h.kids
  obtain ⟨c0, c1, c2, c3, c4, c5⟩ := h.node.cells
  obtain ⟨wa, hwa⟩ : ∃ x, x = w.alloc (.cells #[.int .u32 d, .int .u32 n, .slice PA ps.length pc, .slice KA ks.length kc, .bool bk, .pointer ow] ND) := ⟨_, rfl⟩
  obtain ⟨c, hc⟩ : ∃ c, c = w.heap.size := ⟨_, rfl⟩
  have hn : NdAt ND wa c d n (.slice PA ps.length pc) (.slice KA ks.length kc) bk ow := by rw [hwa]; exact NdAt.new ND w hc
  have hE : Ext w wa := by rw [hwa]; exact (Ext.refl _).alloc (Nat.le_refl _) _
  have HA := Lib.hid (And.intro hn (And.intro hE (show w.heap.size ≤ c by omega)))
  have HS := Lib.hid (And.intro (h.ext hE).pairs (h.ext hE).kids)
  have HK := Lib.hid (And.intro c2 c3)
  have HW := Lib.hid (And.intro hwa.symm hc.symm)
  have HB := Lib.hid hE.size
  have hgc : Hid (g ≠ c) := Lib.hid (by have := h.node.lt; omega)
  clear h hpl hps hkl hks hwa hn hE hc
  go_enter Try.func53, Try.ntmps53
  repeat' (first | (go_at_call 22; refine (owned_nil _ _ (.inr ⟨_, rfl⟩)).mono ?_; rintro e w1 ⟨rfl, rfl⟩; go_simp) | (go_not_at_region 4; (first | go_skip | go_guarded | go_step)))
  have hW := HW.out.1
  rw [hW, HW.out.2]
  clear hW
  obtain ⟨q2, q3⟩ := keep2n HA.out.2.1 HK.out
  have HQ : Hid (_ ∧ _) := Lib.hid (And.intro q2 q3)
  go_region_held3 (fun w' => w'.cell? ⟨g, 2, none⟩ = some (.slice PA ps.length pc) ∧ w'.cell? ⟨g, 3, none⟩ = some (.slice KA ks.length kc))
    (first | exact keep2n (((HA.out.2.1.trans (k1.out.1.trans k2.out.1)).setCell HA.out.2.2 _).setCell HA.out.2.2 _) HK.out | exact keep2n ((HA.out.2.1.trans (k1.out.1.trans k2.out.1)).setCell HA.out.2.2 _) HK.out | exact keep2n (HA.out.2.1.trans (k1.out.1.trans k2.out.1)) HK.out | exact keep2n (HA.out.2.1.trans k1.out.1) HK.out | exact keep2n (HA.out.2.1.trans (below_drewN (Ext.refl _) 1)) HK.out)
    (first
      | (go_at_call 61; refine (pclone_c _ _ ps (PS.below HS.out.1 (by repeat' (first | exact Ext.refl _ | apply ext_alloc | apply ext_drew | exact below_drewN (Ext.refl _) _))) hp9).mono ?_; rintro e x1 ⟨v1, rfl, o1, f1⟩; obtain ⟨A1, C1, rfl⟩ := own_slice o1; have k1 : Hid (Ext wa x1 ∧ x1.ownsRow w.heap.size NP 2 (.slice A1 ps.length C1) ps.length (flat ps)) := Lib.hid ⟨Ext.trans (by repeat' (first | exact Ext.refl _ | apply ext_alloc | apply ext_drew | exact below_drewN (Ext.refl _) _)) f1, own_base o1 HB.out⟩; clear o1 f1)
      | (go_at_call 62; refine (kclone_c _ _ ks (Sl.below HS.out.2 (k1.out.1.trans (by repeat' (first | exact Ext.refl _ | apply ext_alloc | apply ext_drew | exact below_drewN (Ext.refl _) _)))) hk9).mono ?_; rintro e x2 ⟨v2, rfl, o2, f2⟩; obtain ⟨A2, C2, rfl⟩ := own_slice o2; have k2 : Hid (Ext x1 x2 ∧ x2.ownsRow w.heap.size NK 1 (.slice A2 ks.length C2) ks.length (ptrs ks)) := Lib.hid ⟨Ext.trans (by repeat' (first | exact Ext.refl _ | apply ext_alloc | apply ext_drew | exact below_drewN (Ext.refl _) _)) f2, own_base o2 (Nat.le_trans HB.out k1.out.1.size)⟩; have H2 := Lib.hid (HA.out.1.ext (k1.out.1.trans k2.out.1)); obtain ⟨z0, z1, z2, z3, z4, z5⟩ := H2.out.cells; have zf := H2.out.free; clear o2 f2 z0 z1 z4))
  repeat' (first | (go_at_call 59; refine (live_nil _).mono ?_; rintro e w1 ⟨rfl, rfl⟩; go_simp) | go_skip | go_guarded | go_step)
  go_ret
  have hle := HA.out.2.2
  have r1 := k2.out.1
  have e3 := HA.out.2.1.trans (k1.out.1.trans k2.out.1)
  refine ⟨c, _, _, rfl, ⟨((H2.out.set2 _).set3 _).set5 none, ?_, ?_⟩, hle, ((e3.setCell hle _).setCell hle _).setCell hle _⟩
  · exact own_other (own_other (own_other (row_ext k1.out.2 k2.out.1) H2.out (by decide) 2 _) (H2.out.set2 _) (by decide) 3 _) ((H2.out.set2 _).set3 _) (by decide) 5 _
  · exact own_other (own_other (own_other k2.out.2 H2.out (by decide) 2 _) (H2.out.set2 _) (by decide) 3 _) ((H2.out.set2 _).set3 _) (by decide) 5 _
end Go.Proofs.Ytlgnokhfioglaaa
