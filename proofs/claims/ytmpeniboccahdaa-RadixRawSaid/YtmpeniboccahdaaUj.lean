/- Contract: law 11's example. -/
import Derived.Test.YtmpeniboccahdaaUi
namespace Go.Proofs.Ytmpeniboccahdaa
open Go.RowKit Go.QS
set_option linter.unusedVariables false

def exA : RT := .node [] none [.node [97, 98] (some [49]) []]
def exK : RT := .node [97] none [.node [98] (some [49]) [], .node [99] (some [50]) []]
def exT : RT := .node [] none [exK]
def exP : Pr := ([97, 98], [49])
def exQ : Pr := ([97, 99], [50])
theorem exA_eq : tput exP.1.length (RT.node [] none []) exP.1 exP.2 = (exA, true, true) := by rfl
theorem exT_eq : tput exQ.1.length exA exQ.1 exQ.2 = (exT, true, true) := by rfl
theorem exA_kd : Kd 40 exA.kids := by
  have h := (tput_ok exP.1.length 40 (RT.node [] none []) exP.1 exP.2 (Nat.le_refl _) (.nil 40) (by decide)).kd
  rw [exA_eq] at h
  exact h
theorem exA_wide : Wide exA := .mk (by decide) (fun k hk => .mk (by rw [List.mem_singleton.1 hk]; decide) (fun k' hk' => by rw [List.mem_singleton.1 hk] at hk'; cases hk'))

set_option maxRecDepth 100000 in
set_option maxHeartbeats 1000000 in
theorem awakeX_c (w : World) : Calls Try.prog 11 #[] w fun e w' => e = .returned (.bool true) ∧ Ext w w' := by
  go_enter Try.func11, Try.ntmps11
  repeat' (first | go_at_call 13 | go_skip | go_guarded | go_step)
  refine (putV_c w _ 40 _ exP (Root.nil w) (.nil 40) (by decide) (by decide)).mono ?_
  rintro e w1 ⟨g1, rfl, f1, r1⟩
  rw [exA_eq] at r1 ⊢
  have H1 : Hid (Rep NT w1 g1 exA ∧ Ext w w1) := Lib.hid ⟨r1, f1⟩
  clear f1 r1
  go_simp
  repeat' (first | go_at_call 13 | go_skip | go_guarded | go_step)
  refine (putV_c w1 _ 40 _ exQ (Root.of H1.out.1) exA_kd (by decide) (by decide)).mono ?_
  rintro e w2 ⟨g2, rfl, f2, r2⟩
  rw [exT_eq] at r2 ⊢
  obtain ⟨kv, ow, ps, nd, sl, rp⟩ := r2.open
  have hpl : ps.length = 1 := rp.1
  obtain ⟨p, rfl⟩ := List.length_eq_one_iff.1 hpl
  have rk := rp.2 0 p exK rfl rfl
  obtain ⟨kv2, ow2, ps2, nd2, sl2, rp2⟩ := rk.open
  have hpl2 : ps2.length = 2 := rp2.1
  have H2 : Hid ((Rep NT w2 g1 exA ∧ Ext w w2) ∧ (w2.cell? ⟨g2, 3, none⟩ = some kv ∧ Sl w2 1 kv 1 (ptrs [p])) ∧ w2.cell? ⟨p, 0, none⟩ = some (str [97]) ∧ w2.cell? ⟨p, 3, none⟩ = some kv2 ∧ Sl w2 1 kv2 ps2.length (ptrs ps2)) :=
    Lib.hid ⟨⟨H1.out.1.ext f2, H1.out.2.trans f2⟩, ⟨nd.cells.2.2.2.1, sl⟩, nd2.cells.1, nd2.cells.2.2.2.1, sl2⟩
  clear f2 r2 nd sl rp rk nd2 sl2 rp2 hpl
  go_simp
  repeat' (first | go_at_call 33 | go_skip | go_guarded | go_step)
  refine (kids_c w2 g2 kv [p] H2.out.2.1.1 H2.out.2.1.2 (by simp)).mono ?_
  rintro e w3 ⟨v3, rfl, o3, f3⟩
  obtain ⟨A, C, rfl, _, hn, hC, hs⟩ := Sl.of_own o3
  obtain ⟨b, o, rfl, hcl⟩ := hs (by simp [ptrs])
  have q0 : w3.cell? ⟨b, o, none⟩ = some (ptr p) := hcl 0 _ (ptrs_get (l := [p]) (i := 0) rfl)
  have H3 := Lib.hid f3
  have hn' : 1 ≤ C := hn
  clear f3 hs o3 hcl
  go_simp
  repeat' (first | go_at_call 32 | go_skip | go_guarded | go_step)
  refine (label_c w3 p _ ((H3.out.cell (World.block_lt_of_cell? _ _ H2.out.2.2.1)).trans H2.out.2.2.1)).mono ?_
  rintro e w4 ⟨rfl, rfl⟩
  go_simp
  repeat' (first | go_at_call 33 | go_skip | go_guarded | go_step)
  refine (kids_c w3 p kv2 ps2 ((H3.out.cell (World.block_lt_of_cell? _ _ H2.out.2.2.2.1)).trans H2.out.2.2.2.1) (Sl.below H2.out.2.2.2.2 H3.out) (by omega)).mono ?_
  rintro e w5 ⟨v5, rfl, o5, f5⟩
  obtain ⟨A5, C5, rfl, _, _, _, _⟩ := Sl.of_own o5
  rw [hpl2]
  have H5 := Lib.hid (H3.out.trans f5)
  clear o5 f5
  go_simp
  repeat' (first | go_at_call 31 | go_skip | go_guarded | go_step)
  refine (lenR_c _ w5 g1 exA (Nat.lt_succ_self _) (H2.out.1.1.ext H5.out) (by decide) (fun _ _ => trivial) exA_wide).mono ?_
  rintro e w6 ⟨rfl, f6⟩
  rw [show exA.prs.length = 1 from rfl]
  have H6 := Lib.hid (H2.out.1.2.trans (H5.out.trans f6))
  clear f6
  go_simp
  repeat' (first | go_skip | go_guarded | go_step)
  go_ret
  exact ⟨rfl, H6.out⟩
end Go.Proofs.Ytmpeniboccahdaa
