/- Law 05's example. -/
import Derived.Test.YtlgnokhfioglaaaOa
import Derived.LaidEqlPtr
namespace Go.Proofs.Ytlgnokhfioglaaa
open Go.RowKit Go.QS Go.QS.Nk
set_option linter.unusedVariables false

theorem neqN {g1 g2 d1 n1 d2 n2 : Nat} {p1 k1 p2 k2 : Value} {b1 b2 : Bool} {o1 o2 : Option Addr} (w : World) (h1 : NdAt ND w g1 d1 n1 p1 k1 b1 o1) (h2 : NdAt ND w g2 d2 n2 p2 k2 b2 o2) (hne : g1 ≠ g2) : (binOp .neq 32 (ptr g1) (ptr g2)).run Try.prog w = .ok (.bool true) w := by
  have h : (Try.prog.info? ND).map (fun i => decide (i.size ≠ 0)) = some true := by kernel_rfl
  obtain ⟨j, hj, hz⟩ := Option.map_eq_some_iff.1 h
  have hz1 : j.size ≠ 0 := by simpa using hz
  have hs := run_sameAddr_other (P := Try.prog) w (a := ⟨g1, 0, none⟩) (b := ⟨g2, 0, none⟩) (by simp [hne]) h1 h2
  clear h h1 h2 hz
  have hq : ∀ d : Nat, (Op.equalIn (d + 1) 32 (ptr g1) (ptr g2)).run Try.prog w = .ok false w := fun d => by
    simp [Op.equalIn, run_underlying Try.underlying32, sizeOf, typeInfo, hj, hz1, hs]
  simp only [binOp]
  simp [Op.equal, Op.maxDepth, hq 9999]
set_option maxRecDepth 100000 in
set_option maxHeartbeats 1000000 in
theorem awake5_c (w : World) : Calls Try.prog 14 #[] w fun e w' => e = .returned (.bool true) ∧ Ext w w' := by
  go_enter Try.func14, Try.ntmps14
  repeat' (first | go_at_call 17 | go_skip | go_guarded | go_step)
  refine (inner0_c w).mono ?_
  rintro e w1 ⟨g1, rfl, n1, f1, s1⟩
  have H1 := Lib.hid (And.intro n1 f1)
  have hlt1 := n1.2
  obtain ⟨ow, pv, kv, nd⟩ := hlt1
  have hg1 : g1 < w1.heap.size := nd.node.lt
  clear n1 f1 s1 nd
  go_simp
  repeat' (first | go_at_call 18 | go_skip | go_guarded | go_step)
  refine (setPair_c w1 g1 3 (sl0 Nat) ([97], []) H1.out.1 (by decide)).mono ?_
  rintro e w2 ⟨g2, rfl, n2, f2, s2⟩
  have hne : g1 ≠ g2 := by omega
  have hd2 : dataOf ((sl0 Nat).set 3 (.pr ([97], []))) = 8 := by
    rw [show dataOf ((sl0 Nat).set 3 (.pr ([97], []))) = dataOf (sl0 Nat) ||| 2 ^ 3 from bits_set_on Slot.isP (by rw [sl0_length]; decide) rfl, show dataOf (sl0 Nat) = 0 from bits_zero _ rfl]
    rfl
  have hd1 : dataOf (sl0 Nat) = 0 := bits_zero _ rfl
  obtain ⟨_, ow1, pv1, kv1, nd1⟩ := H1.out.1.ext f2
  obtain ⟨_, ow2, pv2, kv2, nd2⟩ := n2
  have e1 := nd1.node.cells.1
  have e2 := nd2.node.cells.1
  rw [hd1] at e1
  rw [hd2] at e2
  have hnq := neqN w2 nd1.node nd2.node hne
  clear nd1 nd2
  have H2 := Lib.hid (H1.out.2.trans f2)
  clear f2 s2 hd1 hd2
  go_simp
  repeat' (first | go_at_call 27 | go_skip | go_guarded | go_step)
  (with_reducible refine (data_c w2 g2 8 e2).mono ?_)
  rintro e w3 ⟨rfl, rfl⟩
  go_simp
  repeat' (first | go_at_call 27 | go_skip | go_guarded | go_step)
  (with_reducible refine (data_c w2 g1 0 e1).mono ?_)
  rintro e w3 ⟨rfl, rfl⟩
  go_simp
  repeat' (first | go_skip | go_guarded | go_step)
  go_ret
  exact ⟨rfl, H2.out⟩
end Go.Proofs.Ytlgnokhfioglaaa
