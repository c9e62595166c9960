/- Texts joined. -/
import Derived.Test.YtbmakajadelckaaM09
import Derived.Test.YtbmakajadelckaaOa
import Derived.Test.YtbmakajadelckaaM04
import Derived.Deep.RegionWith
import Derived.Test.YtbmakajadelckaaM00
import Derived.Test.YtbmakajadelckaaRows
import Derived.Laws.Bits64b
import Derived.Deep.LoopGhost
set_option linter.unusedVariables false
set_option linter.unusedSimpArgs false
/- Contracts: a bucket's Put and Drop, without a token; a bucket's value; an empty bucket. -/
namespace Go.Proofs.Ytbmakajadelckaa
open Go.RowKit Go.QS Go.QS.Nk
set_option linter.unusedVariables false

theorem bk_fin {w x1 x3 : World} {c B : Nat} {L L' : List Pr} {ow : Option Addr} {pv kv v3 : Value} (hE : Ext w x1) (hc : w.heap.size ≤ c) (hN : NdO ND NP NK B x1 c 0 0 L [] true ow pv kv) (f : Ext x1 x3) {B2 : Nat} (r : x3.ownsRow B2 NP 2 v3 L'.length (flat L')) :
    Bk ND (x3.setCell ⟨c, 2, none⟩ v3) c L' ∧ Ext w (x3.setCell ⟨c, 2, none⟩ v3) := by
  have nd := (hN.ext f)
  refine ⟨⟨ow, v3, kv, nd.node.set2 v3, PS.of_own (own_other r nd.node (by decide) 2 v3), Sl.of_own (own_other nd.kids nd.node (by decide) 2 v3)⟩, ?_⟩
  exact (hE.trans f).setCell hc v3
set_option maxRecDepth 100000 in
set_option maxHeartbeats 2000000 in
theorem bput_c (w : World) (g : Nat) (l : List Pr) (p : Pr) (h : Bk ND w g l) (hr : Rise l) (h9 : l.length ≤ 400000000) :
    Calls Try.prog 83 #[ptr g, nil0, .agg #[str p.1, str p.2]] w fun e w' => ∃ c, e = .returned (ptr c) ∧ Bk ND w' c (rput l p) ∧ Ext w w' ∧ w.heap.size ≤ c := by
  obtain ⟨ow, pv, kv, nd⟩ := h
  obtain ⟨wa, hwa⟩ : ∃ x, x = w.alloc (.cells #[str p.1, str p.2] NP) := ⟨_, rfl⟩
  have hEa : Ext w wa := by rw [hwa]; exact (Ext.refl _).alloc (Nat.le_refl _) _
  obtain ⟨rb, hrb⟩ : ∃ x, x = w.heap.size := ⟨_, rfl⟩
  have hB : wa.heap[rb]? = some (.cells #[str p.1, str p.2] NP (0, 0)) := by rw [hwa, hrb]; exact heap_new w _
  have HA := Lib.hid (And.intro hwa.symm (And.intro hrb.symm (And.intro hEa (And.intro hB (nd.ext hEa)))))
  have HR := Lib.hid hr
  clear hwa hEa hrb hB nd hr
  go_enter Try.func83, Try.ntmps83
  repeat' (first | go_at_call 38 | go_skip | go_guarded | go_step)
  have hW := HA.out.1
  rw [hW, HA.out.2.1]
  clear hW
  refine (isb_c wa g true HA.out.2.2.2.2.node.cells.2.2.2.2.1).mono ?_
  rintro e w1 ⟨rfl, f1⟩
  have H1 : Hid (Ext wa w1) := Lib.hid f1
  clear f1
  go_simp
  repeat' (first | go_at_call 110 | go_skip | go_guarded | go_step)
  refine (nown_c w1 g 0 0 l [] true ow pv kv (HA.out.2.2.2.2.ext H1.out) (by omega) (by simp)).mono ?_
  rintro e x1 ⟨c, pv1, kv1, rfl, nO, hc, f1⟩
  obtain ⟨A1, C1, rfl⟩ := own_slice nO.pairs
  have hcw : w.heap.size ≤ c := by have := HA.out.2.2.1.size; have := H1.out.size; omega
  have H2 : Hid (Ext w x1 ∧ _ ∧ Ext wa x1) := Lib.hid ⟨HA.out.2.2.1.trans (H1.out.trans f1), nO, H1.out.trans f1⟩
  have e2 := nO.node.cells.2.2.1
  have ef := nO.node.free 2
  have hb := box_ext' HA.out.2.2.2.1 H2.out.2.2
  obtain ⟨b0, b1, bf⟩ := box_facts hb
  have HB := Lib.hid (And.intro hb e2)
  have HN := Lib.hid (fun x3 (f : Ext x1 x3) => (nO.node.ext f))
  clear nO f1 hb hc
  go_simp
  repeat' (go_not_at_region 4; (first | go_skip | go_guarded | go_step))
  have HC : Hid (∀ W : World, Ext x1 W → Calls Try.prog 111 #[.slice A1 l.length C1, .agg #[str p.1, str p.2]] W fun e w' => ∃ v', e = .returned v' ∧ w'.ownsRow W.heap.size NP 2 v' (rput l p).length (flat (rput l p)) ∧ Ext W w') := Lib.hid (fun W f => pput_c W _ l p (PS.of_own (H2.out.2.1.ext f).pairs) HR.out h9)
  go_region_with (go_at_call 111; refine (HC.out _ (below_drewN (Ext.refl x1) 1)).mono ?_; rintro e x3 ⟨v3, rfl, r3, f3⟩; obtain ⟨A3, C3, rfl⟩ := own_slice r3; have k3 : Hid (Ext x1 x3) := Lib.hid (Ext.trans (below_drewN (Ext.refl x1) 1) f3); have e3 := (HN.out x3 k3.out).cells.2.2.1; have ef3 := (HN.out x3 k3.out).free 2)
  all_goals
    have hfin := Lib.hid (bk_fin H2.out.1 hcw H2.out.2.1 k3.out r3)
    repeat' (first | go_skip | go_guarded | go_step)
    go_ret
    exact ⟨c, rfl, hfin.out.1, hfin.out.2, hcw⟩
end Go.Proofs.Ytbmakajadelckaa
/- Contracts: a bucket's Drop; a bucket's value by its key; an empty bucket. -/
namespace Go.QS
theorem getL_iff : ∀ {x : List Pr}, Rise x → ∀ {key v : List UInt8}, getL key x = some v ↔ (key, v) ∈ x
  | [], _, key, v => by simp [getL]
  | p :: x, h, key, v => by
    have h' := rise_cons.1 h
    unfold getL
    rw [List.find?_cons]
    by_cases hp : p.1 = key
    · have e : (p.1 == key) = true := by simp [hp]
      rw [e]
      simp only [Option.map_some, Option.some.injEq, List.mem_cons]
      constructor
      · intro hv; left; rw [← hp, ← hv]
      · rintro (hv | hv)
        · rw [← hv]
        · exact absurd hp (k_ne (h'.1 _ hv))
    · have e : (p.1 == key) = false := by simpa using hp
      rw [e]
      show getL key x = some v ↔ _
      rw [getL_iff h'.2, List.mem_cons]
      constructor
      · exact .inr
      · rintro (hv | hv)
        · rw [← hv] at hp; exact absurd rfl hp
        · exact hv
theorem opt_ext {α : Type} {a b : Option α} (h : ∀ v, a = some v ↔ b = some v) : a = b := by
  cases a with
  | none =>
    cases b with
    | none => rfl
    | some v => exact absurd ((h v).2 rfl) (by simp)
  | some v => exact ((h v).1 rfl).symm

theorem getL_has {l : List Pr} (h : Rise l) (k : List UInt8) : (getL k l).isSome = hasK l k := by
  rw [Bool.eq_iff_iff, Option.isSome_iff_exists, hasK_iff]
  constructor
  · rintro ⟨v, hv⟩
    exact ⟨_, (getL_iff h).1 hv, rfl⟩
  · rintro ⟨q, hq, rfl⟩
    exact ⟨q.2, (getL_iff h).2 hq⟩
end Go.QS
namespace Go.Proofs.Ytbmakajadelckaa
open Go.RowKit Go.QS Go.QS.Nk
set_option linter.unusedVariables false

set_option maxRecDepth 100000 in
set_option maxHeartbeats 2000000 in
theorem bdrop_c (w : World) (g : Nat) (l : List Pr) (key : List UInt8) (h : Bk ND w g l) (hr : Rise l) (h9 : l.length ≤ 400000000) :
    Calls Try.prog 99 #[ptr g, nil0, str key] w fun e w' => ∃ c, e = .returned (ptr c) ∧ Bk ND w' c (rdrop l key) ∧ Ext w w' ∧ w.heap.size ≤ c := by
  obtain ⟨ow, pv, kv, nd⟩ := h
  have HA := Lib.hid nd
  have HR := Lib.hid hr
  clear nd hr
  go_enter Try.func99, Try.ntmps99
  repeat' (first | go_at_call 38 | go_skip | go_guarded | go_step)
  refine (isb_c w g true HA.out.node.cells.2.2.2.2.1).mono ?_
  rintro e w1 ⟨rfl, f1⟩
  have H1 : Hid (Ext w w1) := Lib.hid f1
  clear f1
  go_simp
  repeat' (first | go_at_call 110 | go_skip | go_guarded | go_step)
  refine (nown_c w1 g 0 0 l [] true ow pv kv (HA.out.ext H1.out) (by omega) (by simp)).mono ?_
  rintro e x1 ⟨c, pv1, kv1, rfl, nO, hc, f1⟩
  obtain ⟨A1, C1, rfl⟩ := own_slice nO.pairs
  have hcw : w.heap.size ≤ c := by have := H1.out.size; omega
  have H2 : Hid (Ext w x1 ∧ _) := Lib.hid ⟨H1.out.trans f1, nO⟩
  have e2 := nO.node.cells.2.2.1
  have ef := nO.node.free 2
  have HN := Lib.hid (fun x3 (f : Ext x1 x3) => (nO.node.ext f))
  clear nO f1 hc
  go_simp
  repeat' (go_not_at_region 4; (first | go_skip | go_guarded | go_step))
  have HC : Hid (∀ W : World, Ext x1 W → Calls Try.prog 120 #[.slice A1 l.length C1, str key] W fun e w' => ∃ v', e = .returned v' ∧ w'.ownsRow W.heap.size NP 2 v' (rdrop l key).length (flat (rdrop l key)) ∧ Ext W w') := Lib.hid (fun W f => pdrop_c W _ l key (PS.of_own (H2.out.2.ext f).pairs) HR.out h9)
  repeat' (first | go_at_call 120 | go_skip | go_guarded | go_step)
  refine (HC.out _ (Ext.refl x1)).mono ?_
  rintro e x3 ⟨v3, rfl, r3, f3⟩
  obtain ⟨A3, C3, rfl⟩ := own_slice r3
  have k3 : Hid (Ext x1 x3) := Lib.hid f3
  have e3 := (HN.out x3 k3.out).cells.2.2.1
  have ef3 := (HN.out x3 k3.out).free 2
  clear f3
  go_simp
  have hfin := Lib.hid (bk_fin H2.out.1 hcw H2.out.2 k3.out r3)
  repeat' (first | go_skip | go_guarded | go_step)
  go_ret
  exact ⟨c, rfl, hfin.out.1, hfin.out.2, hcw⟩
set_option maxRecDepth 100000 in
theorem in_c (w : World) (g : Nat) (l : List Pr) (key : List UInt8) (hB : Bk ND w g l) (hr : Rise l) (h9 : l.length ≤ 400000000) :
    Calls Try.prog 82 #[ptr g, str key] w fun e w' => e = .returned (.tuple #[str ((getL key l).getD []), .bool (hasK l key)]) ∧ Ext w w' := by
  have hha := hasK_at (k := key) hr
  have hgl : ∀ v, getL key l = some v ↔ (key, v) ∈ l := fun v => getL_iff hr
  have hgh := getL_has hr key
  obtain ⟨ow, pv, kv, nd⟩ := hB
  have HP := Lib.hid (npairs_c w g pv l nd.node.cells.2.2.1 nd.pairs (by omega))
  have HFF := Lib.hid (fun W v (h : PS W v l) => Pch.find_c W v l key h hr (by omega))
  clear nd hr
  obtain ⟨n, hn2⟩ : ∃ n, n = l.length := ⟨_, rfl⟩
  have Hn := Lib.hid hn2
  obtain ⟨f, hf⟩ : ∃ f, f = fndI l key := ⟨_, rfl⟩
  rw [← hf] at hha HFF
  clear hf hn2
  obtain ⟨u, hu⟩ : ∃ u, u = (getL key l).getD [] := ⟨_, rfl⟩
  rw [← hu]
  obtain ⟨th, hth⟩ : ∃ th, th = hasK l key := ⟨_, rfl⟩
  rw [← hth] at HFF hha hgh ⊢
  clear hth
  go_enter Try.func82, Try.ntmps82
  repeat' (first | go_at_call 43 | go_skip | go_guarded | go_step)
  refine HP.out.mono ?_
  rintro e w0 ⟨v0, rfl, o0, f0⟩
  have HF := Lib.hid (HFF.out w0 v0 (PS.of_own o0))
  obtain ⟨A, c, rfl, hl, hn, hc, hs⟩ := PS.of_own o0
  have HS := Lib.hid (And.intro hs f0)
  rw [← Hn.out] at hn ⊢
  have hn9 : n ≤ 400000000 := by rw [Hn.out]; exact h9
  clear o0 f0 hl hs h9
  cases th with
  | false =>
    have hgn : getL key l = none := by cases hg : getL key l with | none => rfl | some v => rw [hg] at hgh; cases hgh
    rw [hgn] at hu
    have hu2 : u = [] := hu
    subst hu2
    rw [← Hn.out] at HF
    clear hha hgl hgh hgn hu
    go_simp
    repeat' (first | go_at_call 109 | go_skip | go_guarded | go_step)
    refine HF.out.mono ?_
    rintro e w1 ⟨rfl, f1⟩
    have F1 := Lib.hid (HS.out.2.trans f1)
    clear f1
    go_simp
    repeat' (first | go_skip | go_guarded | go_step)
    go_ret2
    exact ⟨rfl, F1.out⟩
  | true =>
    have hlt : f < l.length := by
      rcases Nat.lt_or_ge f l.length with h | h
      · exact h
      · rw [List.getElem?_eq_none_iff.2 h] at hha; cases hha
    obtain ⟨q, hq⟩ := get_of_lt l hlt
    obtain ⟨b, o, rfl, hq1, hq2⟩ := seg_pair HS.out.1 hq
    have hi1 : (f : Int) < (n : Int) := by have := Hn.out; omega
    have hbl : b < w0.heap.size := World.block_lt_of_cell? w0 _ hq1
    have HQ := Lib.hid hq2
    have hgs : getL key l = some q.2 := by
      rw [hq] at hha
      have e : q.1 = key := by simpa using hha.symm
      exact (hgl q.2).2 (by rw [← e]; exact List.mem_of_getElem? hq)
    rw [hgs] at hu
    have hu2 : u = q.2 := hu
    subst hu2
    clear hu hha hq hlt hq1 hq2 hgl hgh hgs
    go_simp
    repeat' (first | go_at_call 109 | go_skip | go_guarded | go_step)
    rw [← Hn.out] at HF
    refine HF.out.mono ?_
    rintro e w1 ⟨rfl, f1⟩
    have F1 := Lib.hid (HS.out.2.trans f1)
    have hq2 := (f1.cell (p := ⟨b, o + f * 2 + 1, none⟩) hbl).trans HQ.out
    clear f1
    go_simp
    repeat' (first | go_skip | go_guarded | go_step)
    go_ret2
    exact ⟨rfl, F1.out⟩
set_option maxRecDepth 100000 in
theorem bucket0_c (w : World) : Calls Try.prog 117 #[] w fun e w' => ∃ g, e = .returned (ptr g) ∧ Bk ND w' g [] ∧ Ext w w' ∧ w.heap.size ≤ g := by
  obtain ⟨wa, hwa⟩ : ∃ x, x = w.alloc (.cells #[.int .u32 (0 : Nat), .int .u32 (0 : Nat), .slice none 0 0, .slice none 0 0, .bool true, .pointer none] ND) := ⟨_, rfl⟩
  have hN : NdAt ND wa w.heap.size 0 0 (.slice none 0 0) (.slice none 0 0) true none := by rw [hwa]; exact NdAt.new ND w rfl
  have hEa : Ext w wa := by rw [hwa]; exact (Ext.refl _).alloc (Nat.le_refl _) _
  have HA := Lib.hid (And.intro hwa.symm (And.intro hN hEa))
  clear hwa hN hEa
  go_enter Try.func117, Try.ntmps117
  repeat' (first | go_skip | go_guarded | go_step)
  have hW : w.alloc (.cells #[.int .u32 0, .int .u32 0, .slice none 0 0, .slice none 0 0, .bool true, .pointer none] 138) = wa := HA.out.1
  rw [hW]
  clear hW
  go_ret
  exact ⟨_, rfl, ⟨none, .slice none 0 0, .slice none 0 0, HA.out.2.1, Sl.nil _ _, Sl.nil _ _⟩, HA.out.2.2, Nat.le_refl _⟩
end Go.Proofs.Ytbmakajadelckaa
/- Plain: sixty-four bits turned left, a bit at a time and at once. -/
namespace Go.QS

/-- One bit to the left, round. -/
def rot1 (x : Nat) : Nat := x * 2 % 18446744073709551616 + x / 9223372036854775808
def turnN : Nat → Nat → Nat
  | 0, x => x
  | k + 1, x => turnN k (rot1 x)
theorem rot1_lt {x : Nat} (h : x < 18446744073709551616) : rot1 x < 18446744073709551616 := by
  unfold rot1; omega
theorem turnN_lt : ∀ (k : Nat) {x : Nat}, x < 18446744073709551616 → turnN k x < 18446744073709551616
  | 0, _, h => h
  | k + 1, _, h => turnN_lt k (rot1_lt h)
theorem turnN_succ : ∀ (k x : Nat), turnN (k + 1) x = rot1 (turnN k x)
  | 0, _ => rfl
  | k + 1, x => turnN_succ k (rot1 x)
/-- What lies above goes below. -/
def rotA (x k : Nat) : Nat := x % 2 ^ (64 - k) * 2 ^ k + x / 2 ^ (64 - k)
theorem rotA_zero {x : Nat} (h : x < 18446744073709551616) : rotA x 0 = x := by
  unfold rotA
  rw [show (64 - 0 : Nat) = 64 from rfl, Nat.mod_eq_of_lt (by simpa using h), Nat.div_eq_of_lt (by simpa using h)]
  simp
theorem rotA_succ {x k : Nat} (hk : k < 64) (h : x < 18446744073709551616) : rot1 (rotA x k) = rotA x (k + 1) := by
  obtain ⟨m, hm⟩ : ∃ m, 64 - (k + 1) = m := ⟨_, rfl⟩
  have e1 : 64 - k = m + 1 := by omega
  have e2 : k + 1 + m = 64 := by omega
  unfold rotA
  rw [hm, e1]
  obtain ⟨P, hP⟩ : ∃ P, 2 ^ m = P := ⟨_, rfl⟩
  obtain ⟨K, hK⟩ : ∃ K, 2 ^ k = K := ⟨_, rfl⟩
  have hPK : 2 * (K * P) = 18446744073709551616 := by
    rw [← hP, ← hK, ← Nat.pow_add, ← Nat.pow_succ', show (k + m).succ = 64 by omega]
  have hP0 : 0 < P := by rw [← hP]; exact Nat.two_pow_pos m
  have hK0 : 0 < K := by rw [← hK]; exact Nat.two_pow_pos k
  rw [Nat.pow_succ 2 m, Nat.pow_succ 2 k, hP, hK]
  obtain ⟨a, ha⟩ : ∃ a, x / (P * 2) = a := ⟨_, rfl⟩
  obtain ⟨y, hy⟩ : ∃ y, x % (P * 2) = y := ⟨_, rfl⟩
  have hx : x = P * 2 * a + y := by rw [← ha, ← hy]; exact (Nat.div_add_mod x (P * 2)).symm
  have hy2 : y < P * 2 := by rw [← hy]; exact Nat.mod_lt _ (by omega)
  obtain ⟨c, hc⟩ : ∃ c, y / P = c := ⟨_, rfl⟩
  obtain ⟨d, hd⟩ : ∃ d, y % P = d := ⟨_, rfl⟩
  have hyc : y = P * c + d := by rw [← hc, ← hd]; exact (Nat.div_add_mod y P).symm
  have hd2 : d < P := by rw [← hd]; exact Nat.mod_lt _ hP0
  have hc2 : c < 2 := by
    rw [← hc]; exact (Nat.div_lt_iff_lt_mul hP0).2 (by omega)
  have ha2 : a < K := by
    rw [← ha]
    refine (Nat.div_lt_iff_lt_mul (by omega)).2 ?_
    have : K * (P * 2) = 18446744073709551616 := by rw [← hPK, ← Nat.mul_assoc, Nat.mul_comm (K * P) 2]
    omega
  have q1 : x / P = 2 * a + c := by
    rw [hx, hyc]
    rw [show P * 2 * a + (P * c + d) = d + P * (2 * a + c) by rw [Nat.mul_add, Nat.mul_assoc]; omega]
    rw [Nat.add_mul_div_left _ _ hP0, Nat.div_eq_of_lt hd2, Nat.zero_add]
  have q2 : x % P = d := by
    rw [hx, hyc]
    rw [show P * 2 * a + (P * c + d) = d + P * (2 * a + c) by rw [Nat.mul_add, Nat.mul_assoc]; omega]
    rw [Nat.add_mul_mod_self_left, Nat.mod_eq_of_lt hd2]
  rw [ha, hy, q1, q2]
  unfold rot1
  have hdK : d * K < P * K := Nat.mul_lt_mul_of_pos_right hd2 hK0
  have hPK2 : P * K = 9223372036854775808 := by rw [Nat.mul_comm P K]; omega
  have hyK : y * K = c * 9223372036854775808 + d * K := by
    rw [hyc, Nat.add_mul, Nat.mul_comm P c, Nat.mul_assoc, hPK2]
  have hKle : K ≤ 9223372036854775808 := by rw [← hPK2]; exact Nat.le_mul_of_pos_left K hP0
  have hdK1 : d * K + K ≤ P * K := by
    have : (d + 1) * K ≤ P * K := Nat.mul_le_mul_right K hd2
    rw [Nat.add_mul, Nat.one_mul] at this
    exact this
  rw [hyK, ← Nat.mul_assoc d K 2]
  rcases (show c = 0 ∨ c = 1 by omega) with rfl | rfl
  · rw [Nat.zero_mul, Nat.zero_add]
    omega
  · rw [Nat.one_mul]
    omega
theorem turnN_rotA {x : Nat} (h : x < 18446744073709551616) : ∀ k, k ≤ 64 → turnN k x = rotA x k
  | 0, _ => (rotA_zero h).symm
  | k + 1, hk => by rw [turnN_succ, turnN_rotA h k (by omega), rotA_succ (by omega) h]
/-- .. as a machine has it. -/
theorem rotA_or {x k : Nat} (hk : k ≤ 64) (h : x < 18446744073709551616) : x * 2 ^ k % 18446744073709551616 ||| x / 2 ^ (64 - k) = rotA x k := by
  have e : 18446744073709551616 = 2 ^ (64 - k) * 2 ^ k := by rw [← Nat.pow_add, show 64 - k + k = 64 by omega]
  have hlt : x / 2 ^ (64 - k) < 2 ^ k := by
    refine (Nat.div_lt_iff_lt_mul (Nat.two_pow_pos _)).2 ?_
    rw [Nat.mul_comm, ← e]; exact h
  rw [e, Nat.mul_mod_mul_right, Nat.mul_comm (x % 2 ^ (64 - k)), ← Nat.two_pow_add_eq_or_of_lt hlt]
  unfold rotA
  rw [Nat.mul_comm]
theorem turn_or {x k : Nat} (hk : k ≤ 64) (h : x < 18446744073709551616) : x * 2 ^ k % 18446744073709551616 ||| x / 2 ^ (64 - k) = turnN k x := by
  rw [turnN_rotA h k hk, rotA_or hk h]
end Go.QS
/- Plain: the hash: four numbers, rounds, bytes taken eight by eight. No program. -/
namespace Go.QS

structure V4 where
  a : Nat
  b : Nat
  c : Nat
  d : Nat
def V4.Ok (v : V4) : Prop := v.a < 18446744073709551616 ∧ v.b < 18446744073709551616 ∧ v.c < 18446744073709551616 ∧ v.d < 18446744073709551616
theorem xor_lt {x y : Nat} (hx : x < 18446744073709551616) (hy : y < 18446744073709551616) : x ^^^ y < 18446744073709551616 := Nat.xor_lt_two_pow (n := 64) hx hy
def ad (x y : Nat) : Nat := (x + y) % 18446744073709551616
theorem ad_lt (x y : Nat) : ad x y < 18446744073709551616 := Nat.mod_lt _ (by decide)
/-- A round, in two halves. -/
def rndA (v : V4) : V4 := ⟨ad (turnN 32 (ad v.a v.b)) (turnN 16 v.d ^^^ ad v.c v.d), turnN 13 v.b ^^^ ad v.a v.b, ad v.c v.d, turnN 16 v.d ^^^ ad v.c v.d⟩
def rndB (v : V4) : V4 := ⟨v.a, turnN 17 v.b ^^^ ad v.c v.b, turnN 32 (ad v.c v.b), turnN 21 v.d ^^^ v.a⟩
def rnd (v : V4) : V4 := rndB (rndA v)
theorem rndA_ok {v : V4} (h : v.Ok) : (rndA v).Ok := ⟨ad_lt _ _, xor_lt (turnN_lt _ h.2.1) (ad_lt _ _), ad_lt _ _, xor_lt (turnN_lt _ h.2.2.2) (ad_lt _ _)⟩
theorem rndB_ok {v : V4} (h : v.Ok) : (rndB v).Ok := ⟨h.1, xor_lt (turnN_lt _ h.2.1) (ad_lt _ _), turnN_lt _ (ad_lt _ _), xor_lt (turnN_lt _ h.2.2.2) h.1⟩
theorem rnd_ok {v : V4} (h : v.Ok) : (rnd v).Ok := rndB_ok (rndA_ok h)
def rnds : Nat → V4 → V4
  | 0, v => v
  | n + 1, v => rnds n (rnd v)
theorem rnds_ok : ∀ (n : Nat) {v : V4}, v.Ok → (rnds n v).Ok
  | 0, _, h => h
  | n + 1, _, h => rnds_ok n (rnd_ok h)
theorem rnds_succ : ∀ (n : Nat) (v : V4), rnds (n + 1) v = rnd (rnds n v)
  | 0, _ => rfl
  | n + 1, v => rnds_succ n (rnd v)
def xd (v : V4) (m : Nat) : V4 := ⟨v.a, v.b, v.c, v.d ^^^ m⟩
def xa (v : V4) (m : Nat) : V4 := ⟨v.a ^^^ m, v.b, v.c, v.d⟩
def xc (v : V4) (m : Nat) : V4 := ⟨v.a, v.b, v.c ^^^ m, v.d⟩
theorem xd_ok {v : V4} {m : Nat} (h : v.Ok) (hm : m < 18446744073709551616) : (xd v m).Ok := ⟨h.1, h.2.1, h.2.2.1, xor_lt h.2.2.2 hm⟩
theorem xa_ok {v : V4} {m : Nat} (h : v.Ok) (hm : m < 18446744073709551616) : (xa v m).Ok := ⟨xor_lt h.1 hm, h.2.1, h.2.2.1, h.2.2.2⟩
theorem xc_ok {v : V4} {m : Nat} (h : v.Ok) (hm : m < 18446744073709551616) : (xc v m).Ok := ⟨h.1, h.2.1, xor_lt h.2.2.1 hm, h.2.2.2⟩
def tk (v : V4) (m : Nat) : V4 := xa (rnds 2 (xd v m)) m
theorem tk_ok {v : V4} {m : Nat} (h : v.Ok) (hm : m < 18446744073709551616) : (tk v m).Ok := xa_ok (rnds_ok 2 (xd_ok h hm)) hm
/-- Bytes as a number, the lowest first. -/
def leN : List UInt8 → Nat
  | [] => 0
  | b :: r => b.toNat + 256 * leN r
theorem leN_lt : ∀ s : List UInt8, leN s < 256 ^ s.length
  | [] => by simp [leN]
  | b :: r => by
    have ih := leN_lt r
    have hb : b.toNat < 256 := by have := UInt8.toNat_lt b; omega
    simp only [leN, List.length_cons, Nat.pow_succ]
    omega
theorem leN_lt8 {s : List UInt8} (h : s.length ≤ 8) : leN s < 18446744073709551616 := by
  have h1 := leN_lt s
  have h2 : 256 ^ s.length ≤ 256 ^ 8 := Nat.pow_le_pow_right (by decide) h
  have h3 : (256 : Nat) ^ 8 = 18446744073709551616 := by decide
  omega
theorem leN_lt7 {s : List UInt8} (h : s.length ≤ 7) : leN s < 72057594037927936 := by
  have h1 := leN_lt s
  have h2 : 256 ^ s.length ≤ 256 ^ 7 := Nat.pow_le_pow_right (by decide) h
  have h3 : (256 : Nat) ^ 7 = 72057594037927936 := by decide
  omega
/-- All bytes; n: how many there were. -/
def absorb (n : Nat) : Nat → V4 → List UInt8 → V4
  | 0, v, s => tk v (leN s + n % 256 * 72057594037927936)
  | f + 1, v, s => absorb n f (tk v (leN (s.take 8))) (s.drop 8)
def fin (v : V4) : Nat := let u := rnds 4 (xc v 255); u.a ^^^ u.b ^^^ u.c ^^^ u.d
def sip0 (k0 k1 : Nat) : V4 := ⟨k0 ^^^ 0x736f6d6570736575, k1 ^^^ 0x646f72616e646f6d, k0 ^^^ 0x6c7967656e657261, k1 ^^^ 0x7465646279746573⟩
def sipN (k0 k1 : Nat) (s : List UInt8) : Nat := fin (absorb s.length (s.length / 8) (sip0 k0 k1) s)
theorem sip0_ok {k0 k1 : Nat} (h0 : k0 < 18446744073709551616) (h1 : k1 < 18446744073709551616) : (sip0 k0 k1).Ok :=
  ⟨xor_lt h0 (by decide), xor_lt h1 (by decide), xor_lt h0 (by decide), xor_lt h1 (by decide)⟩
theorem fin_lt {v : V4} (h : v.Ok) : fin v < 18446744073709551616 := by
  obtain ⟨h1, h2, h3, h4⟩ := rnds_ok 4 (xc_ok (m := 255) h (by decide))
  exact xor_lt (xor_lt (xor_lt h1 h2) h3) h4
theorem absorb_ok (n : Nat) : ∀ (f : Nat) {v : V4} {s : List UInt8}, v.Ok → s.length / 8 = f → (absorb n f v s).Ok
  | 0, v, s, h, hf => tk_ok h (by have := leN_lt7 (s := s) (by omega); omega)
  | f + 1, v, s, h, hf => absorb_ok n f (tk_ok h (leN_lt8 (by simp; omega))) (by simp; omega)
theorem sipN_lt {k0 k1 : Nat} (h0 : k0 < 18446744073709551616) (h1 : k1 < 18446744073709551616) (s : List UInt8) : sipN k0 k1 s < 18446744073709551616 :=
  fin_lt (absorb_ok _ _ (sip0_ok h0 h1) rfl)
/-- A byte more, ahead. -/
theorem leN_at (s : List UInt8) (i n : Nat) : leN ((s.drop i).take (n + 1)) = (match s[i]? with | some b => b.toNat | none => 0) + 256 * leN ((s.drop (i + 1)).take n) := by
  cases h : s[i]? with
  | none =>
    have hl : s.length ≤ i := by simpa using h
    rw [List.drop_eq_nil_of_le hl, List.drop_eq_nil_of_le (by omega)]
    simp [leN]
  | some b =>
    obtain ⟨hl, he⟩ := List.getElem?_eq_some_iff.1 h
    rw [List.drop_eq_getElem_cons hl, he, List.take_succ_cons]
    rfl
/-- As a machine shifts them together. -/
theorem or_shift {A b k : Nat} (hb : b < 256) : A * 2 ^ (k + 8) ||| b * 2 ^ k = (A * 256 + b) * 2 ^ k := by
  have h1 : b * 2 ^ k < 2 ^ (k + 8) := by
    rw [Nat.pow_add, Nat.mul_comm (2 ^ k)]
    exact Nat.mul_lt_mul_of_pos_right (by simpa using hb) (Nat.two_pow_pos k)
  rw [Nat.mul_comm A, ← Nat.two_pow_add_eq_or_of_lt h1, Nat.add_mul, Nat.pow_add]
  have : 2 ^ k * 2 ^ 8 * A = A * 256 * 2 ^ k := by
    rw [Nat.mul_comm, Nat.mul_comm (2 ^ k), ← Nat.mul_assoc]
  rw [this]
end Go.QS
/- Contracts: bits turned: by math/bits, and as the document has it; five bits of a hash. -/
namespace Go.Proofs.Ytbmakajadelckaa
open Go.RowKit Go.QS
set_option linter.unusedVariables false

theorem or_law (x k : Nat) (hx : x < 18446744073709551616) (hk : k < 64) : bits BinOp.or IntKind.u64 ((x : Int) * 2 ^ k % 18446744073709551616) ((x : Int) / 2 ^ (64 - k)) = ((turnN k x : Nat) : Int) := by
  have e1 : (x : Int) * 2 ^ k % 18446744073709551616 = ((x * 2 ^ k % 18446744073709551616 : Nat) : Int) := by simp
  have e2 : (x : Int) / 2 ^ (64 - k) = ((x / 2 ^ (64 - k) : Nat) : Int) := by simp
  rw [e1, e2, bits_or_u64_nat _ _ (Nat.mod_lt _ (by decide)) (Nat.lt_of_le_of_lt (Nat.div_le_self _ _) hx), turn_or (by omega) hx]
set_option maxRecDepth 100000 in
theorem rotl_c (w : World) (x k : Nat) (hx : x < 18446744073709551616) (hk : k < 64) : Calls Try.prog 124 #[.int .u64 x, .int .i64 k] w fun e w' => e = .returned (.int .u64 (turnN k x)) ∧ w = w' := by
  have hA : bits BinOp.and IntKind.u64 (k : Int) 63 = (k : Int) := by
    have := bits_and_u64_nat k 63 (by omega) (by decide)
    rw [show k &&& 63 = k by rw [show (63 : Nat) = 2 ^ 6 - 1 from rfl, Nat.and_two_pow_sub_one_eq_mod]; exact Nat.mod_eq_of_lt (by omega)] at this
    exact this
  have hw : (k : Int) % 18446744073709551616 = (k : Int) := by omega
  have hs : (64 - (k : Int)) % 18446744073709551616 = ((64 - k : Nat) : Int) := by omega
  have h1 : (k : Int) ≤ 64 := by omega
  have h2 : ((64 - k : Nat) : Int) ≤ 64 := by omega
  have hor := or_law x k hx hk
  go_enter Try.func124, Try.ntmps124
  repeat' (first | go_skip | go_guarded | go_step)
  go_ret
  refine ⟨?_, rfl⟩
  change Ending.returned (Value.int IntKind.u64 (bits BinOp.or IntKind.u64 (IntKind.u64.wrap (↑x * 2 ^ k)) (↑x / 2 ^ (64 - k)))) = _
  rw [IntKind.wrap_u64, hor]
set_option maxRecDepth 100000 in
theorem turn_c (w : World) (x k : Nat) (hx : x < 18446744073709551616) (hk : k < 64) : Calls Try.prog 119 #[.int .u64 x, .int .i64 k] w fun e w' => e = .returned (.int .u64 (turnN k x)) ∧ w = w' := by
  go_enter Try.func119, Try.ntmps119
  repeat' (first | go_skip | go_guarded | go_step)
  go_loopg [5, 0] k (fun gk v5 v0 wr => ∃ i y : Nat, v5 = .int .i64 i ∧ v0 = .int .u64 y ∧ i ≤ k ∧ k - i ≤ gk ∧ y < 18446744073709551616 ∧ Hid (turnN (k - i) y = turnN k x) ∧ wr = w)
  case atStart => exact ⟨0, x, rfl, rfl, Nat.zero_le _, by omega, hx, Lib.hid rfl, rfl⟩
  case round =>
    obtain ⟨i, y, rfl, rfl, hik, hgk, hy, HT, rfl⟩ := hrel
    rcases Nat.lt_or_ge i k with hlt | hge
    · have d1 : decide (i < k) = true := by simp [hlt]
      have hr : rot1 y < 18446744073709551616 := rot1_lt hy
      have e1 : ((y : Int) * 2 % 18446744073709551616 + (y : Int) / 9223372036854775808) % 18446744073709551616 = ((rot1 y : Nat) : Int) := by
        have := hr
        unfold rot1 at this ⊢
        omega
      repeat' (first | go_skip | go_guarded | go_step)
      go_roundg (k - (i + 1))
      case measure => omega
      case rel => exact ⟨i + 1, rot1 y, by go_num, by rw [← e1]; go_num, by omega, Nat.le_refl _, hr, Lib.hid (by rw [← HT.out, show k - i = (k - (i + 1)) + 1 by omega]; rfl), rfl⟩
    · obtain rfl : i = k := by omega
      have d1 : decide (i < i) = false := by simp
      have e2 := HT.out
      rw [Nat.sub_self] at e2
      have e3 : y = turnN i x := e2
      repeat' (first | go_skip | go_guarded | go_step)
      go_ret
      exact ⟨by rw [← e3]; rfl, rfl⟩
end Go.Proofs.Ytbmakajadelckaa
