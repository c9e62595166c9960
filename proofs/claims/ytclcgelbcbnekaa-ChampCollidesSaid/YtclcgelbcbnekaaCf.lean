/- Contracts: a bucket's Drop; a bucket's value by its key; an empty bucket. -/
import Derived.Test.YtclcgelbcbnekaaBh
set_option linter.unusedVariables false
set_option linter.unusedSimpArgs false
namespace Go.QS
variable [Zero (Nat → Prop)]
set_option linter.unusedSectionVars false
theorem getL_iff : ∀ {x : List Pr}, Rise x → ∀ {key v : List UInt8}, getL key x = some v ↔ (key, v) ∈ x
  | [], _, key, v => by simp [getL]
  | p :: x, h, key, v => by
    have h' := rise_cons.1 h
    unfold getL
    rw [List.find?_cons]
    by_cases hp : p.1 = key
    · have e : (p.1 == key) = true := by simp [hp]
      rw [e]
      simp only [Option.map_some, Option.some.injEq, List.mem_cons]
      constructor
      · intro hv; left; rw [← hp, ← hv]
      · rintro (hv | hv)
        · rw [← hv]
        · exact absurd hp (k_ne (h'.1 _ hv))
    · have e : (p.1 == key) = false := by simpa using hp
      rw [e]
      show getL key x = some v ↔ _
      rw [getL_iff h'.2, List.mem_cons]
      constructor
      · exact .inr
      · rintro (hv | hv)
        · rw [← hv] at hp; exact absurd rfl hp
        · exact hv
theorem opt_ext {α : Type} {a b : Option α} (h : ∀ v, a = some v ↔ b = some v) : a = b := by
  cases a with
  | none =>
    cases b with
    | none => rfl
    | some v => exact absurd ((h v).2 rfl) (by simp)
  | some v => exact ((h v).1 rfl).symm

theorem getL_has {l : List Pr} (h : Rise l) (k : List UInt8) : (getL k l).isSome = hasK l k := by
  rw [Bool.eq_iff_iff, Option.isSome_iff_exists, hasK_iff]
  constructor
  · rintro ⟨v, hv⟩
    exact ⟨_, (getL_iff h).1 hv, rfl⟩
  · rintro ⟨q, hq, rfl⟩
    exact ⟨q.2, (getL_iff h).2 hq⟩
end Go.QS
namespace Go.Proofs.Ytclcgelbcbnekaa
open Go.RowKit Go.QS Go.QS.Nk
set_option linter.unusedVariables false
variable [Zero (Nat → Prop)]
set_option linter.unusedSectionVars false

set_option maxRecDepth 100000 in
set_option maxHeartbeats 2000000 in
theorem bdrop_c (w : World) (g : Nat) (l : List Pr) (key : List UInt8) (h : Bk ND w g l) (hr : Rise l) (h9 : l.length ≤ 400000000) :
    Calls Try.prog 43 #[ptr g, nil0, str key] w fun e w' => ∃ c, e = .returned (ptr c) ∧ Bk ND w' c (rdrop l key) ∧ Ext w w' ∧ w.heap.size ≤ c := by
  obtain ⟨ow, pv, kv, nd⟩ := h
  have HNW := Lib.hid nd.nw
  have HA := Lib.hid nd
  have HR := Lib.hid hr
  clear nd hr
  go_enter Try.func43, Try.ntmps43
  repeat' (first | go_at_call 58 | go_skip | go_guarded | go_step)
  refine (isb_c w g true HA.out.node.cells.2.2.2.2.1).mono ?_
  rintro e w1 ⟨rfl, f1⟩
  have H1 : Hid (Ext w w1) := Lib.hid f1
  clear f1
  go_simp
  repeat' (first | go_at_call 64 | go_skip | go_guarded | go_step)
  refine (nown_c w1 g 0 0 l [] true ow pv kv (HA.out.ext H1.out) (by omega) (by simp)).mono ?_
  rintro e x1 ⟨c, pv1, kv1, rfl, nO, hc, f1⟩
  obtain ⟨A1, C1, rfl⟩ := own_slice nO.pairs
  have hcw : w.heap.size ≤ c := by have := H1.out.size; omega
  have H2 : Hid (Ext w x1 ∧ _) := Lib.hid ⟨H1.out.trans f1, nO⟩
  have e2 := nO.node.cells.2.2.1
  have ef := nO.node.free 2
  have HN := Lib.hid (fun x3 (f : Ext x1 x3) => (nO.node.ext f))
  clear nO f1 hc
  go_simp
  repeat' (go_not_at_region 4; (first | go_skip | go_guarded | go_step))
  have HC : Hid (∀ W : World, Ext x1 W → Calls Try.prog 91 #[.slice A1 l.length C1, str key] W fun e w' => ∃ v', e = .returned v' ∧ w'.ownsRow W.heap.size NP 2 v' (rdrop l key).length (flat (rdrop l key)) ∧ Ext W w') := Lib.hid (fun W f => pdrop_c W _ l key (PS.of_own (H2.out.2.ext f).pairs) HR.out h9)
  repeat' (first | go_at_call 91 | go_skip | go_guarded | go_step)
  refine (HC.out _ (Ext.refl x1)).mono ?_
  rintro e x3 ⟨v3, rfl, r3, f3⟩
  obtain ⟨A3, C3, rfl⟩ := own_slice r3
  have k3 : Hid (Ext x1 x3) := Lib.hid f3
  have e3 := (HN.out x3 k3.out).cells.2.2.1
  have ef3 := (HN.out x3 k3.out).free 2
  clear f3
  go_simp
  have hfin := Lib.hid (bk_fin H2.out.1 hcw H2.out.2 k3.out r3 HNW.out (by have := H1.out.size; omega) H2.out.1.size)
  repeat' (first | go_skip | go_guarded | go_step)
  go_ret
  exact ⟨c, rfl, hfin.out.1, hfin.out.2, hcw⟩
set_option maxRecDepth 100000 in
theorem in_c (w : World) (g : Nat) (l : List Pr) (key : List UInt8) (hB : Bk ND w g l) (hr : Rise l) (h9 : l.length ≤ 400000000) :
    Calls Try.prog 140 #[ptr g, str key] w fun e w' => e = .returned (.tuple #[str ((getL key l).getD []), .bool (hasK l key)]) ∧ Ext w w' := by
  have hha := hasK_at (k := key) hr
  have hgl : ∀ v, getL key l = some v ↔ (key, v) ∈ l := fun v => getL_iff hr
  have hgh := getL_has hr key
  obtain ⟨ow, pv, kv, nd⟩ := hB
  have HP := Lib.hid (npairs_c w g pv l nd.node.cells.2.2.1 nd.pairs (by omega))
  have HFF := Lib.hid (fun W v (h : PS W v l) => Pch.find_c W v l key h hr (by omega))
  clear nd hr
  obtain ⟨n, hn2⟩ : ∃ n, n = l.length := ⟨_, rfl⟩
  have Hn := Lib.hid hn2
  obtain ⟨f, hf⟩ : ∃ f, f = fndI l key := ⟨_, rfl⟩
  rw [← hf] at hha HFF
  clear hf hn2
  obtain ⟨u, hu⟩ : ∃ u, u = (getL key l).getD [] := ⟨_, rfl⟩
  rw [← hu]
  obtain ⟨th, hth⟩ : ∃ th, th = hasK l key := ⟨_, rfl⟩
  rw [← hth] at HFF hha hgh ⊢
  clear hth
  go_enter Try.func140, Try.ntmps140
  repeat' (first | go_at_call 38 | go_skip | go_guarded | go_step)
  refine HP.out.mono ?_
  rintro e w0 ⟨v0, rfl, o0, f0⟩
  have HF := Lib.hid (HFF.out w0 v0 (PS.of_own o0))
  obtain ⟨A, c, rfl, hl, hn, hc, hs⟩ := PS.of_own o0
  have HS := Lib.hid (And.intro hs f0)
  rw [← Hn.out] at hn ⊢
  have hn9 : n ≤ 400000000 := by rw [Hn.out]; exact h9
  clear o0 f0 hl hs h9
  cases th with
  | false =>
    have hgn : getL key l = none := by cases hg : getL key l with | none => rfl | some v => rw [hg] at hgh; cases hgh
    rw [hgn] at hu
    have hu2 : u = [] := hu
    subst hu2
    rw [← Hn.out] at HF
    clear hha hgl hgh hgn hu
    go_simp
    repeat' (first | go_at_call 138 | go_skip | go_guarded | go_step)
    refine HF.out.mono ?_
    rintro e w1 ⟨rfl, f1⟩
    have F1 := Lib.hid (HS.out.2.trans f1)
    clear f1
    go_simp
    repeat' (first | go_skip | go_guarded | go_step)
    go_ret2
    exact ⟨rfl, F1.out⟩
  | true =>
    have hlt : f < l.length := by
      rcases Nat.lt_or_ge f l.length with h | h
      · exact h
      · rw [List.getElem?_eq_none_iff.2 h] at hha; cases hha
    obtain ⟨q, hq⟩ := get_of_lt l hlt
    obtain ⟨b, o, rfl, hq1, hq2⟩ := seg_pair HS.out.1 hq
    have hi1 : (f : Int) < (n : Int) := by have := Hn.out; omega
    have hbl : b < w0.heap.size := World.block_lt_of_cell? w0 _ hq1
    have HQ := Lib.hid hq2
    have hgs : getL key l = some q.2 := by
      rw [hq] at hha
      have e : q.1 = key := by simpa using hha.symm
      exact (hgl q.2).2 (by rw [← e]; exact List.mem_of_getElem? hq)
    rw [hgs] at hu
    have hu2 : u = q.2 := hu
    subst hu2
    clear hu hha hq hlt hq1 hq2 hgl hgh hgs
    go_simp
    repeat' (first | go_at_call 138 | go_skip | go_guarded | go_step)
    rw [← Hn.out] at HF
    refine HF.out.mono ?_
    rintro e w1 ⟨rfl, f1⟩
    have F1 := Lib.hid (HS.out.2.trans f1)
    have hq2 := (f1.cell (p := ⟨b, o + f * 2 + 1, none⟩) hbl).trans HQ.out
    clear f1
    go_simp
    repeat' (first | go_skip | go_guarded | go_step)
    go_ret2
    exact ⟨rfl, F1.out⟩
set_option maxRecDepth 100000 in
theorem bucket0_c (w : World) (hnw : ∀ k, w.heap.size ≤ k → S9 k) : Calls Try.prog 41 #[] w fun e w' => ∃ g, e = .returned (ptr g) ∧ Bk ND w' g [] ∧ Ext w w' ∧ w.heap.size ≤ g := by
  obtain ⟨wa, hwa⟩ : ∃ x, x = w.alloc (.cells #[.int .u32 (0 : Nat), .int .u32 (0 : Nat), .slice none 0 0, .slice none 0 0, .bool true, .pointer none] ND) := ⟨_, rfl⟩
  have HNW := Lib.hid hnw
  clear hnw
  have hN : NdAt ND wa w.heap.size 0 0 (.slice none 0 0) (.slice none 0 0) true none := by rw [hwa]; exact NdAt.new ND w rfl
  have hEa : Ext w wa := by rw [hwa]; exact (Ext.refl _).alloc (Nat.le_refl _) _
  have HA := Lib.hid (And.intro hwa.symm (And.intro hN hEa))
  clear hwa hN hEa
  go_enter Try.func41, Try.ntmps41
  repeat' (first | go_skip | go_guarded | go_step)
  have hW : w.alloc (.cells #[.int .u32 0, .int .u32 0, .slice none 0 0, .slice none 0 0, .bool true, .pointer none] 128) = wa := HA.out.1
  rw [hW]
  clear hW
  go_ret
  exact ⟨_, rfl, ⟨none, .slice none 0 0, .slice none 0 0, HA.out.2.1, Sl.nil _ _, Sl.nil _ _, fun k hk => HNW.out k (Nat.le_trans HA.out.2.2.size hk), HNW.out _ (Nat.le_refl _), fun b hb => (by cases hb), fun b hb => (by cases hb), fun b hb => (by cases hb), fun b hb => (by cases hb)⟩, HA.out.2.2, Nat.le_refl _⟩
end Go.Proofs.Ytclcgelbcbnekaa
