/- Contracts: champ's alone, drop. -/
import Derived.Test.YtclcgelbcbnekaaCh
import Derived.Laws.Rows
set_option linter.unusedVariables false
set_option linter.unusedSimpArgs false
namespace Go.Proofs.Ytclcgelbcbnekaa
open Go.RowKit Go.QS Go.QS.Nk
set_option linter.unusedVariables false
variable [Zero (Nat → Prop)]
set_option linter.unusedSectionVars false

/-- What a node has alone. -/
def aloneP (l : List Pr) : Pr := if l.length = 1 then l.headD ([], []) else ([], [])
abbrev aloneV (l : List Pr) : Value := .tuple #[.agg #[str (aloneP l).1, str (aloneP l).2], .bool (decide (l.length = 1))]
/-- .. by what it says of itself. -/
def Says (w : World) (g : Nat) (d : Nat) (ps : List Pr) (ks : List Nat) : Prop := ∃ n bk ow pv kv, Nd ND w g n d ps ks bk ow pv kv ∧ d < 4294967296
theorem says_ext {w w' : World} {g d : Nat} {ps : List Pr} {ks : List Nat} (h : Says w g d ps ks) (f : Ext w w') : Says w' g d ps ks := by
  obtain ⟨n, bk, ow, pv, kv, nd, h2⟩ := h
  exact ⟨n, bk, ow, pv, kv, nd.ext f, h2⟩
theorem nodes_zero {sl : List (Slot Nat)} : nodesOf sl = 0 ↔ kdsOf sl = [] := by
  constructor
  · intro h
    cases hk : kdsOf sl with
    | nil => rfl
    | cons k r =>
      exfalso
      have hm : k ∈ kdsOf sl := by rw [hk]; simp
      obtain ⟨s, hs, hg⟩ := List.mem_filterMap.1 hm
      obtain ⟨i, hi⟩ := List.mem_iff_getElem?.1 hs
      have := bit_at Slot.isK hi
      have h' : bitsOf Slot.isK sl = 0 := h
      rw [h'] at this
      cases s with
      | no => simp at hg
      | pr q => simp at hg
      | kid q => simp at this
  · intro h
    apply Nat.eq_of_testBit_eq
    intro j
    show (bitsOf Slot.isK sl).testBit j = _
    rw [bitsOf_bit]
    cases hj : sl[j]? with
    | none => simp
    | some s =>
      cases s with
      | no => simp
      | pr q => simp
      | kid q =>
        have : q ∈ kdsOf sl := List.mem_filterMap.2 ⟨_, List.mem_of_getElem? hj, rfl⟩
        rw [h] at this; simp at this
theorem tr_says {h : Hs} {w : World} {f g : Nat} {l : List Pr} (hT : TR ND h.hash w f g l) : ∃ d ps ks, Says w g d ps ks ∧ (l.length = 1 → ps = l ∧ ks = [] ∧ d = 0) ∧ (2 ≤ l.length → ¬ (d = 0 ∧ ps.length + ks.length = 1)) ∧ ps.length ≤ l.length + 32 ∧ ks.length ≤ 32 := by
  cases f with
  | zero =>
    obtain ⟨ow, pv, kv, nd⟩ := hT
    exact ⟨0, l, [], ⟨0, true, ow, pv, kv, nd, by decide⟩, fun _ => ⟨rfl, rfl, rfl⟩, fun h2 h3 => by simp at h3; omega, by omega, by simp⟩
  | succ f =>
    obtain ⟨sl, hN, hs⟩ := hT
    have hz := in_sizes hN
    have h32 := hN.1
    have hp := prsOf_len sl
    have hkl := kdsOf_len sl
    obtain ⟨h0, ow, pv, kv, nd⟩ := id hN
    refine ⟨_, _, _, ⟨_, false, ow, pv, kv, nd, hz.2⟩, fun h1 => ?_, fun h2 h3 => ?_, by omega, by omega⟩
    · obtain ⟨p, rfl⟩ := List.length_eq_one_iff.1 h1
      have := TR.alone hN hs
      exact ⟨this.1, this.2, nodes_zero.2 this.2⟩
    · have hk := nodes_zero.1 h3.1
      refine TR.many hN hs h2 ⟨hk, ?_⟩
      rw [hk] at h3; simpa using h3.2
set_option maxRecDepth 100000 in
set_option maxHeartbeats 1000000 in
theorem alone_c (h : Hs) (w : World) (f g : Nat) (l : List Pr) (hT : TR ND h.hash w f g l) (h1 : 1 ≤ l.length) (h9 : l.length ≤ 400000000) :
    Calls Try.prog 144 #[ptr g] w fun e w' => e = .returned (aloneV l) ∧ Ext w w' := by
  obtain ⟨d, ps, ks, hS, ho, hm, hp9, hk9⟩ := tr_says hT
  obtain ⟨wa, rb, hwa, hrb, hba, hEa, hle⟩ := box_first w
  have HW := Lib.hid (And.intro hwa hrb)
  have HA := Lib.hid (And.intro hba (And.intro hEa hle))
  have HS := Lib.hid hS
  clear hT hwa hrb hba hEa hle hS
  have HL : Hid (∀ W, Ext w W → Calls Try.prog 18 #[ptr g] W fun e w' => e = .returned (.int .i64 ((ps.length + ks.length : Nat) : Int)) ∧ Ext W w') := Lib.hid (fun W f => by
    obtain ⟨n, bk, ow, pv, kv, nd, _⟩ := says_ext HS.out f
    obtain ⟨A1, c1, rfl, _⟩ := nd.pairs
    obtain ⟨A2, c2, rfl, _⟩ := nd.kids
    exact nlen_c W g _ _ c1 c2 A1 A2 nd.node.cells.2.2.1 nd.node.cells.2.2.2.1 (by omega))
  have HD : Hid (∀ W, Ext w W → Calls Try.prog 60 #[ptr g] W fun e w' => e = .returned (.int .u32 d) ∧ W = w') := Lib.hid (fun W f => by
    obtain ⟨n, bk, ow, pv, kv, nd, _⟩ := says_ext HS.out f
    exact nodes_c W g d nd.node.cells.2.1)
  have HP : Hid (∀ W, Ext w W → Calls Try.prog 38 #[ptr g] W fun e w' => ∃ v', e = .returned v' ∧ w'.ownsRow W.heap.size NP 2 v' ps.length (flat ps) ∧ Ext W w') := Lib.hid (fun W f => by
    obtain ⟨n, bk, ow, pv, kv, nd, _⟩ := says_ext HS.out f
    exact npairs_c W g pv ps nd.node.cells.2.2.1 nd.pairs (by omega))
  obtain ⟨m, hm2⟩ : ∃ m, m = ps.length + ks.length := ⟨_, rfl⟩
  rw [← hm2] at HL hm
  by_cases hl : l.length = 1
  · obtain ⟨rfl, rfl, rfl⟩ := ho hl
    obtain ⟨p, rfl⟩ := List.length_eq_one_iff.1 hl
    have hm1 : m = 1 := by rw [hm2]; rfl
    subst hm1
    clear hm ho hm2 hp9 hk9
    go_enter Try.func144, Try.ntmps144
    repeat' (first | go_at_call 18 | go_skip | go_guarded | go_step)
    rw [HW.out.1, ← HW.out.2]
    refine (HL.out wa HA.out.2.1).mono ?_
    rintro e w1 ⟨rfl, f1⟩
    have H1 : Hid (Ext w w1 ∧ w1.heap[rb]? = some (.cells #[.string ⟨#[]⟩, .string ⟨#[]⟩] NP (0, 0))) := Lib.hid ⟨HA.out.2.1.trans f1, box_ext' HA.out.1 f1⟩
    clear f1
    go_simp
    repeat' (first | go_at_call 60 | go_skip | go_guarded | go_step)
    refine (HD.out w1 H1.out.1).mono ?_
    rintro e w1' ⟨rfl, rfl⟩
    go_simp
    repeat' (first | go_at_call 38 | go_skip | go_guarded | go_step)
    refine (HP.out w1 H1.out.1).mono ?_
    rintro e w2 ⟨v2, rfl, o2, f2⟩
    have H2 : Hid (Ext w w2 ∧ w2.heap[rb]? = some (.cells #[.string ⟨#[]⟩, .string ⟨#[]⟩] NP (0, 0))) := Lib.hid ⟨H1.out.1.trans f2, box_ext' H1.out.2 f2⟩
    obtain ⟨A, c, rfl, hl2, hn2, hc2, hs2⟩ := PS.of_own o2
    obtain ⟨b, o, rfl, k0, k1⟩ := seg_pair hs2 (i := 0) (p := p) rfl
    simp only [Nat.zero_mul, Nat.add_zero] at k0 k1
    obtain ⟨b0, b1, bf⟩ := box_facts H2.out.2
    clear f2 o2 hl2 hs2
    go_simp
    repeat' (first | go_skip | go_guarded | go_step)
    (try simp only [Exit.inBlock, Exit.then])
    refine bodyPost_ret_by (results_ct rfl _ _ _ _ _ _ _ rfl (heap_set (heap_set H2.out.2 0 _) 1 _) Try.underlying36 rfl (by kernel_rfl)) rfl ?_
    exact ⟨rfl, (H2.out.1.setCell HA.out.2.2 _).setCell HA.out.2.2 _⟩
  · have hl2 : 2 ≤ l.length := by omega
    have hmm := hm hl2
    have hv : aloneV l = .tuple #[.agg #[str [], str []], .bool false] := by
      have e1 : aloneP l = ([], []) := if_neg hl
      have e2 : decide (l.length = 1) = false := decide_eq_false hl
      unfold aloneV
      rw [e1, e2]
    rw [hv]
    have hm9 : m < 1000000000 := by omega
    have HDL := Lib.hid (fun e : m = 1 => fun e0 : d = 0 => hmm ⟨e0, by omega⟩)
    clear hm ho hm2 hp9 hk9 hv hmm
    by_cases h1m : m = 1
    · subst h1m
      have hd0 : (d : Int) ≠ 0 := fun e => HDL.out rfl (by omega)
      have hd1 : ((d : Int) == 0) = false := by simpa using hd0
      have hd2 : (d == 0) = false := by rw [beq_eq_false_iff_ne]; intro e; exact hd0 (by rw [e]; rfl)
      have hd3 : decide (d = 0) = false := by simpa using hd2
      go_enter Try.func144, Try.ntmps144
      repeat' (first | go_at_call 18 | go_skip | go_guarded | go_step)
      rw [HW.out.1, ← HW.out.2]
      refine (HL.out wa HA.out.2.1).mono ?_
      rintro e w1 ⟨rfl, f1⟩
      have H1 : Hid (Ext w w1 ∧ w1.heap[rb]? = some (.cells #[.string ⟨#[]⟩, .string ⟨#[]⟩] NP (0, 0))) := Lib.hid ⟨HA.out.2.1.trans f1, box_ext' HA.out.1 f1⟩
      clear f1
      go_simp
      repeat' (first | go_at_call 60 | go_skip | go_guarded | go_step)
      refine (HD.out w1 H1.out.1).mono ?_
      rintro e w1' ⟨rfl, rfl⟩
      go_simp
      obtain ⟨b0, b1, bf⟩ := box_facts H1.out.2
      repeat' (first | go_skip | go_guarded | go_step)
      (try simp only [Exit.inBlock, Exit.then])
      refine bodyPost_ret_by (results_ct rfl _ _ _ _ _ _ _ rfl (heap_set (heap_set H1.out.2 0 _) 1 _) Try.underlying36 rfl (by kernel_rfl)) rfl ?_
      exact ⟨rfl, (H1.out.1.setCell HA.out.2.2 _).setCell HA.out.2.2 _⟩
    · have hd1 : ((m : Int) == 1) = false := by rw [beq_eq_false_iff_ne]; omega
      have hd2 : (m == 1) = false := by rw [beq_eq_false_iff_ne]; exact h1m
      have hd3 : decide (m = 1) = false := by simpa using h1m
      go_enter Try.func144, Try.ntmps144
      repeat' (first | go_at_call 18 | go_skip | go_guarded | go_step)
      rw [HW.out.1, ← HW.out.2]
      refine (HL.out wa HA.out.2.1).mono ?_
      rintro e w1 ⟨rfl, f1⟩
      have H1 : Hid (Ext w w1 ∧ w1.heap[rb]? = some (.cells #[.string ⟨#[]⟩, .string ⟨#[]⟩] NP (0, 0))) := Lib.hid ⟨HA.out.2.1.trans f1, box_ext' HA.out.1 f1⟩
      clear f1
      go_simp
      obtain ⟨b0, b1, bf⟩ := box_facts H1.out.2
      repeat' (first | go_skip | go_guarded | go_step)
      (try simp only [Exit.inBlock, Exit.then])
      refine bodyPost_ret_by (results_ct rfl _ _ _ _ _ _ _ rfl (heap_set (heap_set H1.out.2 0 _) 1 _) Try.underlying36 rfl (by kernel_rfl)) rfl ?_
      exact ⟨rfl, (H1.out.1.setCell HA.out.2.2 _).setCell HA.out.2.2 _⟩
end Go.Proofs.Ytclcgelbcbnekaa
