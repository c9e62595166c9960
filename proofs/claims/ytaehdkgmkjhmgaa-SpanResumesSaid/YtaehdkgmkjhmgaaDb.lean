/- Contract: what is left of a branch (no token). -/
import Derived.Test.YtaehdkgmkjhmgaaDa
import Derived.Test.YtaehdkgmkjhmgaaRq
import Derived.Test.YtaehdkgmkjhmgaaRg
namespace Go.Proofs.Ytaehdkgmkjhmgaa
open Go.RowKit Go.QS
set_option linter.unusedVariables false

/-- What mend hands back: what stood ahead (in w0) and what is new suffice for it. -/
def MendOK (w0 w : World) (o : Option RT) (e : Ending) (w' : World) : Prop := ∃ vv, e = .returned vv ∧ Ext w w' ∧ (o = none → vv = .pointer none) ∧
  ∀ k, o = some k → ∃ g', vv = ptr g' ∧ ∀ x : World, Ext w0 x → (∀ j, w.heap.size ≤ j → j < w'.heap.size → x.heap[j]? = w'.heap[j]?) → Rep NT x g' k

theorem row_eq {w w' : World} {base : Nat} {e : TypeId} {k n : Nat} {v : Value} {xs : List Value} (h : w.ownsRow base e k v n xs) (he : ∀ j, base ≤ j → j < w.heap.size → w'.heap[j]? = w.heap[j]?) : w'.ownsRow base e k v n xs := by
  refine ⟨h.1, ?_⟩
  rcases h.2 with h | ⟨g, cap, cur, h1, h2, h3, h4⟩
  · exact .inl h
  · exact .inr ⟨g, cap, cur, h1, h2, (he g h2 (heap_lt h3)).trans h3, h4⟩

set_option maxRecDepth 100000 in
set_option maxHeartbeats 1000000 in
theorem mend_c (w0 w : World) (g : Nat) (t : RT) (h0 : Rep NT w0 g t) (hE : Ext w0 w) (hl : t.lab.length ≤ 1000) (hk : ∀ k ∈ t.kids, k.lab.length ≤ 1000 ∧ k.kids.length ≤ 256) (hk9 : t.kids.length ≤ 256) :
    Calls Try.prog 88 #[ptr g, .pointer none] w (MendOK w0 w (tmend t)) := by
  have h := h0.ext hE
  have hH := Lib.hid h0
  have HE := Lib.hid hE
  obtain ⟨kv0, ow0, ps0, nd0, sl0, rp0⟩ := h0.open
  obtain ⟨kv, ow, ps, nd, sl, rp⟩ : ∃ kv ow ps, NodeAt NT w g t.lab t.val kv ow ∧ Sl w 1 kv ps.length (ptrs ps) ∧ Reps NT w0 ps t.kids := ⟨kv0, ow0, ps0, nd0.ext hE, sl0.below hE, rp0⟩
  obtain ⟨A, C, rfl, h1, h2, h3, hs⟩ := sl
  obtain ⟨n, hn⟩ : ∃ n, n = ps.length := ⟨_, rfl⟩
  obtain ⟨c0, c1, c2, c3, c4⟩ := nd.cells
  have hgl := nd.lt
  have HD : Hid (NodeAt NT w g t.lab t.val (.slice A ps.length C) ow ∧ Seg w A (ptrs ps) ∧ Reps NT w0 ps t.kids ∧ n = ps.length) := Lib.hid ⟨nd, hs, rp, hn⟩
  have hn9 : n ≤ 256 := by have := rp.1; omega
  rw [← hn] at c3
  have HK := Lib.hid hk
  clear h h0 hE nd0 sl0 rp0 nd hs rp h1 h2 h3 hn hk
  cases hv : t.val with
  | some u =>
    rw [hv] at c1
    simp only [Option.isSome_some] at c1
    have HM : Hid (tmend t = some t) := Lib.hid (by unfold tmend; rw [hv]; simp)
    clear hv c2
    go_enter Try.func88, Try.ntmps88
    repeat' (first | go_skip | go_guarded | go_step)
    go_ret
    refine ⟨_, rfl, Ext.refl _, fun e => ?_, fun k e => ?_⟩
    · rw [HM.out] at e; cases e
    · rw [HM.out] at e; cases e; exact ⟨g, rfl, fun x hx _ => hH.out.ext hx⟩
  | none =>
    rw [hv] at c1
    simp only [Option.isSome_none] at c1
    have HV := Lib.hid hv
    clear hv c2
    rcases Nat.lt_or_ge n 2 with hlt | hge
    · have d1 : decide (2 ≤ n) = false := by simp; omega
      have d2 : decide ((2 : Int) ≤ (n : Int)) = false := decide_eq_false (by omega)
      cases ps with
      | nil =>
        have hn0 : n = 0 := HD.out.2.2.2
        have hkn : t.kids = [] := List.eq_nil_of_length_eq_zero HD.out.2.2.1.1.symm
        have HM : Hid (tmend t = none) := Lib.hid (by unfold tmend; rw [HV.out, hkn]; simp)
        subst hn0
        clear hkn
        go_enter Try.func88, Try.ntmps88
        repeat' (first | go_skip | go_guarded | go_step)
        go_ret
        refine ⟨_, rfl, Ext.refl _, fun e => rfl, fun k e => ?_⟩
        rw [HM.out] at e; cases e
      | cons p qs =>
        cases hkk : t.kids with
        | nil => have := HD.out.2.2.1.1; rw [hkk] at this; cases this
        | cons k r =>
          have hn1 : n = 1 := by have := HD.out.2.2.2; simp at this; omega
          have hr : r = [] := by have h1 := HD.out.2.2.1.1; have h2 := HD.out.2.2.2; rw [hkk] at h1; simp at h1 h2; exact List.eq_nil_of_length_eq_zero (by omega)
          subst hr
          have HM : Hid (tmend t = some (RT.node (t.lab ++ k.lab) k.val k.kids)) := Lib.hid (by unfold tmend; rw [HV.out, hkk]; simp)
          have hkr := HD.out.2.2.1.2 0 p k rfl (by rw [hkk]; rfl)
          obtain ⟨hkl, hkc⟩ := HK.out k (by rw [hkk]; simp)
          obtain ⟨b, o, rfl, hcl⟩ := HD.out.2.1 (by simp [ptrs])
          have hq := hcl 0 (ptr p) rfl
          rw [Nat.add_zero] at hq
          obtain ⟨kkv, kow, kps, knd, ksl, krp⟩ := hkr.open
          have hkps : kps.length ≤ 256 := by have := krp.1; omega
          have HKN : Hid (NodeAt NT w p k.lab k.val kkv kow ∧ Sl w 1 kkv kps.length (ptrs kps) ∧ Reps NT w0 kps k.kids) := Lib.hid ⟨knd.ext HE.out, ksl.below HE.out, krp⟩
          have hclt : (9223372036854775807 < t.lab.length + k.lab.length) = False := by simp; omega
          have hclm : (maxLen < t.lab.length + k.lab.length) = False := by unfold maxLen; simp; omega
          have hcat : bs t.lab ++ bs k.lab = bs (t.lab ++ k.lab) := bs_append _ _
          subst hn1
          clear hkk hkr hcl knd ksl krp d1 d2
          go_enter Try.func88, Try.ntmps88
          repeat' (first | go_at_call 81 | go_skip | go_guarded | go_step)
          refine (own_c w p k.lab k.val kkv kow kps HKN.out.1 HKN.out.2.1 (by omega)).mono ?_
          rintro e w1 ⟨g1, kv1, rfl, f1, n1, r1, hg1⟩
          have e0 := (f1.cell (p := ⟨g, 0, none⟩) hgl).trans c0
          have k0 := n1.cells.1
          have kf := n1.free 0
          have hg1l := n1.lt
          have H1 : Hid (Ext w w1 ∧ NodeAt NT w1 g1 k.lab k.val kv1 none ∧ w1.ownsRow (g1 + 1) PT 1 kv1 kps.length (ptrs kps)) := Lib.hid ⟨f1, n1, r1⟩
          clear f1 n1 r1 c0 c1 c3 c4
          go_simp
          repeat' (go_not_at_region 6; (first | go_skip | go_guarded | go_step))
          have hcs : ∀ x : World, x.cell? ⟨g1, 0, none⟩ = w1.cell? ⟨g1, 0, none⟩ → x.cell? ⟨g1, 0, none⟩ = some (str k.lab) := fun x hx => hx.trans k0
          have HCS := Lib.hid hcs
          clear hcs
          have HNM : Hid (Calls Try.prog 100 #[ptr g1, str (t.lab ++ k.lab)] w1.drew fun e w' => e = .returned (ptr g1) ∧ w' = w1.drew.setCell ⟨g1, 0, none⟩ (str (t.lab ++ k.lab))) := Lib.hid (named_c w1.drew g1 k.lab (t.lab ++ k.lab) k0 kf)
          go_region_with ((go_at_call 100; refine HNM.out.mono ?_; rintro e x2 ⟨rfl, rfl⟩))
          all_goals
            repeat' (first | go_skip | go_guarded | go_step)
            go_ret
            refine ⟨_, rfl, ?_, fun e => ?_, fun k2 e => ?_⟩
            · first | exact H1.out.1.drew.setCell hg1 _ | exact (H1.out.1.setCell hg1 _).drew | exact H1.out.1.setCell hg1 _
            · rw [HM.out] at e; cases e
            · rw [HM.out] at e
              cases e
              refine ⟨g1, rfl, fun x hx he => ?_⟩
              have hd := (H1.out.2.1.ext (Ext.refl _).drew).set0 (t.lab ++ k.lab)
              have hr := row_set (row_ext H1.out.2.2 (Ext.refl w1).drew) ⟨g1, 0, none⟩ (str (t.lab ++ k.lab)) (Nat.lt_succ_self _)
              have hx1 : NodeAt NT x g1 (t.lab ++ k.lab) k.val kv1 none := (he g1 hg1 hd.lt).trans hd
              have hx2 : x.ownsRow (g1 + 1) PT 1 kv1 kps.length (ptrs kps) := row_eq hr fun j h1 h2 => he j (by omega) h2
              exact Rep.make (t := RT.node (t.lab ++ k.lab) k.val k.kids) (ps := kps) hx1 (Sl.of_own hx2) (HKN.out.2.2.ext hx)
    · have d1 : decide (2 ≤ n) = true := by simp [hge]
      have d2 : decide ((2 : Int) ≤ (n : Int)) = true := decide_eq_true (by omega)
      have HM : Hid (tmend t = some t) := Lib.hid (by unfold tmend; rw [if_pos (.inr (by have := HD.out.2.2.2; have := HD.out.2.2.1.1; omega))])
      go_enter Try.func88, Try.ntmps88
      repeat' (first | go_skip | go_guarded | go_step)
      go_ret
      refine ⟨_, rfl, Ext.refl _, fun e => ?_, fun k e => ?_⟩
      · rw [HM.out] at e; cases e
      · rw [HM.out] at e; cases e; exact ⟨g, rfl, fun x hx _ => hH.out.ext hx⟩
end Go.Proofs.Ytaehdkgmkjhmgaa
