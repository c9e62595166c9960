/- Contracts: the document's groups, Of. -/
import Derived.Test.YtmpeniboccahdaaUc
import Derived.BigQuiet
namespace Go.Proofs.Ytmpeniboccahdaa
open Go.RowKit Go.QS
set_option linter.unusedVariables false

theorem reps_grow {T TP : TypeId} {B : Nat} {X w8 : World} {v v' : Value} {ps : List Nat} {ks : List RT} (hR : RepsS T TP (fun b => B ≤ b ∧ v.ownBlock ≠ some b) X ps ks) (hg : X.grownBy w8 v.ownBlock) (hor : v'.ownBlock = v.ownBlock ∨ v'.ownBlock = some X.heap.size) :
    RepsS T TP (fun b => B ≤ b ∧ v'.ownBlock ≠ some b) w8 ps ks := by
  have h1 : RepsS T TP (fun b => (B ≤ b ∧ v.ownBlock ≠ some b) ∧ v'.ownBlock ≠ some b) X ps ks := hR.mono fun b hlt hb => ⟨hb, by
    rcases hor with h | h
    · rw [h]; exact hb.2
    · rw [h]; intro e; cases e; exact Nat.lt_irrefl _ hlt⟩
  have h2 := h1.keep (w' := w8) fun b hb hlt => hg.block b hlt (fun e => hb.1.2 e.symm)
  exact h2.mono fun b _ hb => ⟨hb.1.1, hb.2⟩
theorem ps_cut {w : World} {b o n C i k : Nat} {l : List Pr} (hn : n = l.length) (hs : Seg w (some ⟨b, o, none⟩) (flat l)) (hC : C ≤ maxLen) (hnC : n ≤ C) (hik : i ≤ k) (hkn : k ≤ n) : PS w (.slice (some ⟨b, o + i * 2, none⟩) (k - i) (C - i)) ((l.drop i).take (k - i)) := by
  have hl : ((l.drop i).take (k - i)).length = k - i := by rw [List.length_take, List.length_drop]; omega
  refine ⟨_, _, by rw [hl], by rw [flat_length], by omega, by omega, ?_⟩
  rw [flat_take, flat_drop]
  exact (hs.drop (i * 2)).take _

set_option maxRecDepth 100000 in
set_option maxHeartbeats 2000000 in
theorem groupsD_c (N : Nat) (hN9 : N ≤ 1000000) (HBR : BranchOK N) : GroupsOK N := by
  intro w v l h hr hx h9
  have HB := Lib.hid HBR
  obtain ⟨A, C, rfl, hl, hn, hC, hs⟩ := h
  obtain ⟨n, hn2⟩ : ∃ n, n = l.length := ⟨_, rfl⟩
  rw [← hn2] at hn h9 ⊢
  have HL : Hid (n = l.length ∧ Rise l ∧ (∀ p ∈ l, p.1 ≠ [] ∧ p.1.length ≤ N) ∧ Seg w A (flat l)) := Lib.hid ⟨hn2, hr, hx, hs⟩
  clear HBR hl hr hx hn2 hs
  go_enter Try.func79, Try.ntmps79
  repeat' (go_not_at_region 3; (first | go_skip | go_guarded | go_step))
  go_loopg [3, 4, 5] n (fun gk v3 v4 v5 wr => ∃ (i : Nat) (qs : List Nat) (ks : List RT), v4 = .int .i64 i ∧ i ≤ n ∧ n - i ≤ gk ∧ qs.length ≤ i ∧ Hid (Ext w wr ∧ wr.ownsRow w.heap.size DP 1 v3 qs.length (ptrs qs) ∧ RepsS DT DP (fun b => w.heap.size ≤ b ∧ v3.ownBlock ≠ some b) wr qs ks ∧ Kd N ks ∧ belows ks = l.take i ∧ Part l i))
  case atStart => exact ⟨0, [], [], rfl, Nat.zero_le _, Nat.le_refl _, Nat.le_refl _, Lib.hid ⟨Ext.refl _, World.ownsRow_nil _ _ _ _, RepsS.nil, .nil N, by simp [belows_nil], fun p hp => by simp at hp⟩⟩
  case round =>
    obtain ⟨i, qs, ks, rfl, hin, hgk, hqi, HI⟩ := hrel
    rcases Nat.lt_or_ge i n with hlt | hge
    · have d1 : decide (i < n) = true := by simp [hlt]
      obtain ⟨a, ha⟩ := get_of_lt l (show i < l.length by have := HL.out.1; omega)
      obtain ⟨xa, la, hka⟩ := List.exists_cons_of_ne_nil (HL.out.2.2.1 a (List.mem_of_getElem? ha)).1
      obtain ⟨b, o, hbo, hq1, hq2⟩ := seg_pair (HL.out.2.2.2.below HI.out.1) ha
      subst hbo
      rw [hka] at hq1
      have hi1 : (i : Int) < (n : Int) := by omega
      have HA : Hid (l[i]? = some a ∧ a.1 = xa :: la ∧ wr.cell? ⟨b, o + i * 2, none⟩ = some (str (xa :: la))) := Lib.hid ⟨ha, hka, hq1⟩
      clear ha hka hq2
      repeat' (go_not_at_region 5; (first | go_skip | go_guarded | go_step))
      obtain ⟨wo, rfl⟩ : ∃ wo : World, wo = wr := ⟨_, rfl⟩
      go_loopg [5] n (fun gk2 v5 wq => ∃ k : Nat, v5 = .int .i64 k ∧ i ≤ k ∧ k ≤ n ∧ n - k ≤ gk2 ∧ Hid (Ext wo wq) ∧ (k = i → True) ∧ Hid (∀ j q, i ≤ j → j < k → l[j]? = some q → fstB q = xa.toNat))
      case atStart => exact ⟨i, rfl, Nat.le_refl _, hin, by omega, Lib.hid (Ext.refl _), fun _ => trivial, Lib.hid (fun j q h1 h2 => by omega)⟩
      case round =>
        obtain ⟨k, rfl, hik, hkn, hgk2, HE, _, HS⟩ := hrel
        have g0 : ∀ (x : UInt8) (l : List UInt8) (h : 0 < (bs (x :: l)).size), (bs (x :: l))[0]'h = x := fun _ _ _ => rfl
        have ca := (HE.out.cell (World.block_lt_of_cell? wo _ HA.out.2.2)).trans HA.out.2.2
        rcases Nat.lt_or_ge k n with hlt2 | hge2
        · have d2 : decide (k < n) = true := by simp [hlt2]
          have hk1 : (k : Int) < (n : Int) := by omega
          obtain ⟨q, hq⟩ := get_of_lt l (show k < l.length by have := HL.out.1; omega)
          obtain ⟨y, lq, hkq⟩ := List.exists_cons_of_ne_nil (HL.out.2.2.1 q (List.mem_of_getElem? hq)).1
          obtain ⟨b2, o2, hbo, hq3, hq4⟩ := seg_pair (HL.out.2.2.2.below (HI.out.1.trans HE.out)) hq
          cases hbo
          rw [hkq] at hq3
          have hfq : fstB q = y.toNat := by unfold fstB; rw [hkq]; rfl
          have HQ : Hid (l[k]? = some q ∧ fstB q = y.toNat) := Lib.hid ⟨hq, hfq⟩
          clear hq hkq hq4 hfq
          by_cases hxy : y.toNat = xa.toNat
          · have d3 : (y.toNat == xa.toNat) = true := by simp [hxy]
            have HXY := Lib.hid hxy
            clear hxy
            repeat' (go_not_at_region 5; (first | go_skip | go_guarded | go_step))
            go_quiet (fail)
            repeat' (first | go_skip | go_guarded | go_step)
            go_roundg (n - (k + 1))
            case measure => omega
            case rel =>
              refine ⟨k + 1, by go_num, by omega, by omega, Nat.le_refl _, Lib.hid (below_drewN HE.out _), fun _ => trivial, Lib.hid (fun j r h1 h2 h3 => ?_)⟩
              rcases Nat.lt_or_eq_of_le (Nat.le_of_lt_succ h2) with h | rfl
              · exact HS.out j r h1 h h3
              · rw [HQ.out.1] at h3; cases h3; rw [HQ.out.2, HXY.out]
          · have d3 : (y.toNat == xa.toNat) = false := by simp [hxy]
            have hik2 : i < k := by
              rcases Nat.lt_or_eq_of_le hik with h | rfl
              · exact h
              · exfalso
                have := HQ.out
                rw [HA.out.1] at this
                have e1 := Option.some.inj this.1
                have e2 := this.2
                rw [← e1] at e2
                unfold fstB at e2
                rw [HA.out.2.1] at e2
                exact hxy e2.symm
            have HEND : Hid (∀ r, l[k]? = some r → fstB r ≠ xa.toNat) := Lib.hid (fun r hr => by rw [HQ.out.1] at hr; cases hr; rw [HQ.out.2]; exact hxy)
            clear hxy
            repeat' (go_not_at_region 5; (first | go_skip | go_guarded | go_step))
            go_quiet (fail)
            replace HE := Lib.hid (below_drewN HE.out nq)
            obtain ⟨wy, hwy⟩ : ∃ wy, wy = wr.drewN nq := ⟨_, rfl⟩
            rw [← hwy] at HE ⊢
            clear hwy ca hq3
            have hic : (i : Int) ≤ (C : Int) := by omega
            have hkc : (k : Int) ≤ (C : Int) := by omega
            have hik' : (i : Int) ≤ (k : Int) := by omega
            have hki : (k : Int) - (i : Int) = ((k - i : Nat) : Int) := by omega
            have hE2 : Ext w wy := HI.out.1.trans HE.out
            have hps := ps_cut (i := i) (k := k) HL.out.1 (HL.out.2.2.2.below hE2) hC hn (by omega) hkn
            have hsg : ∀ q ∈ (l.drop i).take (k - i), (∃ m, q.1 = xa :: m) ∧ q.1.length ≤ N := by
              intro q hq
              obtain ⟨j, hj⟩ := List.getElem?_of_mem hq
              have hjl := (List.getElem?_eq_some_iff.1 hj).1
              rw [List.length_take, List.length_drop] at hjl
              rw [List.getElem?_take_of_lt (by omega), List.getElem?_drop] at hj
              have h1 := HL.out.2.2.1 q (List.mem_of_getElem? hj)
              refine ⟨?_, h1.2⟩
              obtain ⟨y, r, hy⟩ := List.exists_cons_of_ne_nil h1.1
              have h2 := HS.out (i + j) q (by omega) (by omega) hj
              unfold fstB at h2
              rw [hy] at h2
              have h2' : y.toNat = xa.toNat := h2
              exact ⟨r, by rw [hy, UInt8.toNat_inj.1 h2']⟩
            have hrs : Rise ((l.drop i).take (k - i)) := List.Pairwise.sublist ((List.take_sublist _ _).trans (List.drop_sublist _ _)) HL.out.2.1
            have hne2 : (l.drop i).take (k - i) ≠ [] := by
              intro e
              have := congrArg List.length e
              rw [List.length_take, List.length_drop] at this
              have := HL.out.1
              simp at *
              omega
            have HC := Lib.hid (HB.out wy _ _ xa hps hrs hne2 hsg (by rw [List.length_take, List.length_drop]; have := HL.out.1; omega))
            have H2 := Lib.hid hE2
            clear hps hsg hrs hne2 hE2
            repeat' (first | go_at_call 89 | go_skip | go_guarded | go_step)
            refine HC.out.mono ?_
            rintro e w9 ⟨q9, t9, rfl, r9, b9, p9, f9⟩
            have HG := Lib.hid (group_ok (fun p hp => (HL.out.2.2.1 p hp).1) hik2 HA.out.1 HI.out.2.2.2.2.2 HI.out.2.2.2.1 HI.out.2.2.2.2.1 b9 p9)
            have HPT := Lib.hid (part_next HL.out.2.1 (fun p hp => (HL.out.2.2.1 p hp).1) (Nat.le_of_lt hik2) HI.out.2.2.2.2.2 HA.out.1 (fun j q h1 h2 h3 => by have := HS.out j q h1 h2 h3; rw [this]; unfold fstB; rw [HA.out.2.1]; rfl) (fun q hq => by have := HEND.out q hq; intro e; apply this; rw [e]; unfold fstB; rw [HA.out.2.1]; rfl))
            have hwoy := HE.out.size
            have H9 : Hid (RepsS DT DP (fun b => w.heap.size ≤ b ∧ u3.ownBlock ≠ some b) w9 (qs ++ [q9]) (ks ++ [t9]) ∧ Ext w w9 ∧ Ext wo w9) := Lib.hid ⟨(HI.out.2.2.1.ext (Ext.trans HE.out f9)).snoc (r9.mono fun b _ hb => ⟨Nat.le_trans H2.out.size hb, fun e => by have := (HI.out.2.1.lt b e).2; omega⟩), H2.out.trans f9, Ext.trans HE.out f9⟩
            have hw9 := H9.out.2.1.size
            clear r9 b9 p9 f9
            go_simp
            repeat' (first | go_skip | go_guarded | (at_builtin; refine wpList_app rfl (.tmp 32) (.tmp 38) _ rfl w.heap.size DP 1 8 Try.underlying43 infoD (by decide) _ _ _ rfl (row_ext HI.out.2.1 (ext_alloc' H9.out.2.2 _)) _ 1 1 [ptr q9] rfl rfl (Seg.new _ [_] _ rfl) (by intro u hu; simp at hu; rw [hu]; rfl) (by unfold maxLen; omega) (by omega) (by simp; omega) ?_; intro v8 w8 hown8 hg8 hor8) | go_step)
            have H8 : Hid (Ext w w8 ∧ w8.ownsRow w.heap.size DP 1 v8 (qs ++ [q9]).length (ptrs (qs ++ [q9])) ∧ RepsS DT DP (fun b => w.heap.size ≤ b ∧ v8.ownBlock ≠ some b) w8 (qs ++ [q9]) (ks ++ [t9]) ∧ Kd N (ks ++ [t9]) ∧ belows (ks ++ [t9]) = l.take k ∧ Part l k) := by
              refine Lib.hid ⟨(ext_alloc' H9.out.2.1 _).grown hg8 (ext_alloc' H9.out.2.1 _).size (fun g hg => (HI.out.2.1.lt g hg).1), by rw [List.length_append, ptrs_append]; exact hown8, reps_grow (H9.out.1.ext (ext_alloc' (Ext.refl _) _)) hg8 hor8, HG.out.1, HG.out.2, HPT.out⟩
            clear hown8 hg8 hor8
            go_roundg (n - k)
            case measure => omega
            case rel => exact ⟨k, qs ++ [q9], ks ++ [t9], rfl, hkn, Nat.le_refl _, by simp; omega, H8⟩
        · obtain rfl : k = n := by omega
          have d2 : decide (k < k) = false := by simp
          have hik2 : i < k := by omega
          have HEND : Hid (∀ r, l[k]? = some r → fstB r ≠ xa.toNat) := Lib.hid (fun r hr => by have := (List.getElem?_eq_some_iff.1 hr).1; have := HL.out.1; omega)
          repeat' (go_not_at_region 5; (first | go_skip | go_guarded | go_step))
          go_quiet (fail)
          replace HE := Lib.hid (below_drewN HE.out nq)
          obtain ⟨wy, hwy⟩ : ∃ wy, wy = wr.drewN nq := ⟨_, rfl⟩
          rw [← hwy] at HE ⊢
          clear hwy ca
          have hic : (i : Int) ≤ (C : Int) := by omega
          have hkc : (k : Int) ≤ (C : Int) := by omega
          have hik' : (i : Int) ≤ (k : Int) := by omega
          have hki : (k : Int) - (i : Int) = ((k - i : Nat) : Int) := by omega
          have hE2 : Ext w wy := HI.out.1.trans HE.out
          have hps := ps_cut (i := i) (k := k) HL.out.1 (HL.out.2.2.2.below hE2) hC hn (by omega) hkn
          have hsg : ∀ q ∈ (l.drop i).take (k - i), (∃ m, q.1 = xa :: m) ∧ q.1.length ≤ N := by
            intro q hq
            obtain ⟨j, hj⟩ := List.getElem?_of_mem hq
            have hjl := (List.getElem?_eq_some_iff.1 hj).1
            rw [List.length_take, List.length_drop] at hjl
            rw [List.getElem?_take_of_lt (by omega), List.getElem?_drop] at hj
            have h1 := HL.out.2.2.1 q (List.mem_of_getElem? hj)
            refine ⟨?_, h1.2⟩
            obtain ⟨y, r, hy⟩ := List.exists_cons_of_ne_nil h1.1
            have h2 := HS.out (i + j) q (by omega) (by omega) hj
            unfold fstB at h2
            rw [hy] at h2
            have h2' : y.toNat = xa.toNat := h2
            exact ⟨r, by rw [hy, UInt8.toNat_inj.1 h2']⟩
          have hrs : Rise ((l.drop i).take (k - i)) := List.Pairwise.sublist ((List.take_sublist _ _).trans (List.drop_sublist _ _)) HL.out.2.1
          have hne2 : (l.drop i).take (k - i) ≠ [] := by
            intro e
            have := congrArg List.length e
            rw [List.length_take, List.length_drop] at this
            have := HL.out.1
            simp at *
            omega
          have HC := Lib.hid (HB.out wy _ _ xa hps hrs hne2 hsg (by rw [List.length_take, List.length_drop]; have := HL.out.1; omega))
          have H2 := Lib.hid hE2
          clear hps hsg hrs hne2 hE2
          repeat' (first | go_at_call 89 | go_skip | go_guarded | go_step)
          refine HC.out.mono ?_
          rintro e w9 ⟨q9, t9, rfl, r9, b9, p9, f9⟩
          have HG := Lib.hid (group_ok (fun p hp => (HL.out.2.2.1 p hp).1) hik2 HA.out.1 HI.out.2.2.2.2.2 HI.out.2.2.2.1 HI.out.2.2.2.2.1 b9 p9)
          have HPT := Lib.hid (part_next HL.out.2.1 (fun p hp => (HL.out.2.2.1 p hp).1) (Nat.le_of_lt hik2) HI.out.2.2.2.2.2 HA.out.1 (fun j q h1 h2 h3 => by have := HS.out j q h1 h2 h3; rw [this]; unfold fstB; rw [HA.out.2.1]; rfl) (fun q hq => by have := HEND.out q hq; intro e; apply this; rw [e]; unfold fstB; rw [HA.out.2.1]; rfl))
          have hwoy := HE.out.size
          have H9 : Hid (RepsS DT DP (fun b => w.heap.size ≤ b ∧ u3.ownBlock ≠ some b) w9 (qs ++ [q9]) (ks ++ [t9]) ∧ Ext w w9 ∧ Ext wo w9) := Lib.hid ⟨(HI.out.2.2.1.ext (Ext.trans HE.out f9)).snoc (r9.mono fun b _ hb => ⟨Nat.le_trans H2.out.size hb, fun e => by have := (HI.out.2.1.lt b e).2; omega⟩), H2.out.trans f9, Ext.trans HE.out f9⟩
          have hw9 := H9.out.2.1.size
          clear r9 b9 p9 f9
          go_simp
          repeat' (first | go_skip | go_guarded | (at_builtin; refine wpList_app rfl (.tmp 32) (.tmp 38) _ rfl w.heap.size DP 1 8 Try.underlying43 infoD (by decide) _ _ _ rfl (row_ext HI.out.2.1 (ext_alloc' H9.out.2.2 _)) _ 1 1 [ptr q9] rfl rfl (Seg.new _ [_] _ rfl) (by intro u hu; simp at hu; rw [hu]; rfl) (by unfold maxLen; omega) (by omega) (by simp; omega) ?_; intro v8 w8 hown8 hg8 hor8) | go_step)
          have H8 : Hid (Ext w w8 ∧ w8.ownsRow w.heap.size DP 1 v8 (qs ++ [q9]).length (ptrs (qs ++ [q9])) ∧ RepsS DT DP (fun b => w.heap.size ≤ b ∧ v8.ownBlock ≠ some b) w8 (qs ++ [q9]) (ks ++ [t9]) ∧ Kd N (ks ++ [t9]) ∧ belows (ks ++ [t9]) = l.take k ∧ Part l k) := by
            refine Lib.hid ⟨(ext_alloc' H9.out.2.1 _).grown hg8 (ext_alloc' H9.out.2.1 _).size (fun g hg => (HI.out.2.1.lt g hg).1), by rw [List.length_append, ptrs_append]; exact hown8, reps_grow (H9.out.1.ext (ext_alloc' (Ext.refl _) _)) hg8 hor8, HG.out.1, HG.out.2, HPT.out⟩
          clear hown8 hg8 hor8
          go_roundg (k - k)
          case measure => omega
          case rel => exact ⟨k, qs ++ [q9], ks ++ [t9], rfl, hkn, Nat.le_refl _, by simp; omega, H8⟩
    · obtain rfl : i = n := by omega
      have d1 : decide (i < i) = false := by simp
      repeat' (first | go_skip | go_guarded | go_step)
      go_ret
      have h := HI.out
      rw [List.take_of_length_le (by have := HL.out.1; omega)] at h
      exact ⟨_, qs, ks, rfl, h.2.1, h.2.2.1.mono fun b _ hb => hb.1, h.2.2.2.1, h.2.2.2.2.1, h.1⟩

theorem groups_c : ∀ (N : Nat), N ≤ 1000000 → GroupsOK N := by
  intro N
  induction N using Nat.strongRecOn with
  | ind N ih => exact fun h => groupsD_c N h (branchD_c N h fun M hM => ih M hM (by omega))
end Go.Proofs.Ytmpeniboccahdaa
