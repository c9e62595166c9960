/- Texts joined. -/
import Derived.Test.YtbmakajadelckaaM13
import Derived.Test.YtbmakajadelckaaM14
set_option linter.unusedVariables false
set_option linter.unusedSimpArgs false
/- SetPair's region that stores in place: a law of its own. -/
namespace Go.Proofs.Ytbmakajadelckaa
open Go.RowKit Go.QS Go.QS.Nk
set_option linter.unusedVariables false

theorem flat_set (l : List Pr) (r : Nat) (p : Pr) : flat (l.set r p) = ((flat l).set (r * 2) (str p.1)).set (r * 2 + 1) (str p.2) := by
  induction l generalizing r with
  | nil => simp
  | cons q l ih =>
    cases r with
    | zero => simp [flat_cons]
    | succ r =>
      rw [List.set_cons_succ, flat_cons, flat_cons, ih, show (r + 1) * 2 = r * 2 + 1 + 1 by omega]
      simp
theorem keep4s {w : World} {c g b i j : Nat} {v v' u1 u2 u3 u4 : Value} (h : w.cell? ⟨c, 0, none⟩ = some u1 ∧ w.cell? ⟨c, 2, none⟩ = some u2 ∧ w.cell? ⟨g, 0, none⟩ = some u3 ∧ w.cell? ⟨g, 1, none⟩ = some u4) (h1 : b ≠ c) (h2 : b ≠ g) :
    ((w.setCell ⟨b, i, none⟩ v).setCell ⟨b, j, none⟩ v').cell? ⟨c, 0, none⟩ = some u1 ∧ ((w.setCell ⟨b, i, none⟩ v).setCell ⟨b, j, none⟩ v').cell? ⟨c, 2, none⟩ = some u2 ∧ ((w.setCell ⟨b, i, none⟩ v).setCell ⟨b, j, none⟩ v').cell? ⟨g, 0, none⟩ = some u3 ∧ ((w.setCell ⟨b, i, none⟩ v).setCell ⟨b, j, none⟩ v').cell? ⟨g, 1, none⟩ = some u4 := by
  have f : ∀ (x : Nat) (k : Nat) (u : Value), b ≠ x → w.cell? ⟨x, k, none⟩ = some u → ((w.setCell ⟨b, i, none⟩ v).setCell ⟨b, j, none⟩ v').cell? ⟨x, k, none⟩ = some u := fun x k u hb hu => by
    rw [World.cell?_setCell_other _ _ _ _ (by intro e; simp only [Addr.mk.injEq] at e; omega), World.cell?_setCell_other _ _ _ _ (by intro e; simp only [Addr.mk.injEq] at e; omega)]
    exact hu
  exact ⟨f _ _ _ h1 h.1, f _ _ _ h1 h.2.1, f _ _ _ h2 h.2.2.1, f _ _ _ h2 h.2.2.2⟩

set_option maxRecDepth 100000 in
set_option maxHeartbeats 2000000 in
theorem setp_5 (base : Nat) (wr : World) (cn gp i : Nat) (sl : List (Slot Nat)) (ow : Option Addr) (pv kv : Value) (p q : Pr) (H : Hid (InO base wr cn sl ow pv kv ∧ sl[i]? = some (.pr q) ∧ wr.heap[gp]? = some (.cells #[str p.1, str p.2] NP (0, 0)) ∧ pv.ownBlock ≠ some gp)) (c : Code) (Q : Exit → Act → World → Prop) (t0 t1 t3 t4 t5 t6 t8 t10 t11 t12 t13 t14 t15 t16 t17 t18 t19 t20 t21 t22 t23 t24 t25 t26 t27 t28 t29 t30 t31 t32 t33 t34 t35 t36 t37 t38 t39 t40 t41 t42 t43 t44 t45 t46 t47 t48 t49 t50 t51 t52 t53 t54 t55 t56 t57 t58 t59 t60 t61 t62 t63 t64 t65 t66 t67 t68 t69 t70 t71 t72 t73 t74 t75 : Value)
    (hc : (Try.f85.body.bind (findR 5)) = some c)
    (hQ : ∀ (u25 u26 u27 u28 u29 u30 u31 u32 u33 u34 u35 u36 u37 u38 : Value) (wx : World), InO base wx cn (sl.set i (.pr p)) ow pv kv → Only (fun k => k = cn ∨ pv.ownBlock = some k ∨ kv.ownBlock = some k) wr wx → Q .normal { tmps := List.toArray (t0 :: t1 :: (.int .i64 i) :: t3 :: t4 :: t5 :: t6 :: (ptr gp) :: t8 :: (ptr cn) :: t10 :: t11 :: t12 :: t13 :: t14 :: t15 :: t16 :: t17 :: t18 :: t19 :: t20 :: t21 :: t22 :: t23 :: t24 :: u25 :: u26 :: u27 :: u28 :: u29 :: u30 :: u31 :: u32 :: u33 :: u34 :: u35 :: u36 :: u37 :: u38 :: t39 :: t40 :: t41 :: t42 :: t43 :: t44 :: t45 :: t46 :: t47 :: t48 :: t49 :: t50 :: t51 :: t52 :: t53 :: t54 :: t55 :: t56 :: t57 :: t58 :: t59 :: t60 :: t61 :: t62 :: t63 :: t64 :: t65 :: t66 :: t67 :: t68 :: t69 :: t70 :: t71 :: t72 :: t73 :: t74 :: t75 :: []), defers := [] } wx) :
    c.wp Try.prog Q { tmps := List.toArray (t0 :: t1 :: (.int .i64 i) :: t3 :: t4 :: t5 :: t6 :: (ptr gp) :: t8 :: (ptr cn) :: t10 :: t11 :: t12 :: t13 :: t14 :: t15 :: t16 :: t17 :: t18 :: t19 :: t20 :: t21 :: t22 :: t23 :: t24 :: t25 :: t26 :: t27 :: t28 :: t29 :: t30 :: t31 :: t32 :: t33 :: t34 :: t35 :: t36 :: t37 :: t38 :: t39 :: t40 :: t41 :: t42 :: t43 :: t44 :: t45 :: t46 :: t47 :: t48 :: t49 :: t50 :: t51 :: t52 :: t53 :: t54 :: t55 :: t56 :: t57 :: t58 :: t59 :: t60 :: t61 :: t62 :: t63 :: t64 :: t65 :: t66 :: t67 :: t68 :: t69 :: t70 :: t71 :: t72 :: t73 :: t74 :: t75 :: []), defers := [] } wr := by
  change some _ = some c at hc
  cases hc
  have HQF := Lib.hid hQ
  clear hQ
  have hO := H.out.1
  have hs := H.out.2.1
  have hi : i < 32 := by have := get_lt hs; rw [hO.1] at this; exact this
  obtain ⟨d, hd⟩ : ∃ d, d = dataOf sl := ⟨_, rfl⟩
  have hd9 : d < 4294967296 := by rw [hd]; exact bits32 _ hO.1
  have h2 := hO.2
  rw [← hd] at h2
  obtain ⟨c0, c1, c2, c3, c4, c5⟩ := h2.node.cells
  obtain ⟨r, hr⟩ : ∃ r, r = rkP sl i := ⟨_, rfl⟩
  have HB : Hid (rnk d i = r) := Lib.hid (by rw [hd, hr]; exact rk_data (by rw [hO.1]; decide) i)
  have hat := prs_at hs
  rw [← hr] at hat
  have hrl : r < (prsOf sl).length := (List.getElem?_eq_some_iff.1 hat).1
  have hp32 := prsOf_len sl
  rw [hO.1] at hp32
  have hne : pv.ownBlock ≠ some cn := own_block_ne h2.pairs h2.node (by decide)
  obtain ⟨b0, b1, bf⟩ := box_facts H.out.2.2.1
  rcases h2.pairs.2 with ⟨_, h0⟩ | ⟨b, cap, cur, rfl, hbb, hbh, hbn, hbc, hbs, hbt⟩
  · omega
  obtain ⟨n, hn⟩ : ∃ n, n = (prsOf sl).length := ⟨_, rfl⟩
  have hbc' : b ≠ cn := fun e => hne (by rw [e]; rfl)
  have hbg' : b ≠ gp := fun e => H.out.2.2.2 (by rw [e]; rfl)
  have hrow0 : (wr.cell? ⟨b, r * 2, none⟩).isSome = true := by rw [seg_of_heap hbh, Array.getElem?_eq_getElem (by omega)]; rfl
  have hrow1 : (wr.cell? ⟨b, r * 2 + 1, none⟩).isSome = true := by rw [seg_of_heap hbh, Array.getElem?_eq_getElem (by omega)]; rfl
  obtain ⟨u0, hu0⟩ := Option.isSome_iff_exists.1 hrow0
  obtain ⟨u1, hu1⟩ := Option.isSome_iff_exists.1 hrow1
  have HF : Hid (∀ x, Ext wr x → ∀ j, x.frozen? ⟨b, j, none⟩ = false) := Lib.hid (fun x f j => by simp [World.frozen?, (f.block b (heap_lt hbh)).trans hbh])
  have HU := Lib.hid (And.intro hu0 hu1)
  have HK := Lib.hid (And.intro c0 (And.intro c2 (And.intro b0 b1)))
  have HR : Hid (∀ x, Ext wr x → InO base ((x.setCell ⟨b, r * 2, none⟩ (str p.1)).setCell ⟨b, r * 2 + 1, none⟩ (str p.2)) cn (sl.set i (.pr p)) ow (.slice (some ⟨b, 0, none⟩) (prsOf sl).length cap) kv) := Lib.hid (fun x f => by
    refine ⟨by rw [List.length_set]; exact H.out.1.1, ?_⟩
    have hx := H.out.1.2.ext f
    have hxb : x.heap[b]? = some (.cells cur NP (0, 0)) := (f.block b (heap_lt hbh)).trans hbh
    have ed : dataOf (sl.set i (.pr p)) = dataOf sl := bits_set_same Slot.isP H.out.2.1 (s := .pr p) rfl
    have en : nodesOf (sl.set i (.pr p)) = nodesOf sl := bits_set_same Slot.isK H.out.2.1 (s := .pr p) rfl
    rw [ed, en, prs_set_pp H.out.2.1, kds_set_nn H.out.2.1 rfl (s := .pr p) rfl, ← hr]
    have hf2 : flat ((prsOf sl).set r p) = ((flat (prsOf sl)).set (r * 2) (str p.1)).set (r * 2 + 1) (str p.2) := flat_set _ _ _
    refine ⟨?_, ?_, ?_⟩
    · exact (Below.heap_setCell _ _ _ cn (fun e => hbc' e.symm)).trans ((Below.heap_setCell _ _ _ cn (fun e => hbc' e.symm)).trans hx.node)
    · rw [hf2, List.length_set]
      exact (World.ownsRow.stored (World.ownsRow.stored hx.pairs (r * 2) (str p.1)).1 (r * 2 + 1) (str p.2)).1
    · exact own_other (own_other hx.kids hxb (by decide) _ _) (heap_set hxb _ _) (by decide) _ _)
  have hri : (r : Int) < (n : Int) := by omega
  have hr0 : (0 : Int) ≤ (r : Int) := by omega
  have HN := Lib.hid (And.intro hn (And.intro hbc' hbg'))
  rw [← hn] at HR HQF hp32 hbn HK
  clear hO hs hd h2 c1 c3 c4 c5 hr hat hrl hne b0 b1 bf hbh hbs hbt hrow0 hrow1 hu0 hu1 c0 c2 hn
  obtain ⟨c0, c2, b0, b1⟩ := HK.out
  go_region_held3 (fun w' => w'.cell? ⟨cn, 0, none⟩ = some (.int .u32 d) ∧ w'.cell? ⟨cn, 2, none⟩ = some (.slice (some ⟨b, 0, none⟩) n cap) ∧ w'.cell? ⟨gp, 0, none⟩ = some (str p.1) ∧ w'.cell? ⟨gp, 1, none⟩ = some (str p.2))
    (first | exact keep4s (keep4c k1.out HK.out) HN.out.2.1 HN.out.2.2 | exact keep4c k1.out HK.out | exact keep4c (by repeat' (first | exact Ext.refl _ | apply ext_alloc | apply ext_drew | exact below_drewN (Ext.refl _) _)) HK.out)
    ((go_at_call 58; refine (rank_c _ d i hd9 hi).mono ?_; rintro e x1 ⟨rfl, f1⟩; rw [HB.out]; have k1 : Hid (Ext wr x1) := Lib.hid (Ext.trans (by repeat' (first | exact Ext.refl _ | apply ext_alloc | apply ext_drew | exact below_drewN (Ext.refl _) _)) f1); have v0 := Ext.cell' k1.out HU.out.1; have v1 := Ext.cell' k1.out HU.out.2; have vf := HF.out x1 k1.out; clear f1))
  refine HQF.out _ _ _ _ _ _ _ _ _ _ _ _ _ _ _ ?_ ?_
  · exact HR.out x1 k1.out
  · exact ((Only.of_ext k1.out).setCell (p := ⟨b, r * 2, none⟩) (.inl (.inr (.inl rfl))) _).setCell (p := ⟨b, r * 2 + 1, none⟩) (.inl (.inr (.inl rfl))) _

end Go.Proofs.Ytbmakajadelckaa
/- Contract: SetPair, by a contract of own. -/
namespace Go.Proofs.Ytbmakajadelckaa
open Go.RowKit Go.QS Go.QS.Nk
set_option linter.unusedVariables false

set_option maxRecDepth 100000 in
set_option maxHeartbeats 2000000 in
theorem setp_pr (C : World → World → Nat → Value → Value → Prop) (w : World) (v tok : Value) (i : Nat) (sl : List (Slot Nat)) (p q : Pr) (hs : sl[i]? = some (.pr q)) (hl : sl.length = 32)
    (HI : Hid (∀ w1, Ext w w1 → Calls Try.prog 112 #[v, .int .i64 i] w1 fun e w' => e = .returned (.bool true) ∧ Ext w1 w'))
    (HO : Hid (∀ w1, Ext w w1 → Calls Try.prog 110 #[v, tok] w1 fun e w' => ∃ c B ow pv kv, e = .returned (ptr c) ∧ InO B w' c sl ow pv kv ∧ B ≤ w'.heap.size ∧ (w.heap.size < w1.heap.size → pv.ownBlock ≠ some w.heap.size) ∧ Ext w1 w' ∧ C w1 w' c pv kv)) :
    Calls Try.prog 85 #[v, tok, .int .i64 i, .agg #[str p.1, str p.2]] w fun e w' => ∃ c B ow pv kv pv' kv' w1 wm, e = .returned (ptr c) ∧ Ext w w1 ∧ Ext w1 wm ∧ C w1 wm c pv kv ∧ InO B w' c (sl.set i (.pr p)) ow pv' kv' ∧ Only (fun k => k = c ∨ pv.ownBlock = some k ∨ kv.ownBlock = some k) wm w' ∧ (pv'.ownBlock = pv.ownBlock ∨ ∃ b, pv'.ownBlock = some b ∧ wm.heap.size ≤ b) ∧ (kv'.ownBlock = kv.ownBlock ∨ ∃ b, kv'.ownBlock = some b ∧ wm.heap.size ≤ b) := by
  have hd9 : dataOf sl < 4294967296 := bits32 _ hl
  have hn9 : nodesOf sl < 4294967296 := bits32 _ hl
  have hi : i < 32 := by have := get_lt hs; omega
  obtain ⟨wa, hwa⟩ : ∃ x, x = w.alloc (.cells #[str p.1, str p.2] NP) := ⟨_, rfl⟩
  obtain ⟨gp, hgp⟩ : ∃ x, x = w.heap.size := ⟨_, rfl⟩
  have hba := heap_new w (.cells #[str p.1, str p.2] NP)
  rw [← hwa, ← hgp] at hba
  have hEa : Ext w wa := by rw [hwa]; exact (Ext.refl _).alloc (Nat.le_refl _) _
  have HA := Lib.hid (And.intro hba hEa)
  have HSZ : Hid (w.heap.size < wa.heap.size) := Lib.hid (by rw [hwa]; simp)
  have HW : Hid (w.alloc (.cells #[str p.1, str p.2] NP) = wa ∧ w.heap.size = gp) := Lib.hid ⟨hwa.symm, hgp.symm⟩
  clear hwa hgp hba hEa
  go_enter Try.func85, Try.ntmps85
  repeat' (first | go_at_call 112 | go_skip | go_guarded | go_step)
  have hW1 := HW.out.1
  have hW2 := HW.out.2
  rw [hW1]
  try rw [hW2]
  clear hW1 hW2
  refine (HI.out _ HA.out.2).mono ?_
  rintro e w2 ⟨rfl, f2⟩
  have H2 := Lib.hid f2
  clear f2
  go_simp
  repeat' (first | go_at_call 110 | go_skip | go_guarded | go_step)
  refine (HO.out w2 (HA.out.2.trans H2.out)).mono ?_
  rintro e wm ⟨c, B, ow, pv, kv, rfl, hO, hB, hne, hE, hC⟩
  obtain ⟨c0, c1, c2, c3, c4, c5⟩ := hO.2.node.cells
  replace hne := hne (Nat.lt_of_lt_of_le HSZ.out H2.out.size)
  have N := Lib.hid (And.intro hO (And.intro hB (And.intro hne (And.intro hE hC))))
  have hbm := Lib.hid (box_ext' HA.out.1 (H2.out.trans hE))
  clear hE hC hne hB
  go_simp
  repeat' (first | go_at_call 77 | go_skip | go_guarded | go_step)
  refine (has_c _ (dataOf sl) i hd9 hi).mono ?_
  rintro e w3 ⟨rfl, rfl⟩
  rw [bit_at Slot.isP hs]
  simp only [Slot.isP_pr]
  go_simp
  repeat' (go_not_at_region 5; (first | go_skip | go_guarded | go_step))
  refine setp_5 B wm c gp i sl ow pv kv p q (Lib.hid ⟨N.out.1, hs, hbm.out, by rw [← HW.out.2]; exact N.out.2.2.1⟩) _ _ _ _ _ _ _ _ _ _ _ _ _ _ _ _ _ _ _ _ _ _ _ _ _ _ _ _ _ _ _ _ _ _ _ _ _ _ _ _ _ _ _ _ _ _ _ _ _ _ _ _ _ _ _ _ _ _ _ _ _ _ _ _ _ _ _ _ _ _ _ _ _ _ _ (by kernel_rfl) ?_
  intro z25 z26 z27 z28 z29 z30 z31 z32 z33 z34 z35 z36 z37 z38 wx h1 h2
  have HX := Lib.hid (And.intro h1 h2)
  clear h1 h2
  repeat' (first | go_skip | go_guarded | go_step)
  go_ret
  exact ⟨c, B, ow, pv, kv, pv, kv, w2, wm, rfl, HA.out.2.trans H2.out, N.out.2.2.2.1, N.out.2.2.2.2, HX.out.1, HX.out.2, .inl rfl, .inl rfl⟩


set_option maxRecDepth 100000 in
set_option maxHeartbeats 2000000 in
theorem setp_np (C : World → World → Nat → Value → Value → Prop) (w : World) (v tok : Value) (i : Nat) (sl : List (Slot Nat)) (p : Pr) (s : Slot Nat) (hsp : s.isP = false) (hs : sl[i]? = some (s)) (hl : sl.length = 32)
    (HI : Hid (∀ w1, Ext w w1 → Calls Try.prog 112 #[v, .int .i64 i] w1 fun e w' => e = .returned (.bool true) ∧ Ext w1 w'))
    (HO : Hid (∀ w1, Ext w w1 → Calls Try.prog 110 #[v, tok] w1 fun e w' => ∃ c B ow pv kv, e = .returned (ptr c) ∧ InO B w' c sl ow pv kv ∧ B ≤ w'.heap.size ∧ (w.heap.size < w1.heap.size → pv.ownBlock ≠ some w.heap.size) ∧ Ext w1 w' ∧ C w1 w' c pv kv)) :
    Calls Try.prog 85 #[v, tok, .int .i64 i, .agg #[str p.1, str p.2]] w fun e w' => ∃ c B ow pv kv pv' kv' w1 wm, e = .returned (ptr c) ∧ Ext w w1 ∧ Ext w1 wm ∧ C w1 wm c pv kv ∧ InO B w' c (sl.set i (.pr p)) ow pv' kv' ∧ Only (fun k => k = c ∨ pv.ownBlock = some k ∨ kv.ownBlock = some k) wm w' ∧ (pv'.ownBlock = pv.ownBlock ∨ ∃ b, pv'.ownBlock = some b ∧ wm.heap.size ≤ b) ∧ (kv'.ownBlock = kv.ownBlock ∨ ∃ b, kv'.ownBlock = some b ∧ wm.heap.size ≤ b) := by
  have hd9 : dataOf sl < 4294967296 := bits32 _ hl
  have hn9 : nodesOf sl < 4294967296 := bits32 _ hl
  have hi : i < 32 := by have := get_lt hs; omega
  obtain ⟨wa, hwa⟩ : ∃ x, x = w.alloc (.cells #[str p.1, str p.2] NP) := ⟨_, rfl⟩
  obtain ⟨gp, hgp⟩ : ∃ x, x = w.heap.size := ⟨_, rfl⟩
  have hba := heap_new w (.cells #[str p.1, str p.2] NP)
  rw [← hwa, ← hgp] at hba
  have hEa : Ext w wa := by rw [hwa]; exact (Ext.refl _).alloc (Nat.le_refl _) _
  have HA := Lib.hid (And.intro hba hEa)
  have HSZ : Hid (w.heap.size < wa.heap.size) := Lib.hid (by rw [hwa]; simp)
  have HW : Hid (w.alloc (.cells #[str p.1, str p.2] NP) = wa ∧ w.heap.size = gp) := Lib.hid ⟨hwa.symm, hgp.symm⟩
  clear hwa hgp hba hEa
  go_enter Try.func85, Try.ntmps85
  repeat' (first | go_at_call 112 | go_skip | go_guarded | go_step)
  have hW1 := HW.out.1
  have hW2 := HW.out.2
  rw [hW1]
  try rw [hW2]
  clear hW1 hW2
  refine (HI.out _ HA.out.2).mono ?_
  rintro e w2 ⟨rfl, f2⟩
  have H2 := Lib.hid f2
  clear f2
  go_simp
  repeat' (first | go_at_call 110 | go_skip | go_guarded | go_step)
  refine (HO.out w2 (HA.out.2.trans H2.out)).mono ?_
  rintro e wm ⟨c, B, ow, pv, kv, rfl, hO, hB, hne, hE, hC⟩
  obtain ⟨c0, c1, c2, c3, c4, c5⟩ := hO.2.node.cells
  replace hne := hne (Nat.lt_of_lt_of_le HSZ.out H2.out.size)
  have N := Lib.hid (And.intro hO (And.intro hB (And.intro hne (And.intro hE hC))))
  have hbm := Lib.hid (box_ext' HA.out.1 (H2.out.trans hE))
  clear hE hC hne hB
  go_simp
  repeat' (first | go_at_call 77 | go_skip | go_guarded | go_step)
  refine (has_c _ (dataOf sl) i hd9 hi).mono ?_
  rintro e w3 ⟨rfl, rfl⟩
  rw [bit_at Slot.isP hs]
  rw [hsp]
  go_simp
  have hgc : gp ≠ c := fun e => by
    have h1 := N.out.1.2.node
    unfold NdAt at h1
    rw [← e, hbm.out] at h1
    simp at h1
  have hkg : kv.ownBlock ≠ some gp := own_block_ne N.out.1.2.kids hbm.out (by decide)
  have hpg : pv.ownBlock ≠ some gp := by rw [← HW.out.2]; exact N.out.2.2.1
  have HG := Lib.hid (And.intro hgc (And.intro hkg hpg))
  clear hgc hkg hpg
  repeat' (first | go_at_call 113 | go_skip | go_guarded | go_step)
  refine (drop_c B wm c i sl ow pv kv s N.out.1 hs).mono ?_
  rintro e wd ⟨rfl, pv1, kv1, hd1, od, bp, bk⟩
  have hbd := Lib.hid (od.heap hbm.out (fun h => by
    rcases h with h | h | h
    · exact HG.out.1 h
    · exact HG.out.2.2 h
    · exact HG.out.2.1 h))
  have D := Lib.hid (And.intro hd1 (And.intro od (And.intro bp bk)))
  have hBd : B ≤ wd.heap.size := Nat.le_trans N.out.2.1 od.size
  have hs0 : (sl.set i .no)[i]? = some .no := by rw [List.getElem?_set_self (by omega)]
  clear hd1 od bp bk c0 c1 c2 c3 c4 c5
  go_simp
  repeat' (go_not_at_region 8; (first | go_skip | go_guarded | go_step))
  refine setp_8 B wd c gp i (sl.set i .no) ow pv1 kv1 p (Lib.hid ⟨D.out.1, hs0, hbd.out, by rw [D.out.2.2.1]; exact HG.out.2.2⟩) hBd _ _ _ _ _ _ _ _ _ _ _ _ _ _ _ _ _ _ _ _ _ _ _ _ _ _ _ _ _ _ _ _ _ _ _ _ _ _ _ _ _ _ _ _ _ _ _ _ _ _ _ _ _ _ _ _ _ _ _ _ _ _ _ _ _ _ _ _ _ _ _ _ _ _ _ (by kernel_rfl) ?_
  intro z45 z46 z47 z48 z49 z50 z51 z52 z53 z54 z55 z56 z57 z58 z59 z60 z61 z62 z63 wx pv2 hN hp hk hO2 hb2
  rw [List.set_set] at hp hk
  have X := Lib.hid (And.intro hN (And.intro hp (And.intro hk (And.intro hO2 hb2))))
  obtain ⟨y0, y1, y2, y3, y4, y5⟩ := hN.cells
  have yf := hN.free
  have hd09 : dataOf (sl.set i .no) < 4294967296 := bits32 _ (by rw [List.length_set]; exact hl)
  clear hN hp hk hO2 hb2 y1 y2 y3 y4 y5
  repeat' (first | go_at_call 115 | go_skip | go_guarded | go_step)
  refine (with_c _ (dataOf (sl.set i .no)) i hd09 hi).mono ?_
  rintro e w3 ⟨rfl, rfl⟩
  go_simp
  repeat' (first | go_skip | go_guarded | go_step)
  go_ret
  have ed : dataOf (sl.set i (.pr p)) = dataOf (sl.set i .no) ||| 2 ^ i := by
    have := bits_set_on Slot.isP (sl := sl.set i .no) (i := i) (by rw [List.length_set]; omega) (s := .pr p) rfl
    rw [List.set_set] at this
    exact this
  have en : nodesOf (sl.set i (.pr p)) = nodesOf (sl.set i .no) := by
    have := bits_set_same Slot.isK hs0 (s := .pr p) rfl
    rw [List.set_set] at this
    exact this
  obtain ⟨hN, hp, hk, hO2, hb2⟩ := X.out
  have hN2 := hN.set0 (dataOf (sl.set i .no) ||| 2 ^ i)
  refine ⟨c, B, ow, pv, kv, pv2, kv1, w2, wm, rfl, HA.out.2.trans H2.out, N.out.2.2.2.1, N.out.2.2.2.2, ⟨by rw [List.length_set]; exact hl, ?_⟩, ?_, ?_, .inl D.out.2.2.2⟩
  · rw [ed, en]
    exact ⟨hN2, own_other hp hN (by decide) 0 _, own_other hk hN (by decide) 0 _⟩
  · refine (D.out.2.1.trans' hO2 (fun j hj h => ?_)).setCell (p := ⟨c, 0, none⟩) (.inl (.inl rfl)) _
    rw [D.out.2.2.1, D.out.2.2.2] at h
    exact h
  · rcases hb2 with h | ⟨b, h, hb⟩
    · exact .inl (h.trans D.out.2.2.1)
    · exact .inr ⟨b, h, Nat.le_trans D.out.2.1.size hb⟩

end Go.Proofs.Ytbmakajadelckaa
