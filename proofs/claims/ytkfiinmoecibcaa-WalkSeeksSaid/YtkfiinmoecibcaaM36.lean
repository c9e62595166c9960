/- Texts joined. -/
import Derived.Test.YtkfiinmoecibcaaWme
import Derived.Test.YtkfiinmoecibcaaM34
import Derived.Test.YtkfiinmoecibcaaM25
set_option linter.unusedVariables false
set_option linter.unusedSimpArgs false
/- WalkSeeks: its test of a step: a law of its own; a walk's keys are distinct. -/
namespace Go.QS
open Go.RowKit Go.QS.Nk
/-- Where a key lies in a walk: one place alone. -/
theorem walk_place {H : List UInt8 → Nat} {f : Nat} {X : List Pr} {d : Nat} (hr : Rise X) {A B : List (Pr × Nat)} {p : Pr} {e : Nat} {i : Nat} {s : Pr × Nat} (h : walkT (trieOf H f X) d = A ++ (p, e) :: B) (hs : (walkT (trieOf H f X) d)[i]? = some s) (hk : s.1.1 = p.1) : A.length = i ∧ s = (p, e) ∧ B = (walkT (trieOf H f X) d).drop (i + 1) := by
  have hp := (walk_perm H f X d).map Prod.fst
  have hn : (X.map Prod.fst).Nodup := by
    refine List.pairwise_map.2 (hr.imp fun {a b} hab e => ?_)
    rw [e] at hab
    exact absurd hab (by simp)
  have hN := hp.nodup_iff.2 hn
  rw [List.map_map] at hN
  have h1 : ((walkT (trieOf H f X) d).map (Prod.fst ∘ Prod.fst))[i]? = some p.1 := by rw [List.getElem?_map, hs, ← hk]; rfl
  have h0 : (walkT (trieOf H f X) d)[A.length]? = some (p, e) := by rw [h]; simp
  have h2 : ((walkT (trieOf H f X) d).map (Prod.fst ∘ Prod.fst))[A.length]? = some p.1 := by rw [List.getElem?_map, h0]; rfl
  have hi := (List.getElem?_eq_some_iff.1 h2).1
  have hij := (List.getElem?_inj hi hN).1 (h2.trans h1.symm)
  subst hij
  rw [h0] at hs
  cases hs
  refine ⟨rfl, rfl, ?_⟩
  rw [h, show A ++ (p, e) :: B = (A ++ [(p, e)]) ++ B by simp, List.drop_left' (by simp)]
end Go.QS
namespace Go.Proofs.Ytkfiinmoecibcaa
open Go.RowKit Go.QS Go.QS.Nk
set_option linter.unusedVariables false

set_option maxRecDepth 100000 in
set_option maxHeartbeats 2000000 in
theorem seeks8_9 (W0 wr : World) (cn gs n Cs k dd : Nat) (As : Option Addr) (V : Value) (ms : List Fm) (st : List Fp) (L : List (Pr × Nat)) (hk : k + 1 ≤ n) (hn9 : n ≤ 1000) (hnC : n ≤ Cs) (hC9 : Cs ≤ maxLen) (hw9 : wtB st ≤ 1000000)
    (H : Hid (Cur W0 wr cn V ms st dd ∧ comB st 1 = L.drop (k + 1) ∧ Seg W0 As (flatS L) ∧ n = L.length ∧ wr.cell? ⟨gs, 2, none⟩ = some (.int .i64 (dd : Int)) ∧ gs ≠ cn ∧ V.ownBlock ≠ some gs)) (c : Code) (Q : Exit → Act → World → Prop) (t0 t1 t2 t3 t4 t5 t6 t7 t8 t14 t15 t16 t17 t18 t19 t20 t21 t22 t23 t24 t25 t26 t27 t28 t29 t30 t31 t32 t33 t34 t35 t36 t37 t38 t39 t40 t41 t42 t43 t44 t45 t46 t47 t48 t49 t50 t51 t52 t53 t54 t55 t56 t57 t58 t59 t60 t61 t62 t63 t64 t65 t66 t67 t68 t69 t70 t71 t72 t73 t74 t75 t76 t77 t78 t79 t80 t81 t82 t83 t84 t85 t86 t87 : Value)
    (hc : (Try.f4.body.bind (findR 9)) = some c)
    (hQ : ∀ (u47 u48 u49 u50 u51 u52 u53 u54 u55 u56 u57 u58 u59 u60 u61 u62 u63 : Value) (wx : World), Ext W0 wx → Q .normal { tmps := List.toArray (t0 :: t1 :: t2 :: t3 :: t4 :: t5 :: t6 :: t7 :: t8 :: (.slice As n Cs) :: (.int .i64 k) :: (ptr gs) :: (ptr cn) :: (.bool true) :: t14 :: t15 :: t16 :: t17 :: t18 :: t19 :: t20 :: t21 :: t22 :: t23 :: t24 :: t25 :: t26 :: t27 :: t28 :: t29 :: t30 :: t31 :: t32 :: t33 :: t34 :: t35 :: t36 :: t37 :: t38 :: t39 :: t40 :: t41 :: t42 :: t43 :: t44 :: t45 :: t46 :: u47 :: u48 :: u49 :: u50 :: u51 :: u52 :: u53 :: u54 :: u55 :: u56 :: u57 :: u58 :: u59 :: u60 :: u61 :: u62 :: u63 :: (.bool false) :: t65 :: t66 :: t67 :: t68 :: t69 :: t70 :: t71 :: t72 :: t73 :: t74 :: t75 :: t76 :: t77 :: t78 :: t79 :: t80 :: t81 :: t82 :: t83 :: t84 :: t85 :: t86 :: t87 :: []), defers := [] } wx) :
    c.wp Try.prog Q { tmps := List.toArray (t0 :: t1 :: t2 :: t3 :: t4 :: t5 :: t6 :: t7 :: t8 :: (.slice As n Cs) :: (.int .i64 k) :: (ptr gs) :: (ptr cn) :: (.bool true) :: t14 :: t15 :: t16 :: t17 :: t18 :: t19 :: t20 :: t21 :: t22 :: t23 :: t24 :: t25 :: t26 :: t27 :: t28 :: t29 :: t30 :: t31 :: t32 :: t33 :: t34 :: t35 :: t36 :: t37 :: t38 :: t39 :: t40 :: t41 :: t42 :: t43 :: t44 :: t45 :: t46 :: t47 :: t48 :: t49 :: t50 :: t51 :: t52 :: t53 :: t54 :: t55 :: t56 :: t57 :: t58 :: t59 :: t60 :: t61 :: t62 :: t63 :: t64 :: t65 :: t66 :: t67 :: t68 :: t69 :: t70 :: t71 :: t72 :: t73 :: t74 :: t75 :: t76 :: t77 :: t78 :: t79 :: t80 :: t81 :: t82 :: t83 :: t84 :: t85 :: t86 :: t87 :: []), defers := [] } wr := by
  change some _ = some c at hc
  cases hc
  have HQF := Lib.hid hQ
  clear hQ
  obtain ⟨A2, hrun0, hseg, _⟩ := run_fromW (P := Try.prog) (t := 32) (e := ST8) Try.underlying32 infoST As (i := k + 1) hk hnC
  have hs2 : Sl W0 3 (.slice A2 (n - (k + 1)) (Cs - (k + 1))) (L.drop (k + 1)).length (flatS (L.drop (k + 1))) := by
    have h1 := hseg W0 (flatS L) (by rw [flatS_length, ← H.out.2.2.2.1]) H.out.2.2.1
    rw [flatS_drop] at h1
    have e : (L.drop (k + 1)).length = n - (k + 1) := by rw [List.length_drop]; have := H.out.2.2.2.1; omega
    exact ⟨A2, Cs - (k + 1), by rw [e], flatS_length _, by rw [e]; omega, by omega, h1⟩
  have hd9 : (L.drop (k + 1)).length ≤ 1000000 := by rw [List.length_drop]; have := H.out.2.2.2.1; omega
  have hrun : ∀ w, (Instr.slice 32 (.slice As n Cs) (some (.int .i64 ((k : Int) + 1))) none none).run Try.prog w = .ok (.slice A2 (n - (k + 1)) (Cs - (k + 1))) w := hrun0
  have hwr : IntKind.i64.wrap ((k : Int) + 1) = (k : Int) + 1 := by rw [IntKind.wrap_i64]; omega
  have HS := Lib.hid hs2
  have HC1 : Hid (Cur W0 wr.drew cn V ms st dd ∧ wr.drew.cell? ⟨gs, 2, none⟩ = some (.int .i64 (dd : Int))) := Lib.hid ⟨H.out.1.keep (ext_drew (Ext.refl _)), Ext.cell' (ext_drew (Ext.refl _)) H.out.2.2.2.2.1⟩
  have HD1 := Lib.hid (depth_c HC1.out.1)
  have HG1 := Lib.hid (goes_c W0 wr.drew cn V ms st dd (L.drop (k + 1)) _ HC1.out.1 hw9 H.out.2.1 hs2 hd9)
  have hb : ((dd : Int) == (dd : Int)) = true := by simp
  have hb2 : ((dd : Int) != (dd : Int)) = false := by simp
  clear hseg hs2 hrun0
  go_region_held3 (fun w' => w'.cell? ⟨gs, 2, none⟩ = some (.int .i64 (dd : Int)))
    (first | exact K2.out | exact HC1.out.2)
    (first
      | (go_at_call 20; refine HD1.out.mono ?_; rintro e x1 ⟨rfl, rfl⟩)
      | (go_at_call 17; refine HG1.out.mono ?_; rintro e x2 ⟨rfl, f2, t2⟩; have F4 := Lib.hid f2; have K2 := Lib.hid (t2.cell HC1.out.2 (fun e => e.elim H.out.2.2.2.2.2.1 H.out.2.2.2.2.2.2)); clear f2 t2))
  exact HQF.out _ _ _ _ _ _ _ _ _ _ _ _ _ _ _ _ _ _ F4.out

end Go.Proofs.Ytkfiinmoecibcaa
/- WalkSeeks: its walk. -/
namespace Go.Proofs.Ytkfiinmoecibcaa
open Go.RowKit Go.QS Go.QS.Nk
set_option linter.unusedVariables false

theorem fieldW (a x : Value) (w : World) : (Instr.field 40 (.agg #[a, x]) 0).run Try.prog w = .ok a w := by
  unfold Instr.field
  simp [go_sem, asAgg]

theorem wt_root' (H : List UInt8 → Nat) (X : List Pr) (hX : X.length ≤ 40) : wtB [((trieOf H 13 X).ps, (trieOf H 13 X).ks)] ≤ 2000 := by
  have h1 := cnt_trie H 13 X
  have h2 := cntT_eq (trieOf H 13 X)
  simp only [wtB]
  omega

set_option maxRecDepth 100000 in
set_option maxHeartbeats 2000000 in
theorem walkSeeks_c (w : World) (h : Hs) (hk : h.Ok) (v1 : Value) (l : List Pr) (key : List UInt8) (hP : PS w v1 l) :
    Calls Try.prog 4 #[hsV h, v1, str key] w fun e w' => e = .returned (.bool true) ∧ Ext w w' := by
  have HP := Lib.hid hP
  clear hP
  go_enter Try.func4, Try.ntmps4
  repeat' (go_not_at_region 1; (first | go_skip | go_guarded | go_step))
  obtain ⟨gh, hgh⟩ : ∃ g, g = w.heap.size := ⟨_, rfl⟩
  rw [← hgh]
  refine wp_named (fun w' => HsAt w' gh h ∧ Ext w w') ⟨by rw [hgh]; exact heap_new w _, (Ext.refl w).alloc (Nat.le_refl _) _⟩ ?_
  clear hgh
  intro wa HW
  repeat' (first | go_at_call 11 | go_skip | go_guarded | go_step)
  refine (awake08_c wa).mono ?_
  rintro e w1 ⟨rfl, f1⟩
  have H1 : Hid (HsAt w1 gh h ∧ Ext w w1) := Lib.hid ⟨HW.out.1.ext f1, HW.out.2.trans f1⟩
  clear f1 HW
  obtain ⟨c0, c1, c2⟩ := H1.out.1.cells
  go_simp
  repeat' (first | go_at_call 12 | go_skip | go_guarded | go_step)
  refine (trie08_c h hk w1 v1 l (HP.out.below H1.out.2)).mono ?_
  rintro e w2 ⟨g, vx, vs, rfl, f2, t2, p2, s2⟩
  obtain ⟨X, hX⟩ : ∃ X, X = xOf l := ⟨_, rfl⟩
  obtain ⟨hXr, hXl, hXk⟩ := xOf_ok l
  rw [← hX] at t2 p2 s2 hXr hXl hXk
  obtain ⟨L, hL⟩ : ∃ L, L = walkT (trieOf h.hash 13 X) 1 := ⟨_, rfl⟩
  rw [← hL] at s2
  have hLl : L.length = X.length := by rw [hL]; exact walk_len _ _ _ _
  have hLk : ∀ s ∈ L, s.1 ∈ X := fun s hs => by
    have := (walk_perm h.hash 13 X 1).mem_iff.1 (List.mem_map.2 ⟨s, (by rw [← hL]; exact hs), rfl⟩)
    exact this
  obtain ⟨As, Cs, rfl, _, hns, hcs, hss⟩ := s2
  obtain ⟨n, hn⟩ : ∃ n, n = L.length := ⟨_, rfl⟩
  rw [← hn] at hns hLl ⊢
  have hn40 : n ≤ 40 := by omega
  have hX40 : X.length ≤ 40 := hXl
  clear hXl hLl
  have HX := Lib.hid (And.intro hXr (And.intro hXk (And.intro hL (And.intro hn (And.intro hLk (wt_root' h.hash X hX40))))))
  have H2 : Hid (HsAt w2 gh h ∧ Ext w w2 ∧ TR ND h.hash w2 13 g X ∧ Seg w2 As (flatS L) ∧ PS w2 vx X) := Lib.hid ⟨H1.out.1.ext f2, H1.out.2.trans f2, t2, hss, p2⟩
  clear f2 t2 p2 hss hX hXr hXk hL hn hLk c0 c1 c2
  obtain ⟨key2, hk2⟩ : ∃ k, k = (cutP (key, [])).1 := ⟨_, rfl⟩
  have hk40 : key2.length ≤ 40 := by rw [hk2]; exact (cutP_short (key, [])).1
  go_simp
  repeat' (first | go_at_call 18 | go_skip | go_guarded | go_step)
  refine (few08_c w2 (key, [])).mono ?_
  rintro e w3 ⟨rfl, f3⟩
  rw [← hk2]
  have hfw := fun w' => fieldW (str key2) (str (cutP (key, [])).2) w'
  have H3 : Hid (HsAt w3 gh h ∧ Ext w2 w3) := Lib.hid ⟨H2.out.1.ext f3, f3⟩
  clear f3 hk2
  go_simp
  repeat' (go_not_at_region 6; (first | go_skip | go_guarded | go_step))
  go_loopg [33] n (fun gk v33 wr => ∃ i : Nat, v33 = .int .i64 i ∧ i ≤ n ∧ n - i ≤ gk ∧ Hid (HsAt wr gh h ∧ Ext w2 wr))
  case atStart => exact ⟨0, rfl, Nat.zero_le _, by omega, H3⟩
  case round =>
    obtain ⟨i, rfl, hi, hgk, HI⟩ := hrel
    rcases Nat.lt_or_ge i n with hlt | hge
    · have e1 : decide (i < n) = true := by simp [hlt]
      have hi1 : (i : Int) < (n : Int) := by omega
      obtain ⟨s, hs⟩ := get_of_lt L (show i < L.length by have := HX.out.2.2.2.1; omega)
      have hsX : (s.1.1, s.1.2) ∈ X := HX.out.2.2.2.2.1 s (List.mem_of_getElem? hs)
      have hsk : s.1.1.length ≤ 40 := (HX.out.2.1 s.1 hsX).1
      obtain ⟨b, o, rfl, q0, q1, q2⟩ := seg_step (H2.out.2.2.2.1.below HI.out.2) hs
      have HS := Lib.hid (And.intro hs hsX)
      clear hs hsX
      repeat' (go_not_at_region 8; (first | go_skip | go_guarded | go_step))
      obtain ⟨gs, hgs⟩ : ∃ g, g = wr.heap.size := ⟨_, rfl⟩
      rw [← hgs]
      refine wp_nameW (fun w' => w'.heap[gs]? = some (.cells #[str s.1.1, str s.1.2, .int .i64 (s.2 : Int)] ST8 (0, 0)) ∧ HsAt w' gh h ∧ Ext w2 w' ∧ TR ND h.hash w' 13 g X) ⟨by rw [hgs]; exact heap_new wr _, HI.out.1.ext ((Ext.refl _).alloc (Nat.le_refl _) _), Ext.trans HI.out.2 ((Ext.refl _).alloc (Nat.le_refl _) _), TR.ext (Ext.trans HI.out.2 ((Ext.refl _).alloc (Nat.le_refl _) _)) 13 H2.out.2.2.1⟩ ?_
      clear hgs q0 q1 q2
      intro x1 H5
      have y0 : x1.cell? ⟨gs, 0, none⟩ = some (str s.1.1) := by have := H5.out.1; simp [World.cell?, this]
      obtain ⟨s0, s1, s2⟩ := H5.out.2.1.cells
      have HSK := Lib.hid (seek_yes x1 h hk g X s.1.1 s.1.2 H5.out.2.2.2 HX.out.1 (by omega) (by omega) HS.out.2 (by have := HX.out.2.2.2.2.2; omega))
      repeat' (first | go_at_call 19 | go_skip | go_guarded | go_step)
      refine HSK.out.mono ?_
      rintro e x2 ⟨c, V, ms, st, wb, A, rfl, f6, hC, hw, hA⟩
      obtain ⟨ha1, ha2, ha3⟩ := walk_place HX.out.1 hA (by rw [← HX.out.2.2.1]; exact HS.out.1) rfl
      rw [← HX.out.2.2.1] at ha3
      have hdd : st.length = s.2 := by rw [ha2]
      rw [hdd] at hC
      have hgl : gs < x1.heap.size := heap_lt H5.out.1
      have hbl := f6.size
      have hcl := hC.le
      have H6 : Hid (Cur wb x2 c V ms st s.2 ∧ comB st 1 = L.drop (i + 1) ∧ Seg wb (some ⟨b, o, none⟩) (flatS L) ∧ n = L.length ∧ x2.cell? ⟨gs, 2, none⟩ = some (.int .i64 (s.2 : Int)) ∧ gs ≠ c ∧ V.ownBlock ≠ some gs) := Lib.hid ⟨hC, ha3, H2.out.2.2.2.1.below (Ext.trans H5.out.2.2.1 f6), HX.out.2.2.2.1, Ext.cell' (f6.trans hC.ext) (by have := H5.out.1; simp [World.cell?, this]), by omega, fun e => by have := (World.ownsRow.lt hC.row gs e).1; omega⟩
      have H7 : Hid (HsAt wb gh h ∧ Ext w2 wb ∧ wtB st ≤ 2000) := Lib.hid ⟨H5.out.2.1.ext f6, Ext.trans H5.out.2.2.1 f6, by have := HX.out.2.2.2.2.2; omega⟩
      clear hA ha1 ha2 ha3 hdd hC hgl hbl hcl f6 hw y0 s0 s1 s2 HSK
      go_simp
      repeat' (go_not_at_region 9; (first | go_skip | go_guarded | go_step))
      refine seeks8_9 wb x2 c gs n Cs i s.2 _ V ms st L (by omega) (by omega) hns hcs (by have := H7.out.2.2; omega) H6 _ _ _ _ _ _ _ _ _ _ _ _ _ _ _ _ _ _ _ _ _ _ _ _ _ _ _ _ _ _ _ _ _ _ _ _ _ _ _ _ _ _ _ _ _ _ _ _ _ _ _ _ _ _ _ _ _ _ _ _ _ _ _ _ _ _ _ _ _ _ _ _ _ _ _ _ _ _ _ _ _ _ _ _ _ (by kernel_rfl) ?_
      intro u47 u48 u49 u50 u51 u52 u53 u54 u55 u56 u57 u58 u59 u60 u61 u62 u63 wx hE
      have HE := Lib.hid hE
      clear hE
      (try simp only [Exit.inBlock, Exit.then])
      repeat' (first | go_skip | go_guarded | go_step)
      go_roundg (n - (i + 1))
      case measure => omega
      case rel => exact ⟨i + 1, by go_num, by omega, Nat.le_refl _, Lib.hid ⟨H7.out.1.ext HE.out, Ext.trans H7.out.2.1 HE.out⟩⟩
    · obtain rfl : i = n := by omega
      have e1 : decide (i < i) = false := by simp
      have HGT0 := rget_c wr vx X key2 (H2.out.2.2.2.2.below HI.out.2) HX.out.1 (by omega) (fun p hp => by have := (HX.out.2.1 p hp).1; omega)
      obtain ⟨th, hth⟩ : ∃ t, t = hasK X key2 := ⟨_, rfl⟩
      rw [← hth] at HGT0
      have HGT := Lib.hid HGT0
      have HTH := Lib.hid hth
      clear HGT0 hth
      repeat' (first | go_at_call 21 | go_skip | go_guarded | go_step)
      refine HGT.out.mono ?_
      rintro e x1 ⟨rfl, f4⟩
      have H4 : Hid (HsAt x1 gh h ∧ Ext w2 x1 ∧ TR ND h.hash x1 13 g X) := Lib.hid ⟨HI.out.1.ext f4, Ext.trans HI.out.2 f4, TR.ext (Ext.trans HI.out.2 f4) 13 H2.out.2.2.1⟩
      obtain ⟨s0, s1, s2⟩ := H4.out.1.cells
      clear f4 HGT
      go_simp
      cases th with
      | false =>
        have HSK := Lib.hid (seek_no x1 h hk g X key2 H4.out.2.2 HX.out.1 (by omega) (by omega) HTH.out.symm)
        repeat' (first | go_at_call 19 | go_skip | go_guarded | go_step)
        refine HSK.out.mono ?_
        rintro e x2 ⟨rfl, f5⟩
        have H5 := Lib.hid (Ext.trans H2.out.2.1 (Ext.trans H4.out.2.1 f5))
        clear f5 HTH HSK
        go_simp
        repeat' (first | go_skip | go_guarded | go_step)
        go_ret
        exact ⟨rfl, H5.out⟩
      | true =>
        have hmem : ∃ v, (key2, v) ∈ X := by
          have h1 := HTH.out.symm
          unfold hasK at h1
          obtain ⟨p, hp, he⟩ := List.any_eq_true.1 h1
          exact ⟨p.2, by have e : p.1 = key2 := by simpa using he
                         rw [← e]; exact hp⟩
        obtain ⟨v, hv⟩ := hmem
        have HSK := Lib.hid (seek_yes x1 h hk g X key2 v H4.out.2.2 HX.out.1 (by omega) (by omega) hv (by have := HX.out.2.2.2.2.2; omega))
        repeat' (first | go_at_call 19 | go_skip | go_guarded | go_step)
        refine HSK.out.mono ?_
        rintro e x2 ⟨c, V, ms, st, wb, A, rfl, f6, hC, hw, hA⟩
        have H5 := Lib.hid (Ext.trans H2.out.2.1 (Ext.trans H4.out.2.1 (Ext.trans f6 hC.ext)))
        clear f6 hC hw hA HTH HSK hv
        go_simp
        repeat' (first | go_skip | go_guarded | go_step)
        go_ret
        exact ⟨rfl, H5.out⟩
end Go.Proofs.Ytkfiinmoecibcaa
