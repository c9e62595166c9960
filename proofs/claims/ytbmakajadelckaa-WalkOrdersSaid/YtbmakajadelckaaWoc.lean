/- WalkOrders: its tally, and its end: a law of its own. -/
import Derived.Test.YtbmakajadelckaaWod
import Derived.Test.YtbmakajadelckaaWpa
import Derived.Deep.DeepCutAuto
import Derived.Deep.LoopGhost
set_option linter.unusedVariables false
set_option linter.unusedSimpArgs false
namespace Go.QS
open Go.RowKit Go.QS.Nk
/-- Pairs that rise, in any order, are sorted back. -/
theorem rsort_same {X L : List Pr} (hX : Rise X) (hm : ∀ k, k ∈ L ↔ k ∈ X) : rsort L = X := by
  refine rise_ext _ _ (rsort_rise L) hX fun p => ?_
  rw [mem_rsort]
  constructor
  · intro h; exact (hm p).1 (lastK_mem h).1
  · intro h
    have hp := (hm p).2 h
    cases e : lastK L p.1 with
    | none =>
      unfold lastK at e
      rw [List.getLast?_eq_none_iff] at e
      have : p ∈ L.filter (fun q => q.1 == p.1) := List.mem_filter.2 ⟨hp, by simp⟩
      rw [e] at this; cases this
    | some q =>
      obtain ⟨h1, h2⟩ := lastK_mem e
      have h3 := (hm q).1 h1
      have h4 : lastK X p.1 = some p := (lastK_rise hX p).2 h
      have h5 : lastK X q.1 = some q := (lastK_rise hX q).2 h3
      rw [h2, h4] at h5
      exact h5.symm
theorem walk_nodup (H : List UInt8 → Nat) {X : List Pr} (hX : Rise X) (d : Nat) : (((walkT (trieOf H 13 X) d).map Prod.fst).map Prod.fst).Nodup := by
  have hp := ((walk_perm H 13 X d).map Prod.fst)
  refine hp.nodup_iff.2 ?_
  refine List.pairwise_map.2 (hX.imp fun {a b} hab e => ?_)
  rw [e] at hab
  exact absurd hab (by simp)
theorem nodup_take {α : Type} {l : List α} (h : l.Nodup) {i : Nat} {x : α} (hx : l[i]? = some x) : x ∉ l.take i := by
  intro hm
  obtain ⟨j, hj⟩ := List.mem_iff_getElem?.1 hm
  have hji : j < i := by
    have := (List.getElem?_eq_some_iff.1 hj).1
    simp at this; omega
  rw [List.getElem?_take_of_lt hji] at hj
  have := (List.getElem?_inj (List.getElem?_eq_some_iff.1 hj).1 h).1 (hj.trans hx.symm)
  omega
end Go.QS
namespace Go.Proofs.Ytbmakajadelckaa
open Go Go.RowKit Go.QS Go.QS.Nk
set_option linter.unusedVariables false

abbrev KM8 (w : World) (b : Nat) (K : List (List UInt8)) : Prop := KMap Try.prog 9 3 w b K
theorem zeroInt8 (w : World) : (zeroValue 3).run Try.prog w = .ok (.int .i64 0) w := by kernel_rfl
set_option maxRecDepth 100000 in
set_option maxHeartbeats 2000000 in
theorem orders_tail (wr : World) (g g2 n Cx Cs : Nat) (Ax As : Option Addr) (H : List UInt8 → Nat) (X : List Pr) (L : List (Pr × Nat)) (hn40 : n ≤ 40) (hnc : n ≤ Cs) (hcs : Cs ≤ maxLen)
    (HH : Hid (RepN ND wr g (trieOf H 13 X) ∧ RepN ND wr g2 (trieOf H 13 X) ∧ Seg wr As (flatS L) ∧ L = walkT (trieOf H 13 X) 1 ∧ n = L.length ∧ Rise X ∧ X.length ≤ 40 ∧ ∀ q ∈ X, q.1.length ≤ 40)) (c d : Code) (K : Act → World → Prop) (Q : Exit → Act → World → Prop) (t0 t1 t2 t3 t4 t5 t6 t10 t11 t12 t14 t15 t16 t17 t18 t19 t20 t21 t22 t23 t24 t25 t26 t27 t28 t29 t30 t31 t32 t33 t34 t35 t36 t37 t38 t39 t40 t41 t42 t43 t44 t45 t46 t47 t48 t49 t50 t51 t52 t53 t54 t55 t56 t57 t58 t59 t60 t61 t62 t63 t64 t65 t66 t67 t68 t69 t70 t71 t72 t73 t74 t75 t76 t77 t78 t79 t80 t81 t82 t83 t84 t85 t86 t87 t88 t89 t90 t91 t92 t93 t94 t95 t96 t97 t98 t99 t100 t101 t102 t103 t104 t105 t106 t107 t108 t109 t110 t111 t112 t113 t114 t115 t116 t117 t118 : Value)
    (hc : (Try.f3.body.bind (findR 18)) = some c) (hd : (Try.f3.body.bind (findT 18)) = some d)
    (hK : ∀ a w, d.wp Try.prog Q a w → K a w)
    (hQ : ∀ (a : Act) (wx : World), a.defers = [] → a.tmps.getD 6 undef = .bool true → Ext wr wx → Q .ret a wx) :
    c.wp Try.prog (Exit.then K Q) { tmps := List.toArray (t0 :: t1 :: t2 :: t3 :: t4 :: t5 :: t6 :: (ptr g) :: (.slice Ax n Cx) :: (.slice As n Cs) :: t10 :: t11 :: t12 :: (ptr g2) :: t14 :: t15 :: t16 :: t17 :: t18 :: t19 :: t20 :: t21 :: t22 :: t23 :: t24 :: t25 :: t26 :: t27 :: t28 :: t29 :: t30 :: t31 :: t32 :: t33 :: t34 :: t35 :: t36 :: t37 :: t38 :: t39 :: t40 :: t41 :: t42 :: t43 :: t44 :: t45 :: t46 :: t47 :: t48 :: t49 :: t50 :: t51 :: t52 :: t53 :: t54 :: t55 :: t56 :: t57 :: t58 :: t59 :: t60 :: t61 :: t62 :: t63 :: t64 :: t65 :: t66 :: t67 :: t68 :: t69 :: t70 :: t71 :: t72 :: t73 :: t74 :: t75 :: t76 :: t77 :: t78 :: t79 :: t80 :: t81 :: t82 :: t83 :: t84 :: t85 :: t86 :: t87 :: t88 :: t89 :: t90 :: t91 :: t92 :: t93 :: t94 :: t95 :: t96 :: t97 :: t98 :: t99 :: t100 :: t101 :: t102 :: t103 :: t104 :: t105 :: t106 :: t107 :: t108 :: t109 :: t110 :: t111 :: t112 :: t113 :: t114 :: t115 :: t116 :: t117 :: t118 :: []), defers := [] } wr := by
  change some _ = some c at hc
  cases hc
  change some _ = some d at hd
  cases hd
  have HQF := Lib.hid hQ
  clear hQ
  obtain ⟨w0, rfl⟩ : ∃ x, x = wr := ⟨_, rfl⟩
  have hmm := @run_makeMap Try.prog
  have hwt : wtB [((trieOf H 13 X).ps, (trieOf H 13 X).ks)] ≤ 1000000 := by
    have h1 := cnt_trie H 13 X
    have h2 := cntT_eq (trieOf H 13 X)
    have h3 := HH.out.2.2.2.2.2.2.1
    simp only [wtB]
    omega
  obtain ⟨t, ht⟩ : ∃ t, t = trieOf H 13 X := ⟨_, rfl⟩
  have hcom := com_one t
  have hnd : ((L.map Prod.fst).map Prod.fst).Nodup := by rw [HH.out.2.2.2.1]; exact walk_nodup H HH.out.2.2.2.2.2.1 1
  have hLk : ∀ s ∈ L, s.1.1.length ≤ 40 := fun s hs => by
    have := (walk_perm H 13 X 1).mem_iff.1 (List.mem_map.2 ⟨s, (by rw [← HH.out.2.2.2.1]; exact hs), rfl⟩)
    exact HH.out.2.2.2.2.2.2.2 _ this
  have HT := Lib.hid (And.intro ht (And.intro hnd hLk))
  rw [← ht] at hwt
  obtain ⟨st, hst⟩ : ∃ st, st = [(t.ps, t.ks)] := ⟨_, rfl⟩
  rw [← hst] at hcom hwt
  have hcL : comB st 1 = L := by rw [hcom, HH.out.2.2.2.1, ht]
  have HC := Lib.hid (And.intro hcL hst)
  clear hcom ht hnd hLk hcL hst
  repeat' (go_not_at_region 19; (first | go_skip | go_guarded | go_step))
  obtain ⟨gm, hgm⟩ : ∃ g, g = w0.heap.size := ⟨_, rfl⟩
  rw [← hgm]
  refine wp_nameW (fun w' => KM8 w' gm [] ∧ Ext w0 w' ∧ w0.heap.size ≤ gm) ⟨by rw [hgm]; exact KMap.made w0, (Ext.refl _).alloc (Nat.le_refl _) _, by omega⟩ ?_
  clear hgm
  intro w1 H1
  repeat' (first | go_at_call 14 | (go_not_at_region 20; (first | go_skip | go_guarded | go_step)))
  refine (wnew0_c w0 w1 H1.out.2.1 (ptr g) t (.inr ⟨g, rfl, by rw [HT.out.1]; exact HH.out.1⟩)).mono ?_
  rintro e w2 ⟨c, V, m, rfl, hC, f2, hc1, hc2, hc3⟩
  rw [← HC.out.2] at hC
  have hgl := H1.out.1.lt
  have H2 : Hid (Cur w0 w2 c V [m] st 0 ∧ AvB (fun _ b => b = gm) w2 c V [m] ∧ KM8 w2 gm []) := Lib.hid ⟨hC, fun b hb => by
    subst hb
    refine ⟨Nat.lt_of_lt_of_le hgl f2.size, by omega, fun e => by have := hc2 b e; omega, fun i m' hm hf => ?_⟩
    match i with
    | 0 => simp at hm; subst hm; have := hc3 b hf; omega
    | i + 1 => simp at hm, H1.out.1.heap (f2.block gm hgl)⟩
  have hgm0 : w0.heap.size ≤ gm := H1.out.2.2
  clear hC f2 hc1 hc2 hc3 hgl H1
  go_simp
  repeat' (go_not_at_region 21; (first | go_skip | go_guarded | go_step))
  go_loopg [18, 19, 88] n (fun gk v18 v19 v88 wr => ∃ (i : Nat) (V1 : Value) (ms1 : List Fm) (st1 : List Fp) (d1 : Nat), v88 = .int .i64 i ∧ i ≤ n ∧ n - i ≤ gk ∧ wtB st1 ≤ wtB st ∧ Hid (Cur w0 wr c V1 ms1 st1 d1 ∧ AvB (fun _ b => b = gm) wr c V1 ms1 ∧ comB st1 1 = L.drop i ∧ KM8 wr gm (((L.map Prod.fst).map Prod.fst).take i)))
  case atStart => exact ⟨0, V, [m], st, 0, rfl, Nat.zero_le _, by omega, Nat.le_refl _, Lib.hid ⟨H2.out.1, H2.out.2.1, by rw [List.drop_zero]; exact HC.out.1, H2.out.2.2⟩⟩
  case round =>
    obtain ⟨i, V1, ms1, st1, d1, rfl, hi, hgk, hwt1, HI⟩ := hrel
    rcases Nat.lt_or_ge i n with hlt | hge
    · have e1 : decide (i < n) = true := by simp [hlt]
      have hi1 : (i : Int) < (n : Int) := by omega
      obtain ⟨s, hs⟩ := get_of_lt L (show i < L.length by have := HH.out.2.2.2.2.1; omega)
      have HD : Hid (L.drop i = s :: L.drop (i + 1)) := Lib.hid (drop_cons hs)
      have hkl : s.1.1.length ≤ 40 := HT.out.2.2 s (List.mem_of_getElem? hs)
      have hki : ((L.map Prod.fst).map Prod.fst)[i]? = some s.1.1 := by rw [List.getElem?_map, List.getElem?_map, hs]; rfl
      have hkn := nodup_take HT.out.2.1 hki
      have hkt : ((L.map Prod.fst).map Prod.fst).take (i + 1) = ((L.map Prod.fst).map Prod.fst).take i ++ [s.1.1] := take_snoc hki
      have hkl2 : (((L.map Prod.fst).map Prod.fst).take i).length ≤ 40 := by rw [List.length_take, List.length_map, List.length_map, ← HH.out.2.2.2.2.1]; omega
      obtain ⟨K, hK⟩ : ∃ K, K = ((L.map Prod.fst).map Prod.fst).take i := ⟨_, rfl⟩
      rw [← hK] at hkn hkt hkl2 HI
      have HK := Lib.hid (And.intro hkn (And.intro hkt hK))
      clear hs hki hkn hkt hK
      repeat' (first | go_at_call 15 | go_skip | go_guarded | go_step)
      refine (wnextZ_c (fun b => b = gm) w0 wr c V1 ms1 st1 d1 HI.out.1 (by omega) (fun k hk => (HI.out.2.1 k hk).1) (fun i m hm b hf hb => (HI.out.2.1 b hb).2.2.2 i m hm hf)).mono ?_
      rintro e w3 ⟨V2, ms2, st2, d2, hC2, hwt2, hT2, hN2, hcase, hZ2⟩
      rcases hcase with ⟨hz, _⟩ | ⟨p', hcom, rfl⟩
      · rw [HI.out.2.2.1, HD.out] at hz; cases hz
      · rw [HI.out.2.2.1, HD.out] at hcom
        have hcc : s = (p', d2) ∧ L.drop (i + 1) = comB st2 1 := by
          injection hcom with h1 h2
          exact ⟨h1, h2⟩
        have hA2 : AvB (fun _ b => b = gm) w3 c V2 ms2 := AvB.next (d' := 0) (st' := []) HI.out.2.1 hT2 hN2 (fun _ h => h) hZ2
        have hM3 : KM8 w3 gm K := HI.out.2.2.2.heap (hT2.block gm HI.out.2.2.2.lt (fun e => by
          rcases e with e | e
          · exact (HI.out.2.1 gm rfl).2.1 e
          · exact (HI.out.2.1 gm rfl).2.2.1 e))
        rw [hcc.1] at hkl HK
        have H3 : Hid (Cur w0 w3 c V2 ms2 st2 d2 ∧ AvB (fun _ b => b = gm) w3 c V2 ms2 ∧ comB st2 1 = L.drop (i + 1) ∧ KM8 w3 gm K) := Lib.hid ⟨hC2, hA2, hcc.2.symm, hM3⟩
        simp only at hkl
        clear hcom hcc hC2 hA2 hM3 hT2 hN2 hZ2
        go_simp
        repeat' (go_not_at_region 23; (first | go_skip | go_guarded | go_step))
        obtain ⟨gp, hgp⟩ : ∃ g, g = w3.heap.size := ⟨_, rfl⟩
        rw [← hgp]
        refine wp_nameW (fun w' => w'.cell? ⟨gp, 0, none⟩ = some (str p'.1) ∧ Ext w3 w') ⟨by rw [World.cell?_alloc_at _ _ _ _ hgp]; rfl, (Ext.refl _).alloc (Nat.le_refl _) _⟩ ?_
        clear hgp
        intro w4 H4
        have hx4 := H4.out.2
        have H5 : Hid (Cur w0 w4 c V2 ms2 st2 d2 ∧ AvB (fun _ b => b = gm) w4 c V2 ms2 ∧ KM8 w4 gm K) := Lib.hid ⟨H3.out.1.keep hx4, AvB.same H3.out.2.1 hx4.size (fun _ h => h), H3.out.2.2.2.heap (hx4.block gm H3.out.2.2.2.lt)⟩
        have p0 := H4.out.1
        obtain ⟨z, hlook⟩ := H5.out.2.2.look (t := 41) Try.underlying9 Try.underlying41 Try.underlying3 (zeroInt8 w4) (s := p'.1) (by unfold maxLen; omega)
        clear hx4
        repeat' (first
          | (at_mapUpdate; refine wpList_tally (b := gm) (K := K) rfl _ _ _ 41 rfl Try.underlying9 Try.underlying41 Try.underlying3 rfl H5.out.2.2 (by unfold maxLen; omega) p'.1 (by unfold maxLen; omega) HK.out.1 _ (wrap64_wf _) rfl rfl ?_; intro w5 hk5 hg5; have H6 := Lib.hid (And.intro hk5 hg5); clear hk5 hg5 p0 hlook)
          | go_skip | go_guarded | go_step)
        have hkp : KpO w0.heap.size (fun _ b => b = gm) w4 w5 := KpO.of_grown H6.out.2 (fun k hk => by cases hk; exact ⟨hgm0, rfl⟩) (fun k hk => .inl hk)
        have hC6 := H5.out.1.kpo H5.out.2.1 hkp
        have H7 : Hid (Cur w0 w5 c V2 ms2 st2 d2 ∧ AvB (fun _ b => b = gm) w5 c V2 ms2 ∧ comB st2 1 = L.drop (i + 1) ∧ KM8 w5 gm (((L.map Prod.fst).map Prod.fst).take (i + 1))) := Lib.hid ⟨hC6.1, hC6.2, H3.out.2.2.1, by rw [HK.out.2.1]; exact H6.out.1⟩
        clear hkp hC6
        go_roundg (n - (i + 1))
        case measure => omega
        case rel => exact ⟨i + 1, V2, ms2, st2, d2, by go_num, by omega, Nat.le_refl _, by omega, H7⟩
    · obtain rfl : i = n := by omega
      have e1 : decide (i < i) = false := by simp
      have hkl : ((L.map Prod.fst).map Prod.fst).take i = (L.map Prod.fst).map Prod.fst := List.take_of_length_le (by rw [List.length_map, List.length_map]; have := HH.out.2.2.2.2.1; omega)
      rw [hkl] at HI
      have HE : Hid (Ext w0 wr) := Lib.hid HI.out.1.ext
      have HM : Hid (KM8 wr gm ((L.map Prod.fst).map Prod.fst)) := Lib.hid HI.out.2.2.2
      have hlen : ((L.map Prod.fst).map Prod.fst).length = i := by rw [List.length_map, List.length_map]; exact HH.out.2.2.2.2.1.symm
      have hm9 := HM.out.lt
      have HLn := Lib.hid hlen
      clear hkl hgk hge hlen
      repeat' (first | go_at_call 14 | go_skip | go_guarded | go_step)
      refine (wnew0_c w0 wr HE.out (ptr g2) t (.inr ⟨g2, rfl, by rw [HT.out.1]; exact HH.out.2.1⟩)).mono ?_
      rintro e w2 ⟨c2, V2, m2, rfl, hC2, f2, hc1, hc2, hc3⟩
      rw [← HC.out.2] at hC2
      have HG := Lib.hid (goes_c w0 w2 c2 V2 [m2] st 0 L (.slice As i Cs) hC2 (by omega) HC.out.1 ⟨As, Cs, by rw [← HH.out.2.2.2.2.1], by rw [flatS_length], by rw [← HH.out.2.2.2.2.1]; exact hnc, hcs, HH.out.2.2.1⟩ (by have := HH.out.2.2.2.2.1; omega))
      have hM2 : KM8 w2 gm ((L.map Prod.fst).map Prod.fst) := HM.out.heap (f2.block gm hm9)
      have HM2 := Lib.hid (And.intro hM2 (And.intro (show gm ≠ c2 by omega) (show V2.ownBlock ≠ some gm from fun e => by have := hc2 gm e; omega)))
      clear hC2 f2 hc1 hc2 hc3 hM2
      go_simp
      repeat' (first | go_at_call 16 | go_skip | go_guarded | go_step)
      refine HG.out.mono ?_
      rintro e w3 ⟨rfl, f3, t3⟩
      have hM3 : KM8 w3 gm ((L.map Prod.fst).map Prod.fst) := HM2.out.1.heap (t3.block gm HM2.out.1.lt (fun e => e.elim HM2.out.2.1 HM2.out.2.2))
      have hl3 := hM3.len (t := 41) Try.underlying41 3
      rw [HLn.out] at hl3
      have F3 := Lib.hid f3
      clear f3 t3 hM3
      go_simp
      repeat' (first | go_skip | go_guarded | go_step)
      exact HQF.out _ _ rfl rfl F3.out

end Go.Proofs.Ytbmakajadelckaa
