/- Texts joined. -/
import Derived.Test.YtkfiinmoecibcaaM30
import Derived.Test.YtkfiinmoecibcaaM17
import Derived.Test.YtkfiinmoecibcaaWlr
import Derived.Deep.RegionHeld3
import Derived.Test.YtkfiinmoecibcaaM10
set_option linter.unusedVariables false
set_option linter.unusedSimpArgs false
/- Small tries and hashers of the examples. -/
namespace Go.QS
open Go.RowKit Go.QS.Nk
def pa9 : Pr := ([97], [])
def pb9 : Pr := ([98], [])
theorem put_ab9 : rput [pa9] pb9 = [pa9, pb9] := by decide +kernel
theorem put_a9 : rput [] pa9 = [pa9] := by decide +kernel
end Go.QS
namespace Go.Proofs.Ytkfiinmoecibcaa
open Go.RowKit Go.QS Go.QS.Nk
abbrev hs0 : Hs := ⟨0, 0, 0⟩
theorem hs0_ok : hs0.Ok := ⟨by decide, by decide, by decide⟩
theorem hs0_hash : hs0.hash = fun _ => 0 := by funext s; simp [Hs.hash]
end Go.Proofs.Ytkfiinmoecibcaa
/- Contracts: law 8's awake; a cursor's Copy. -/
namespace Go.Proofs.Ytkfiinmoecibcaa
open Go.RowKit Go.QS Go.QS.Nk
set_option linter.unusedVariables false

theorem walk_example : walkT (trieOf (fun _ => 0) 13 [pa9]) 1 = [(pa9, 1)] := by decide +kernel
theorem cnt_example : cntT (trieOf (fun _ => 0) 13 [pa9]) = 1 := by decide +kernel
set_option maxRecDepth 100000 in
set_option maxHeartbeats 1000000 in
theorem awake08_c (w : World) : Calls Try.prog 11 #[] w fun e w' => e = .returned (.bool true) ∧ Ext w w' := by
  have hp1 := cput_c hs0 hs0_ok w nil0 [] pa9 (Rot.nil _ _) rise_nil (by simp) (by simp) (by decide)
  rw [put_a9] at hp1
  have HP1 := Lib.hid hp1
  clear hp1
  go_enter Try.func11, Try.ntmps11
  repeat' (first | go_at_call 14 | go_skip | go_guarded | go_step)
  refine HP1.out.mono ?_
  rintro e w1 ⟨g1, rfl, t1, f1, _⟩
  have hR := TR.rep 13 t1 (by simp)
  rw [hs0_hash] at hR
  have HR := Lib.hid (And.intro f1 hR)
  clear t1 f1 hR HP1
  go_simp
  repeat' (first | go_at_call 15 | go_skip | go_guarded | go_step)
  refine (wnew_c w1 _ _ (.inr ⟨g1, rfl, HR.out.2⟩)).mono ?_
  rintro e w2 ⟨c, V, m, rfl, hC, f2⟩
  have hw : wtB [((trieOf (fun _ => 0) 13 [pa9]).ps, (trieOf (fun _ => 0) 13 [pa9]).ks)] ≤ 1000000 := by
    have := cntT_eq (trieOf (fun _ => 0) 13 [pa9])
    rw [cnt_example] at this
    simp [wtB]; omega
  have hcom := com_one (trieOf (fun _ => 0) 13 [pa9])
  rw [walk_example] at hcom
  obtain ⟨st, hst⟩ : ∃ st, st = [((trieOf (fun _ => 0) 13 [pa9]).ps, (trieOf (fun _ => 0) 13 [pa9]).ks)] := ⟨_, rfl⟩
  rw [← hst] at hC hw hcom
  have H2 := Lib.hid (And.intro hC (And.intro hcom HR.out.1))
  clear hC hcom f2 hst HR
  have HN1 := Lib.hid (wnext_c w1 w2 c V [m] st 0 H2.out.1 hw)
  go_simp
  repeat' (first | go_at_call 16 | go_skip | go_guarded | go_step)
  refine HN1.out.mono ?_
  rintro e w3 ⟨V3, ms3, st3, d3, hC3, hw3, hT3, hN3, ⟨hz, _⟩ | ⟨p, hcom, rfl⟩⟩
  · rw [H2.out.2.1] at hz; cases hz
  · rw [H2.out.2.1] at hcom
    obtain ⟨rfl, hz3⟩ : p = pa9 ∧ comB st3 1 = [] := by
      injection hcom with h1 h2
      injection h1 with h3 h4
      exact ⟨h3.symm, h2.symm⟩
    have H3 := Lib.hid (And.intro hC3 (And.intro hz3 hC3.ext))
    clear hcom hz3 hC3 hT3 hN3 HN1
    go_simp
    repeat' (go_not_at_region 4; (first | go_skip | go_guarded | go_step))
    obtain ⟨g4, hg4⟩ : ∃ g, g = w3.heap.size := ⟨_, rfl⟩
    rw [← hg4]
    refine wp_nameW (fun w' => w'.heap[g4]? = some (.cells #[str [97], str []] NP (0, 0)) ∧ Ext w3 w' ∧ w3.heap.size ≤ g4) ⟨by rw [hg4]; exact heap_new w3 _, (Ext.refl _).alloc (Nat.le_refl _) _, by omega⟩ ?_
    clear hg4
    intro w4 H4
    have HN2 := Lib.hid (wnext_c w1 w4 c V3 ms3 st3 d3 (H3.out.1.keep H4.out.2.1) (by omega))
    repeat' (first | go_at_call 16 | go_skip | go_guarded | go_step)
    refine HN2.out.mono ?_
    rintro e w5 ⟨V5, ms5, st5, d5, hC5, hw5, hT5, hN5, ⟨_, rfl, _, _⟩ | ⟨p', hcom, rfl⟩⟩
    · have hg5 : w5.heap[g4]? = some (.cells #[str [97], str []] NP (0, 0)) := hT5.heap H4.out.1 (by
        have h1 := heap_lt H3.out.1.cell
        have h2 := H4.out.2.2
        rintro (e | e)
        · omega
        · have := (World.ownsRow.lt H3.out.1.row g4 e).2; omega)
      have hE5 : Hid (Ext w w5) := Lib.hid (Ext.trans H2.out.2.2 hC5.ext)
      have x0 : w5.cell? ⟨g4, 0, none⟩ = some (str [97]) := by simp [World.cell?, hg5]
      have hg4l : g4 < w5.heap.size := heap_lt hg5
      clear hC5 hT5 hN5 HN2 hg5
      go_simp
      repeat' (first | go_skip | go_guarded | go_step)
      go_ret
      exact ⟨rfl, hE5.out.alloc hE5.out.size _⟩
    · rw [H3.out.2.1] at hcom; cases hcom

set_option maxRecDepth 100000 in
theorem fclone_c (w : World) (v : Value) (ms : List Fm) (h : Sl w 2 v ms.length (flatF ms)) (h1 : ∀ u ∈ flatF ms, u.oneCell' = true) (h9 : ms.length ≤ 1000000000) :
    Calls Try.prog 53 #[v] w fun e w' => ∃ v', e = .returned v' ∧ w'.ownsRow w.heap.size WFT 2 v' ms.length (flatF ms) ∧ Ext w w' := by
  obtain ⟨A, c, rfl, hl, hn, hc, hs⟩ := h
  have hnil := fun w : World => Lib.run_eql_slice_nil (P := Try.prog) w 103 WFT A ms.length c 0 0 Try.underlying103
  cases A with
  | none =>
    have hl0 : ms = [] := by
      cases ms with
      | nil => rfl
      | cons p l => obtain ⟨b, o, h, _⟩ := hs (by intro e; cases e); cases h
    subst hl0
    have hnil := fun w : World => Lib.run_eql_slice_nil (P := Try.prog) w 103 WFT none 0 c 0 0 Try.underlying103
    go_enter Try.func53, Try.ntmps53
    repeat' go_step
    go_ret
    exact ⟨_, rfl, World.ownsRow_nil _ _ _ _, Ext.refl _⟩
  | some a =>
    have H1 := Lib.hid h1
    clear h1
    go_enter Try.func53, Try.ntmps53
    repeat' (first | (at_builtin; refine wpList_appE (W := w) rfl (.tmp 5) (.tmp 6) _ rfl WFT 2 48 Try.underlying103 infoWF (by decide) _ 0 [] rfl (own_lit [] 0 (by decide) rfl (Nat.le_refl _)) ((Ext.refl w).alloc (Nat.le_refl _) _) _ _ c (flatF ms) rfl hl (hs.alloc _) H1.out (by unfold maxLen; omega) (by omega) ?_; intro v1 w1 hown hb) | go_step)
    go_ret
    refine ⟨_, rfl, ?_, hb⟩
    simpa using hown
theorem flatF_one {l : List Fm} (h : ∀ m ∈ l, m.1.oneCell' = true ∧ m.2.oneCell' = true) : ∀ u ∈ flatF l, u.oneCell' = true := by
  intro u hu
  obtain ⟨m, hm, hx⟩ := List.mem_flatMap.1 hu
  simp only [List.mem_cons, List.not_mem_nil, or_false] at hx
  rcases hx with rfl | rfl
  · exact (h m hm).1
  · exact (h m hm).2

set_option maxRecDepth 100000 in
set_option maxHeartbeats 1000000 in
theorem wcopy_c {W0 w : World} {c : Nat} {V : Value} {ms : List Fm} {st : List Fp} {d : Nat} (h : Cur W0 w c V ms st d) (h9 : st.length ≤ 1000000) :
    Calls Try.prog 22 #[ptr c] w fun e w' => ∃ c2 V2, e = .returned (ptr c2) ∧ Cur W0 w' c2 V2 ms st d ∧ Ext w w' ∧ w.heap.size ≤ c2 ∧ ∀ b, V2.ownBlock = some b → w.heap.size ≤ b := by
  have c0 : w.cell? ⟨c, 0, none⟩ = some V := by have := h.cell; simp [World.cell?, this]
  have c1 : w.cell? ⟨c, 1, none⟩ = some (.int .i64 (d : Int)) := by have := h.cell; simp [World.cell?, this]
  have hone : ∀ u ∈ flatF ms, u.oneCell' = true := flatF_one fun m hm => by
    obtain ⟨i, hi⟩ := List.mem_iff_getElem?.1 hm
    obtain ⟨s, hs⟩ := get_of_lt st (show i < st.length by have := (List.getElem?_eq_some_iff.1 hi).1; have := h.len; omega)
    obtain ⟨kb, ⟨A, C, e1, _⟩, ⟨A', C', e2, _⟩, _⟩ := h.fr i m s hi hs
    rw [e1, e2]; exact ⟨rfl, rfl⟩
  have hlen : ms.length ≤ 1000000 := by rw [h.len]; exact h9
  have HC := Lib.hid (And.intro c0 c1)
  have HH := Lib.hid (And.intro h hone)
  have HK : Hid (∀ W, Ext w W → Calls Try.prog 53 #[V] W fun e w' => ∃ v', e = .returned v' ∧ w'.ownsRow W.heap.size WFT 2 v' ms.length (flatF ms) ∧ Ext W w') := Lib.hid (fun W f => fclone_c W V ms ((Sl.of_own h.row).below f) hone (by omega))
  clear h hone
  go_enter Try.func22, Try.ntmps22
  repeat' (go_not_at_region 3; (first | go_skip | go_guarded | go_step))
  go_region_held3 (fun w' => w'.cell? ⟨c, 0, none⟩ = some V ∧ w'.cell? ⟨c, 1, none⟩ = some (.int .i64 (d : Int)))
    (first | exact ⟨Ext.cell' k2.out HC.out.1, Ext.cell' k2.out HC.out.2⟩ | exact ⟨Ext.cell' (ext_alloc k2.out _) HC.out.1, Ext.cell' (ext_alloc k2.out _) HC.out.2⟩ | exact ⟨Ext.cell' (ext_drew (Ext.refl w)) HC.out.1, Ext.cell' (ext_drew (Ext.refl w)) HC.out.2⟩)
    (first
      | (go_at_call 53; refine (HK.out w.drew (ext_drew (Ext.refl w))).mono ?_; rintro e x2 ⟨v2, rfl, r2, f2⟩; obtain ⟨A2, C2, rfl⟩ := own_slice r2; have k2 : Hid (Ext w x2) := Lib.hid (Ext.trans (ext_drew (Ext.refl w)) f2); have K2 := Lib.hid r2; clear f2 r2))
  repeat' (first | go_skip | go_guarded | go_step)
  go_ret
  have hE : Ext x2 (x2.alloc (.cells #[.slice A2 ms.length C2, .int .i64 (d : Int)] WCT)) := (Ext.refl _).alloc (Nat.le_refl _) _
  have hlt := World.ownsRow.lt K2.out
  have hsz : w.heap.size ≤ x2.heap.size := k2.out.size
  have hdz : w.drew.heap.size = w.heap.size := rfl
  have hW := HH.out.1.ext.size
  refine ⟨x2.heap.size, .slice A2 ms.length C2, rfl, ⟨heap_new x2 _, row_ext (own_up K2.out (by omega)) hE, HH.out.1.len, fun i m s hm hs => ?_, Ext.trans HH.out.1.ext (Ext.trans k2.out hE), by omega, fun e => ?_⟩, Ext.trans k2.out hE, hsz, fun b hb => (hlt b hb).1⟩
  · have hf := HH.out.1.fr i m s hm hs
    have E := Ext.trans k2.out hE
    obtain ⟨kb, e1, e2, e3, e4, e5, e6⟩ := FrOk.keep hf E.size (fun b hb _ _ => E.block b hb) (.inl rfl)
    obtain ⟨_, _, _, _, _, _, z6⟩ := hf
    refine ⟨kb, e1, e2, e3, e4, e5, fun b hb => ?_⟩
    have hbw := (z6 b hb).1
    refine ⟨(e6 b hb).1, by omega, fun e => ?_⟩
    have := (hlt b e).1
    omega
  · have := (hlt _ e).2; omega
end Go.Proofs.Ytkfiinmoecibcaa
/- WalkResumes: its last test: a law of its own. -/
namespace Go.Proofs.Ytkfiinmoecibcaa
open Go.RowKit Go.QS Go.QS.Nk
set_option linter.unusedVariables false

theorem flatS_drop (l : List (Pr × Nat)) : ∀ i, (flatS l).drop (i * 3) = flatS (l.drop i) := by
  induction l with
  | nil => intro i; simp [flatS]
  | cons p l ih =>
    intro i
    cases i with
    | zero => simp
    | succ i =>
      rw [flatS_cons, show (i + 1) * 3 = (i * 3 + 2) + 1 by omega, List.drop_succ_cons, List.drop_succ_cons, List.drop_succ_cons, ih i]
      rfl
set_option maxRecDepth 100000 in
set_option maxHeartbeats 2000000 in
theorem res8_25 (W0 wr : World) (cn c2 n Cs k dd d1 : Nat) (As : Option Addr) (V V2 : Value) (ms : List Fm) (st : List Fp) (L : List (Pr × Nat)) (hk : k ≤ n) (hn9 : n ≤ 1000) (hnC : n ≤ Cs) (hC9 : Cs ≤ maxLen) (hw9 : wtB st ≤ 1000000)
    (H : Hid (Cur W0 wr cn V ms st d1 ∧ Cur W0 wr c2 V2 ms st dd ∧ comB st 1 = L.drop k ∧ Seg W0 As (flatS L) ∧ n = L.length ∧ c2 ≠ cn ∧ V.ownBlock ≠ some c2 ∧ ∀ b, V2.ownBlock = some b → b ≠ cn ∧ V.ownBlock ≠ some b)) (c : Code) (Q : Exit → Act → World → Prop) (t0 t1 t2 t3 t4 t5 t6 t7 t8 t9 t10 t15 t16 t17 t18 t20 t21 t22 t23 t24 t25 t26 t27 t28 t29 t30 t31 t32 t33 t34 t35 t36 t37 t38 t39 t40 t41 t42 t43 t44 t45 t46 t47 t48 t49 t50 t51 t52 t53 t54 t55 t56 t57 t58 t59 t60 t61 t62 t63 t64 t65 t66 t67 t68 t69 t70 t71 t72 t73 t74 t75 t76 t77 t78 t79 t80 t81 t82 t83 t84 t85 t86 t87 t88 t89 t90 t91 t92 t93 t94 t95 t96 t97 t98 t99 t100 t101 t102 t103 t104 t105 t106 t107 t108 t109 t110 : Value)
    (hc : (Try.f5.body.bind (findR 25)) = some c)
    (hQ : ∀ (u87 u88 u89 u90 u91 u92 u93 u94 u95 u96 u97 u98 u99 u100 u101 u102 u103 u104 u105 u106 u107 u108 u109 u110 : Value) (wx : World), Ext W0 wx → Q .normal { tmps := List.toArray (t0 :: t1 :: t2 :: t3 :: t4 :: t5 :: t6 :: t7 :: (.bool true) :: t9 :: t10 :: (.slice As n Cs) :: (ptr cn) :: (.int .i64 k) :: (ptr c2) :: t15 :: t16 :: t17 :: t18 :: (.int .i64 dd) :: t20 :: t21 :: t22 :: t23 :: t24 :: t25 :: t26 :: t27 :: t28 :: t29 :: t30 :: t31 :: t32 :: t33 :: t34 :: t35 :: t36 :: t37 :: t38 :: t39 :: t40 :: t41 :: t42 :: t43 :: t44 :: t45 :: t46 :: t47 :: t48 :: t49 :: t50 :: t51 :: t52 :: t53 :: t54 :: t55 :: t56 :: t57 :: t58 :: t59 :: t60 :: t61 :: t62 :: t63 :: t64 :: t65 :: t66 :: t67 :: t68 :: t69 :: t70 :: t71 :: t72 :: t73 :: t74 :: t75 :: t76 :: t77 :: t78 :: t79 :: t80 :: t81 :: t82 :: t83 :: t84 :: t85 :: t86 :: u87 :: u88 :: u89 :: u90 :: u91 :: u92 :: u93 :: u94 :: u95 :: u96 :: u97 :: u98 :: u99 :: u100 :: u101 :: u102 :: u103 :: u104 :: u105 :: u106 :: u107 :: u108 :: u109 :: u110 :: []), defers := [] } wx) :
    c.wp Try.prog Q { tmps := List.toArray (t0 :: t1 :: t2 :: t3 :: t4 :: t5 :: t6 :: t7 :: t8 :: t9 :: t10 :: (.slice As n Cs) :: (ptr cn) :: (.int .i64 k) :: (ptr c2) :: t15 :: t16 :: t17 :: t18 :: (.int .i64 dd) :: t20 :: t21 :: t22 :: t23 :: t24 :: t25 :: t26 :: t27 :: t28 :: t29 :: t30 :: t31 :: t32 :: t33 :: t34 :: t35 :: t36 :: t37 :: t38 :: t39 :: t40 :: t41 :: t42 :: t43 :: t44 :: t45 :: t46 :: t47 :: t48 :: t49 :: t50 :: t51 :: t52 :: t53 :: t54 :: t55 :: t56 :: t57 :: t58 :: t59 :: t60 :: t61 :: t62 :: t63 :: t64 :: t65 :: t66 :: t67 :: t68 :: t69 :: t70 :: t71 :: t72 :: t73 :: t74 :: t75 :: t76 :: t77 :: t78 :: t79 :: t80 :: t81 :: t82 :: t83 :: t84 :: t85 :: t86 :: t87 :: t88 :: t89 :: t90 :: t91 :: t92 :: t93 :: t94 :: t95 :: t96 :: t97 :: t98 :: t99 :: t100 :: t101 :: t102 :: t103 :: t104 :: t105 :: t106 :: t107 :: t108 :: t109 :: t110 :: []), defers := [] } wr := by
  change some _ = some c at hc
  cases hc
  have HQF := Lib.hid hQ
  clear hQ
  obtain ⟨A2, hrun, hseg, _⟩ := run_fromW (P := Try.prog) (t := 32) (e := ST8) Try.underlying32 infoST As hk hnC
  have hs2 : Sl W0 3 (.slice A2 (n - k) (Cs - k)) (L.drop k).length (flatS (L.drop k)) := by
    have h1 := hseg W0 (flatS L) (by rw [flatS_length, ← H.out.2.2.2.2.1]) H.out.2.2.2.1
    rw [flatS_drop] at h1
    have e : (L.drop k).length = n - k := by rw [List.length_drop]; have := H.out.2.2.2.2.1; omega
    exact ⟨A2, Cs - k, by rw [e], flatS_length _, by rw [e]; omega, by omega, h1⟩
  have hd9 : (L.drop k).length ≤ 1000000 := by rw [List.length_drop]; have := H.out.2.2.2.2.1; omega
  have HS := Lib.hid hs2
  have HD1 := Lib.hid (depth_c H.out.2.1)
  have HG1 := Lib.hid (goes_c W0 wr cn V ms st d1 (L.drop k) _ H.out.1 hw9 H.out.2.2.1 hs2 hd9)
  have hb : ((dd : Int) == (dd : Int)) = true := by simp
  clear hseg hs2
  repeat' (first | go_at_call 20 | go_skip | go_guarded | go_step)
  refine HD1.out.mono ?_
  rintro e x1 ⟨rfl, rfl⟩
  clear HD1
  go_simp
  repeat' (first | go_at_call 17 | go_skip | go_guarded | go_step)
  refine HG1.out.mono ?_
  rintro e x2 ⟨rfl, f2, t2⟩
  have hC2 : Cur W0 x2 c2 V2 ms st dd := by
    have h := H.out
    refine h.2.1.two t2 h.2.2.2.2.2.1 h.2.2.2.2.2.2.1 h.2.2.2.2.2.2.2 (fun i m hm b hb => ?_) f2
    obtain ⟨s, hs⟩ := get_of_lt st (show i < st.length by have := (List.getElem?_eq_some_iff.1 hm).1; have := h.1.len; omega)
    obtain ⟨_, _, _, _, _, _, e6⟩ := h.1.fr i m s hm hs
    exact ⟨(e6 b hb).2.1, (e6 b hb).2.2⟩
  have HD2 := Lib.hid (depth_c hC2)
  have HG2 := Lib.hid (goes_c W0 x2 c2 V2 ms st dd (L.drop k) _ hC2 hw9 H.out.2.2.1 HS.out hd9)
  clear f2 t2 hC2 HG1
  go_simp
  repeat' (first | go_at_call 20 | go_skip | go_guarded | go_step)
  refine HD2.out.mono ?_
  rintro e x3 ⟨rfl, rfl⟩
  clear HD2
  go_simp
  repeat' (first | go_at_call 17 | go_skip | go_guarded | go_step)
  refine HG2.out.mono ?_
  rintro e x4 ⟨rfl, f4, t4⟩
  have F4 := Lib.hid f4
  clear f4 t4 HG2
  go_simp
  repeat' (first | go_skip | go_guarded | go_step)
  exact HQF.out _ _ _ _ _ _ _ _ _ _ _ _ _ _ _ _ _ _ _ _ _ _ _ _ _ F4.out

end Go.Proofs.Ytkfiinmoecibcaa
