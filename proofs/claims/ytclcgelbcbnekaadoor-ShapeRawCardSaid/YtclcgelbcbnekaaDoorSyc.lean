/- shape.put behind a node's head: a law of its own. -/
import Derived.Test.YtclcgelbcbnekaaDoorSyb
set_option linter.unusedVariables false
set_option linter.unusedSimpArgs false
namespace Go.QS
variable [Zero (Nat → Prop)]
set_option linter.unusedSectionVars false
theorem flat_takeS {α : Type} {l : List (List α)} {i : Nat} {b : List α} (h : l[i]? = some b) : (l.take (i + 1)).flatten = (l.take i).flatten ++ b := by rw [take_snoc h]; simp
theorem flat_leS {α : Type} (l : List (List α)) (i : Nat) : (l.take i).flatten.length ≤ l.flatten.length := by
  have h : l.flatten = (l.take i).flatten ++ (l.drop i).flatten := by rw [← List.flatten_append, List.take_append_drop]
  rw [h, List.length_append]; omega
end Go.QS
namespace Go.Proofs.YtclcgelbcbnekaaDoor
open Go.RowKit Go.QS Go.QS.Nk
set_option linter.unusedVariables false
variable [Zero (Nat → Prop)]
set_option linter.unusedSectionVars false

set_option maxRecDepth 100000 in
set_option maxHeartbeats 2000000 in
theorem sput_tail (W wr : World) (lv g nl Cl d n : Nat) (Al : Option Addr) (l : List UInt8) (ps : List Pr) (ks : List Nat) (Bs : List (List UInt8)) (Kb : List UInt8) (ow : Option Addr) (pv kv : Value) (hp9 : ps.length ≤ 100000) (hk9 : ks.length ≤ 32) (hlv : lv ≤ 13)
    (h : Hid (Nd ND W g d n ps ks false ow pv kv ∧ wr.ownsRow W.heap.size 5 1 (.slice Al nl Cl) nl (encB l) ∧ nl = l.length ∧ Below W.heap.size W wr)) (hl9 : l.length + (prsB ps).length + Kb.length ≤ 900000000)
    (hK9 : (lv = 13 ∧ Kb = []) ∨ (lv < 13 ∧ Kb = Bs.flatten ∧ Bs.length = ks.length ∧ Hid (∀ (i k : Nat) (b : List UInt8), ks[i]? = some k → Bs[i]? = some b → PutSh W (lv + 1) k b))) (c d : Code) (K : Act → World → Prop) (Q : Exit → Act → World → Prop) (t3 t4 t5 t6 t7 t8 t9 t10 t11 t12 t13 t14 t15 t16 t17 t18 t19 t20 t21 t22 t23 t24 t25 t26 t27 t28 t29 t30 t31 t32 t33 t34 t35 t36 t37 t38 t39 t40 t41 t42 t43 t44 t45 t46 t47 t48 t49 t50 t51 t52 : Value)
    (hc : (Tryd.f30.body.bind (findR 4)) = some c) (hd : (Tryd.f30.body.bind (findT 4)) = some d)
    (hK : ∀ a w, d.wp Tryd.prog Q a w → K a w)
    (hQ : ∀ (a : Act) (wx : World), a.defers = [] → True → wx.ownsRow W.heap.size 5 1 (a.tmps.getD 6 undef) (l ++ prsB ps ++ Kb).length (encB (l ++ prsB ps ++ Kb)) ∧ Gr wr (.slice Al nl Cl) wx (a.tmps.getD 6 undef) → Q .ret a wx) :
    c.wp Tryd.prog (Exit.then K Q) { tmps := List.toArray ((.slice Al nl Cl) :: (ptr g) :: (.int .i64 (lv : Int)) :: t3 :: t4 :: t5 :: t6 :: t7 :: t8 :: t9 :: t10 :: t11 :: t12 :: t13 :: t14 :: t15 :: t16 :: t17 :: t18 :: t19 :: t20 :: t21 :: t22 :: t23 :: t24 :: t25 :: t26 :: t27 :: t28 :: t29 :: t30 :: t31 :: t32 :: t33 :: t34 :: t35 :: t36 :: t37 :: t38 :: t39 :: t40 :: t41 :: t42 :: t43 :: t44 :: t45 :: t46 :: t47 :: t48 :: t49 :: t50 :: t51 :: t52 :: []), defers := [] } wr := by
  change some _ = some c at hc
  cases hc
  change some _ = some d at hd
  cases hd
  have HQF := Lib.hid hQ
  clear hQ
  obtain ⟨w0, rfl⟩ : ∃ x, x = wr := ⟨_, rfl⟩
  repeat' (first | go_at_call 59 | go_skip | go_guarded | go_step)
  refine (npairs_c w0 g pv ps (h.out.1.node.ext h.out.2.2.2).cells.2.2.1 (h.out.1.pairs.below h.out.2.2.2) (by omega)).mono ?_
  rintro e w1 ⟨v1, rfl, r1, f1⟩
  have H1 : Hid (PS w1 v1 ps ∧ w1.ownsRow W.heap.size 5 1 (.slice Al nl Cl) l.length (encB l) ∧ Below W.heap.size W w1 ∧ Gr w0 (.slice Al nl Cl) w1 (.slice Al nl Cl)) := Lib.hid ⟨PS.of_own r1, by have := row_ext h.out.2.1 f1; rw [h.out.2.2.1] at this ⊢; exact this, below_ext h.out.2.2.2 f1 h.out.2.2.2.size, Gr.of_ext f1⟩
  clear r1 f1
  go_simp
  repeat' (first | go_at_call 56 | go_skip | go_guarded | go_step)
  refine (spairs_c W w1 _ v1 l ps H1.out.2.1 H1.out.2.2.1 H1.out.1 (by omega) (by omega)).mono ?_
  rintro e w2 ⟨v2, rfl, r2, b2, _, g2⟩
  obtain ⟨L, hL⟩ : ∃ L, L = l ++ prsB ps := ⟨_, rfl⟩
  have hLl : L.length = l.length + (prsB ps).length := by rw [hL, List.length_append]
  obtain ⟨N, hN⟩ : ∃ N, N = L.length := ⟨_, rfl⟩
  rw [← hL, ← hN] at r2
  obtain ⟨A2, C2, rfl⟩ := own_slice r2
  have H2 : Hid (w2.ownsRow W.heap.size 5 1 (.slice A2 N C2) N (encB L) ∧ Below W.heap.size W w2 ∧ L = l ++ prsB ps ∧ Gr w0 (.slice Al nl Cl) w2 (.slice A2 N C2) ∧ N = L.length) := Lib.hid ⟨r2, b2, hL, H1.out.2.2.2.trans g2, hN⟩
  have HLl := Lib.hid hLl
  clear r2 b2 hL H1 hLl g2 hN
  rcases hK9 with ⟨rfl, rfl⟩ | ⟨hlt13, hKb, hBl, hIH⟩
  · go_simp
    repeat' (first | go_skip | go_guarded | go_step)
    refine HQF.out _ _ rfl trivial ⟨?_, H2.out.2.2.2.1⟩
    rw [List.append_nil, ← H2.out.2.2.1, ← H2.out.2.2.2.2]
    exact H2.out.1
  · have hne13 : ((lv : Int) == 13) = false := by simp; omega
    have HKb := Lib.hid hKb
    clear hKb
    go_simp
    repeat' (first | go_at_call 62 | go_skip | go_guarded | go_step)
    refine (nkids_c w2 g kv ks (h.out.1.node.ext H2.out.2.1).cells.2.2.2.1 (h.out.1.kids.below H2.out.2.1) (by omega)).mono ?_
    rintro e w3 ⟨v3, rfl, r3, f3⟩
    obtain ⟨m, hm⟩ : ∃ m, m = ks.length := ⟨_, rfl⟩
    rw [← hm] at r3 hk9 hBl
    obtain ⟨A3, C3, rfl⟩ := own_slice r3
    have hs3 : Seg w3 A3 (ptrs ks) ∧ m ≤ C3 := by
      obtain ⟨A', C', e', h1, h2, h3, h4⟩ := Sl.of_own r3
      injection e' with e1 e2 e3
      rw [e1, e3]; exact ⟨h4, h2⟩
    have hne3 : ∀ b o, A3 = some ⟨b, o, none⟩ → ¬ (Value.slice A2 N C2).ownBlock = some b := fun b o e hb => by
      subst e
      have h1 := (World.ownsRow.lt r3 b rfl).1
      have h2 := (World.ownsRow.lt H2.out.1 b hb).2
      omega
    have H3 : Hid (Seg w3 A3 (ptrs ks) ∧ m = ks.length ∧ w3.ownsRow W.heap.size 5 1 (.slice A2 N C2) N (encB L) ∧ Below W.heap.size W w3 ∧ Gr w0 (.slice Al nl Cl) w3 (.slice A2 N C2) ∧ ∀ b o, A3 = some ⟨b, o, none⟩ → ¬ (Value.slice A2 N C2).ownBlock = some b) := Lib.hid ⟨hs3.1, hm, row_ext H2.out.1 f3, below_ext H2.out.2.1 f3 H2.out.2.1.size, H2.out.2.2.2.1.trans (Gr.of_ext f3), hne3⟩
    have hmC := hs3.2
    clear r3 hs3 hm f3 hne3
    go_simp
    repeat' (go_not_at_region 8; (first | go_skip | go_guarded | go_step))
    go_loopg [0, 8, 42] m (fun gk v0 v8 v42 wx => ∃ (i n0 c0 : Nat) (A0 : Option Addr), v0 = .slice A0 n0 c0 ∧ v42 = .int .i64 i ∧ i ≤ m ∧ m - i ≤ gk ∧ Hid (wx.ownsRow W.heap.size 5 1 (.slice A0 n0 c0) n0 (encB (L ++ (Bs.take i).flatten)) ∧ n0 = (L ++ (Bs.take i).flatten).length ∧ Below W.heap.size W wx ∧ Gr w3 (.slice A2 N C2) wx (.slice A0 n0 c0)))
    case atStart => exact ⟨0, N, C2, A2, rfl, rfl, Nat.zero_le _, by omega, Lib.hid ⟨by simpa using H3.out.2.2.1, by simpa using H2.out.2.2.2.2, H3.out.2.2.2.1, Gr.of_ext (Ext.refl _)⟩⟩
    case round =>
      obtain ⟨i, n0, c0, A0, rfl, rfl, hin, hgk, HI⟩ := hrel
      rcases Nat.lt_or_ge i m with hlt | hge
      · have d1 : decide (i < m) = true := by simp [hlt]
        have hi1 : (i : Int) < (m : Int) := by omega
        obtain ⟨kk, hkk⟩ := get_of_lt ks (show i < ks.length by have := H3.out.2.1; omega)
        obtain ⟨bb, hbb⟩ := get_of_lt Bs (show i < Bs.length by omega)
        have hle := flat_leS Bs (i + 1)
        have hfl := flat_takeS hbb
        rw [hfl, List.length_append, ← HKb.out] at hle
        have hsx := Only.seg HI.out.2.2.2.only H3.out.1 H3.out.2.2.2.2.2
        obtain ⟨b, o, rfl, hcc⟩ := hsx (fun e => by have h0 := congrArg List.length e; rw [ptrs_length, List.length_nil] at h0; have := H3.out.2.1; omega)
        have q0 := hcc i (ptr kk) (by simp [ptrs, hkk])
        have HQ := hIH.out i kk bb hkk hbb wr (.slice A0 n0 c0) (L ++ (Bs.take i).flatten) (by have := HI.out.1; rw [HI.out.2.1] at this ⊢; exact this) HI.out.2.2.1 (by rw [List.length_append]; have := HLl.out; omega)
        rw [show ((lv + 1 : Nat) : Int) = (lv : Int) + 1 by omega] at HQ
        have HQ2 := Lib.hid HQ
        have HF := Lib.hid hfl
        clear hkk hbb hle hfl hsx hcc HQ
        repeat' (first | go_at_call 30 | go_skip | go_guarded | go_step)
        refine HQ2.out.mono ?_
        rintro e w5 ⟨v5, rfl, r5, g5⟩
        obtain ⟨n5, hn5⟩ : ∃ n, n = (L ++ (Bs.take i).flatten ++ bb).length := ⟨_, rfl⟩
        rw [← hn5] at r5
        obtain ⟨A5, C5, rfl⟩ := own_slice r5
        have H5 : Hid (w5.ownsRow W.heap.size 5 1 (.slice A5 n5 C5) n5 (encB (L ++ (Bs.take (i + 1)).flatten)) ∧ n5 = (L ++ (Bs.take (i + 1)).flatten).length ∧ Below W.heap.size W w5 ∧ Gr w3 (.slice A2 N C2) w5 (.slice A5 n5 C5)) := Lib.hid ⟨by rw [HF.out, ← List.append_assoc]; exact r5, by rw [HF.out, ← List.append_assoc]; exact hn5, PutSh.below g5 HI.out.1 HI.out.2.2.1, HI.out.2.2.2.trans g5⟩
        clear r5 hn5 g5 q0
        go_simp
        repeat' (first | go_skip | go_guarded | go_step)
        go_roundg (m - (i + 1))
        case measure => omega
        case rel => exact ⟨i + 1, n5, C5, A5, rfl, by go_num, by omega, Nat.le_refl _, H5⟩
      · obtain rfl : i = m := by omega
        have d1 : decide (i < i) = false := by simp
        have hT : Bs.take i = Bs := List.take_of_length_le (by omega)
        rw [hT, ← HKb.out] at HI
        clear hT
        repeat' (first | go_skip | go_guarded | go_step)
        refine HQF.out _ _ rfl trivial ⟨?_, H3.out.2.2.2.2.1.trans HI.out.2.2.2⟩
        rw [← H2.out.2.2.1, ← HI.out.2.1]
        exact HI.out.1

end Go.Proofs.YtclcgelbcbnekaaDoor
