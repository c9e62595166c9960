/- Texts joined. -/
import Derived.Test.YtclcgelbcbnekaaIg
import Derived.Test.YtclcgelbcbnekaaBq
import Derived.Laws.OwnMore
import Derived.Deep.LoopGhost
import Derived.Deep.RegionHeld3
set_option linter.unusedVariables false
set_option linter.unusedSimpArgs false
/- ChampShrinks: a trie that lies beside a row which grows. -/
namespace Go.Proofs.Ytclcgelbcbnekaa
open Go Go.RowKit Go.QS Go.QS.Nk
set_option linter.unusedVariables false
variable [Zero (Nat → Prop)]
set_option linter.unusedSectionVars false

section
variable {v v' : Value} {w w' : World} {gh g : Nat} {h : Hs} {X : List Pr}
/-- A trie of a list, none of whose blocks is the row's. -/
def T6V (v : Value) (w : World) (gh : Nat) (h : Hs) (g : Nat) (X : List Pr) : Prop := @T6 (SV v) w gh h g X
theorem T6V.ext (H : T6V v w gh h g X) (f : Ext w w') : T6V v w' gh h g X := @T6.ext (SV v) w w' gh g h X H f
theorem T6V.hs (H : T6V v w gh h g X) : HsAt w gh h := @T6.hs (SV v) w gh h g X H
theorem T6V.ok (H : T6V v w gh h g X) : OkL X := @T6.ok (SV v) w gh h g X H
theorem T6V.put (H : T6V v w gh h g X) (hk : h.Ok) (p : Pr) (hX : X.length ≤ 100000) (hp : p.1.length ≤ 40 ∧ p.2.length ≤ 40) :
    Calls Try.prog 46 #[hsV h, nil0, ptr g, prV p] w fun e w' => ∃ g' b, e = .returned (.tuple #[ptr g', .bool b]) ∧ Ext w w' ∧ T6V v w' gh h g' (rput X p) := @cputT (SV v) h hk w gh g X H p hX hp
theorem T6V.drop (H : T6V v w gh h g X) (hk : h.Ok) (k : List UInt8) (hX : X.length ≤ 100000) (hp : k.length ≤ 40) :
    Calls Try.prog 48 #[hsV h, nil0, ptr g, str k] w fun e w' => ∃ g' b, e = .returned (.tuple #[ptr g', .bool b]) ∧ Ext w w' ∧ T6V v w' gh h g' (rdrop X k) := @cdropT (SV v) h hk w gh g X H k hX hp
theorem T6V.trie (H : T6V v w gh h g X) (hk : h.Ok) {vx : Value} (hP : PS w vx X) (h9 : X.length ≤ 100000) :
    Calls Try.prog 49 #[hsV h, ptr g, vx] w fun e w' => e = .returned (.bool true) ∧ Ext w w' :=
  @trie6_c (SV v) h hk w g vx X (@T6.tr (SV v) w gh h g X H) hP h9 (fun q hq => by have := (H.ok.short q hq).1; omega)
theorem T6V.empty (h : Hs) (w : World) (hv : ∀ b, v.ownBlock = some b → b < w.heap.size) : Calls Try.prog 45 #[] w fun e w' => ∃ g, e = .returned (ptr g) ∧ Ext w w' ∧ ∀ gh, HsAt w' gh h → T6V v w' gh h g [] :=
  (@empty_c (SV v) h w (fun k hk => SV.out (fun e => by have := hv k e; omega))).mono fun e w' ⟨g, h1, h2, h3⟩ => ⟨g, h1, h3, fun gh hh => @T6.mk (SV v) w' gh h g [] hh h2 OkL.nil⟩
/-- The row grows. -/
theorem T6V.grow (H : T6V v w gh h g X) (hg : w.grownBy w' v.ownBlock) (hv : v'.ownBlock = v.ownBlock ∨ v'.ownBlock = some w.heap.size) (hl : ∀ b, v'.ownBlock = some b → b < w'.heap.size) (hgh : v.ownBlock ≠ some gh) : T6V v' w' gh h g X :=
  @T6.mk (SV v') w' gh h g X ((Only.of_grown hg).heap H.hs hgh) (TR.grow hg hv hl (@T6.tr (SV v) w gh h g X H)) H.ok
/-- The row's cells turn. -/
theorem T6V.set (H : T6V v w gh h g X) (hg : w.grownBy w' v.ownBlock) (hl : ∀ b, v.ownBlock = some b → b < w'.heap.size) (hgh : v.ownBlock ≠ some gh) : T6V v w' gh h g X := H.grow hg (.inl rfl) hl hgh
end
abbrev STG : TypeId := 9
theorem infoS1 : ∃ i z, Try.prog.info? STG = some i ∧ i.zero = some z ∧ i.size = 1 ∧ i.bytes = 16 ∧ z.cells.size = 1 := info_of (z := str []) (by kernel_rfl) rfl
/-- A row of strings. -/
abbrev RS (base : Nat) (w : World) (v : Value) (K : List (List UInt8)) : Prop := w.ownsRow base STG 1 v K.length (K.map str)
theorem RS.sl {base : Nat} {w : World} {v : Value} {K : List (List UInt8)} (h : RS base w v K) : Sl w 1 v K.length (K.map str) := Sl.of_own h
theorem RS.no {base : Nat} {w : World} {v : Value} {K : List (List UInt8)} (h : RS base w v K) {gh : Nat} (hb : gh < base) : v.ownBlock ≠ some gh := fun e => by
  have := (World.ownsRow.lt h gh e).1; omega
end Go.Proofs.Ytclcgelbcbnekaa
/- ChampShrinks: its first loop: a law of its own. -/
namespace Go.Proofs.Ytclcgelbcbnekaa
open Go Go.RowKit Go.QS Go.QS.Nk
set_option linter.unusedVariables false
variable [Zero (Nat → Prop)]
set_option linter.unusedSectionVars false

abbrev nil9 : Value := .slice none 0 0
set_option maxRecDepth 100000 in
set_option maxHeartbeats 2000000 in
theorem shr6_5 (wr : World) (gh g n C : Nat) (h : Hs) (hk : h.Ok) (A : Option Addr) (l : List Pr) (H : Hid (T6V nil9 wr gh h g [] ∧ Seg wr A (flat l) ∧ n = l.length)) (hn9 : n ≤ 9223372036854775807) (c d : Code) (K : Act → World → Prop) (Q : Exit → Act → World → Prop) (t0 t2 t3 t5 t6 t7 t8 t11 t12 t13 t14 t15 t16 t17 t18 t19 t20 t21 t22 t23 t24 t25 t26 t27 t28 t29 t30 t31 t32 t33 t34 t35 t36 t37 t38 t39 t40 t41 t42 t43 t44 t45 t46 t47 t48 t49 t50 t51 t52 t53 t54 t55 t56 t57 t58 t59 t60 t61 t62 t63 t64 t65 t66 t67 t68 t69 t70 t71 t72 t73 t74 t75 t76 t77 t78 t79 t80 t81 t82 t83 t84 t85 t86 t87 t88 t89 t90 t91 t92 t93 t94 t95 t96 t97 t98 t99 t100 t101 t102 t103 t104 t105 t106 t107 t108 t109 t110 t111 t112 t113 t114 t115 t116 t117 t118 t119 t120 t121 t122 t123 t124 t125 t126 t127 t128 t129 t130 t131 t132 t133 t134 t135 t136 t137 t138 t139 t140 t141 t142 t143 t144 : Value)
    (hc : (Try.f8.body.bind (findR 5)) = some c) (hd : (Try.f8.body.bind (findT 5)) = some d)
    (hK : ∀ a w, d.wp Try.prog Q a w → K a w)
    (hQ : ∀ (g2 : Nat) (v2 : Value) (X : List Pr) (u11 u12 u26 u27 u28 u29 u30 u31 u32 u33 u34 u35 u36 u37 u38 u39 u40 u41 u42 u43 u44 u45 u46 u47 : Value) (wx : World), Ext wr wx ∧ T6V nil9 wx gh h g2 X ∧ PS wx v2 X ∧ X.length ≤ 25 → Q .normal { tmps := List.toArray (t0 :: (.slice A n C) :: t2 :: t3 :: (ptr gh) :: t5 :: t6 :: t7 :: t8 :: (ptr g2) :: v2 :: u11 :: u12 :: t13 :: t14 :: t15 :: t16 :: t17 :: t18 :: t19 :: t20 :: t21 :: t22 :: t23 :: t24 :: t25 :: u26 :: u27 :: u28 :: u29 :: u30 :: u31 :: u32 :: u33 :: u34 :: u35 :: u36 :: u37 :: u38 :: u39 :: u40 :: u41 :: u42 :: u43 :: u44 :: u45 :: u46 :: u47 :: t48 :: t49 :: t50 :: t51 :: t52 :: t53 :: t54 :: t55 :: t56 :: t57 :: t58 :: t59 :: t60 :: t61 :: t62 :: t63 :: t64 :: t65 :: t66 :: t67 :: t68 :: t69 :: t70 :: t71 :: t72 :: t73 :: t74 :: t75 :: t76 :: t77 :: t78 :: t79 :: t80 :: t81 :: t82 :: t83 :: t84 :: t85 :: t86 :: t87 :: t88 :: t89 :: t90 :: t91 :: t92 :: t93 :: t94 :: t95 :: t96 :: t97 :: t98 :: t99 :: t100 :: t101 :: t102 :: t103 :: t104 :: t105 :: t106 :: t107 :: t108 :: t109 :: t110 :: t111 :: t112 :: t113 :: t114 :: t115 :: t116 :: t117 :: t118 :: t119 :: t120 :: t121 :: t122 :: t123 :: t124 :: t125 :: t126 :: t127 :: t128 :: t129 :: t130 :: t131 :: t132 :: t133 :: t134 :: t135 :: t136 :: t137 :: t138 :: t139 :: t140 :: t141 :: t142 :: t143 :: t144 :: []), defers := [] } wx) :
    c.wp Try.prog (Exit.then K Q) { tmps := List.toArray (t0 :: (.slice A n C) :: t2 :: t3 :: (ptr gh) :: t5 :: t6 :: t7 :: t8 :: (ptr g) :: (.slice none 0 0) :: t11 :: t12 :: t13 :: t14 :: t15 :: t16 :: t17 :: t18 :: t19 :: t20 :: t21 :: t22 :: t23 :: t24 :: t25 :: t26 :: t27 :: t28 :: t29 :: t30 :: t31 :: t32 :: t33 :: t34 :: t35 :: t36 :: t37 :: t38 :: t39 :: t40 :: t41 :: t42 :: t43 :: t44 :: t45 :: t46 :: t47 :: t48 :: t49 :: t50 :: t51 :: t52 :: t53 :: t54 :: t55 :: t56 :: t57 :: t58 :: t59 :: t60 :: t61 :: t62 :: t63 :: t64 :: t65 :: t66 :: t67 :: t68 :: t69 :: t70 :: t71 :: t72 :: t73 :: t74 :: t75 :: t76 :: t77 :: t78 :: t79 :: t80 :: t81 :: t82 :: t83 :: t84 :: t85 :: t86 :: t87 :: t88 :: t89 :: t90 :: t91 :: t92 :: t93 :: t94 :: t95 :: t96 :: t97 :: t98 :: t99 :: t100 :: t101 :: t102 :: t103 :: t104 :: t105 :: t106 :: t107 :: t108 :: t109 :: t110 :: t111 :: t112 :: t113 :: t114 :: t115 :: t116 :: t117 :: t118 :: t119 :: t120 :: t121 :: t122 :: t123 :: t124 :: t125 :: t126 :: t127 :: t128 :: t129 :: t130 :: t131 :: t132 :: t133 :: t134 :: t135 :: t136 :: t137 :: t138 :: t139 :: t140 :: t141 :: t142 :: t143 :: t144 :: []), defers := [] } wr := by
  change some _ = some c at hc
  cases hc
  change some _ = some d at hd
  cases hd
  have HQF := Lib.hid hQ
  clear hQ
  have H0 := H
  clear H
  obtain ⟨wr0, rfl⟩ : ∃ x, x = wr := ⟨_, rfl⟩
  repeat' (go_not_at_region 6; (first | go_skip | go_guarded | go_step))
  go_loopg [9, 10, 28] n (fun gk v9 v10 v28 wx => ∃ (i g2 : Nat) (X : List Pr), v9 = ptr g2 ∧ v28 = .int .i64 i ∧ i ≤ n ∧ n - i ≤ gk ∧ X.length ≤ 25 ∧ X.length ≤ i ∧ Hid (Ext wr0 wx ∧ T6V nil9 wx gh h g2 X ∧ PS wx v10 X))
  case atStart => exact ⟨0, g, [], rfl, rfl, Nat.zero_le _, by omega, by simp, by simp, Lib.hid ⟨Ext.refl _, H0.out.1, Sl.nil _ _⟩⟩
  case round =>
    obtain ⟨i, g2, X, rfl, rfl, hin, hgk, hX25, hXi, HI⟩ := hrel
    rcases Nat.lt_or_ge i n with hlt | hge
    · have d1 : decide (i < n) = true := by simp [hlt]
      have hi1 : (i : Int) < (n : Int) := by omega
      obtain ⟨p, hp⟩ := get_of_lt l (show i < l.length by have := H0.out.2.2; omega)
      obtain ⟨b, o, rfl, q0, q1⟩ := seg_pair (H0.out.2.1.below HI.out.1) hp
      clear hp
      repeat' (go_not_at_region 8; (first | go_skip | go_guarded | go_step))
      obtain ⟨gp, hgp⟩ : ∃ g, g = wr.heap.size := ⟨_, rfl⟩
      rw [← hgp]
      refine wp_named (fun w' => Ext wr w' ∧ PrAt w' gp p) ⟨(Ext.refl _).alloc (Nat.le_refl _) _, by rw [hgp]; exact heap_new wr _⟩ ?_
      clear hgp q0 q1
      intro w1 HA
      by_cases h20 : i < 25
      · have d2 : decide (i < 25) = true := by simp [h20]
        have d2' : decide ((i : Int) < 25) = true := by simp; omega
        obtain ⟨q, hq⟩ : ∃ q, q = cutP p := ⟨_, rfl⟩
        have hql : q.1.length ≤ 40 ∧ q.2.length ≤ 40 := by rw [hq]; exact cutP_short _
        have HF : Hid (∀ W, Calls Try.prog 47 #[prV p] W fun e w' => e = .returned (prV q) ∧ Ext W w') := Lib.hid (fun W => by rw [hq]; exact fewp_c W p)
        have HQ := Lib.hid hq
        clear hq
        have HT := Lib.hid (HI.out.2.1.ext HA.out.1)
        have HB := Lib.hid HA.out.2
        have hX1 : X.length ≤ 1000 := by omega
        obtain ⟨c0, c1⟩ := HB.out.cells
        obtain ⟨e0, e1, e2⟩ := HT.out.hs.cells
        have hB : Hid (w1.cell? ⟨gp, 0, none⟩ = some (str p.1) ∧ w1.cell? ⟨gp, 1, none⟩ = some (str p.2) ∧ w1.cell? ⟨gh, 0, none⟩ = some (.int .u64 h.k0) ∧ w1.cell? ⟨gh, 1, none⟩ = some (.int .u64 h.k1) ∧ w1.cell? ⟨gh, 2, none⟩ = some (.int .u64 h.mask)) := Lib.hid ⟨c0, c1, e0, e1, e2⟩
        repeat' (go_not_at_region 9; (first | go_skip | go_guarded | go_step))
        go_region_held3 (fun w' => w'.cell? ⟨gp, 0, none⟩ = some (str p.1) ∧ w'.cell? ⟨gp, 1, none⟩ = some (str p.2) ∧ w'.cell? ⟨gh, 0, none⟩ = some (.int .u64 h.k0) ∧ w'.cell? ⟨gh, 1, none⟩ = some (.int .u64 h.k1) ∧ w'.cell? ⟨gh, 2, none⟩ = some (.int .u64 h.mask))
          (first | exact keep5c k3.out hB.out | exact keep5c (by repeat' (first | exact k2.out | exact Ext.refl _ | apply ext_alloc | apply ext_drew | exact below_drewN (Ext.refl _) _)) hB.out | exact keep5c (by repeat' (first | exact Ext.refl _ | apply ext_alloc | apply ext_drew | exact below_drewN (Ext.refl _) _)) hB.out)
          (first
            | (go_at_call 47; refine (HF.out _).mono ?_; rintro e x2 ⟨rfl, f2⟩; have k2 : Hid (Ext w1 x2) := Lib.hid (Ext.trans (by repeat' (first | exact Ext.refl _ | apply ext_alloc | apply ext_drew | exact below_drewN (Ext.refl _) _)) f2); clear f2)
            | (go_at_call 46; refine (T6V.put (HT.out.ext k2.out) hk q (by omega) hql).mono ?_; rintro e x3 ⟨g3, b3, rfl, f3, t3⟩; have k3 : Hid (Ext w1 x3) := Lib.hid (k2.out.trans f3); have K3 : Hid (T6V nil9 x3 gh h g3 (rput X q)) := Lib.hid t3; clear f3 t3))
        clear c0 c1 e0 e1 e2
        have HP3 := Lib.hid (HI.out.2.2.below (HA.out.1.trans k3.out))
        obtain ⟨c0, c1⟩ := (HB.out.ext k3.out).cells
        have hq9 := hql
        repeat' (first | go_at_call 47 | go_skip | go_guarded | go_step)
        refine (HF.out _).mono ?_
        rintro e w4 ⟨rfl, f4⟩
        have H4 : Hid (Ext wr w4 ∧ T6V nil9 w4 gh h g3 (rput X q) ∧ PS w4 _ X) := Lib.hid ⟨HA.out.1.trans (k3.out.trans f4), K3.out.ext f4, HP3.out.below f4⟩
        clear f4 c0 c1
        go_simp
        repeat' (first | go_at_call 26 | go_skip | go_guarded | go_step)
        refine (rput_c w4 _ X q H4.out.2.2 (by omega) (by omega)).mono ?_
        rintro e w5 ⟨v5, rfl, o5, f5⟩
        have H5 : Hid (Ext wr w5 ∧ T6V nil9 w5 gh h g3 (rput X q) ∧ PS w5 v5 (rput X q)) := Lib.hid ⟨H4.out.1.trans f5, H4.out.2.1.ext f5, PS.of_own o5⟩
        clear f5 o5
        go_simp
        repeat' (first | go_skip | go_guarded | go_step)
        go_roundg (n - (i + 1))
        case measure => omega
        case rel => exact ⟨i + 1, g3, _, rfl, by go_num, by omega, Nat.le_refl _, by have := rput_length X q; omega, by have := rput_length X q; omega, Lib.hid ⟨HI.out.1.trans H5.out.1, H5.out.2.1, H5.out.2.2⟩⟩
      · have d2 : decide (i < 25) = false := by simp; omega
        have d2' : decide ((i : Int) < 25) = false := by simp; omega
        repeat' (first | go_skip | go_guarded | go_step)
        go_roundg (n - (i + 1))
        case measure => omega
        case rel => exact ⟨i + 1, g2, X, rfl, by go_num, by omega, Nat.le_refl _, hX25, by omega, Lib.hid ⟨HI.out.1.trans HA.out.1, HI.out.2.1.ext HA.out.1, HI.out.2.2.below HA.out.1⟩⟩
    · obtain rfl : i = n := by omega
      have d1 : decide (i < i) = false := by simp
      repeat' (first | go_skip | go_guarded | go_step)
      exact HQF.out g2 _ X _ _ _ _ _ _ _ _ _ _ _ _ _ _ _ _ _ _ _ _ _ _ _ _ _ ⟨HI.out.1, HI.out.2.1, HI.out.2.2, hX25⟩

end Go.Proofs.Ytclcgelbcbnekaa
