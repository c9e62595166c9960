/- Texts joined. -/
import Derived.Test.YtlgnokhfioglaaaMa
import Derived.Test.YtlgnokhfioglaaaLe
import Derived.Test.YtlgnokhfioglaaaBo
import Derived.Deep.LoopGhost
import Derived.Deep.RegionHeld3
import Derived.Test.YtlgnokhfioglaaaMb
import Derived.BigRegion
import Derived.Test.YtlgnokhfioglaaaBa
set_option linter.unusedVariables false
set_option linter.unusedSimpArgs false
/- What comes and goes again: plain laws of lists. No program. -/
namespace Go.QS

/-- The keys of K are those by which Y is more than X. -/
def Gone (X Y : List Pr) (K : List (List UInt8)) : Prop := ∀ q : Pr, (q ∈ Y ∧ q.1 ∉ K) ↔ q ∈ X
theorem Gone.nil (X : List Pr) : Gone X X [] := fun q => by simp
theorem Gone.put {X Y : List Pr} {K : List (List UInt8)} {p : Pr} (hn : hasK X p.1 = false) (h : Gone X Y K) : Gone X (rput Y p) (K ++ [p.1]) := by
  have hx : ∀ q ∈ X, q.1 ≠ p.1 := by
    intro q hq e
    have : hasK X p.1 = true := hasK_iff.2 ⟨q, hq, e⟩
    rw [hn] at this; cases this
  intro q
  rw [mem_rput, List.mem_append, List.mem_singleton]
  constructor
  · rintro ⟨h1, h2⟩
    have h3 : q.1 ∉ K := fun h => h2 (.inl h)
    have h4 : q.1 ≠ p.1 := fun h => h2 (.inr h)
    rcases h1 with rfl | ⟨h1, _⟩
    · exact absurd rfl h4
    · exact (h q).1 ⟨h1, h3⟩
  · intro hq
    have := (h q).2 hq
    refine ⟨.inr ⟨this.1, hx q hq⟩, ?_⟩
    rintro (h | h)
    · exact this.2 h
    · exact hx q hq h
theorem mem_swap {α : Type} {K : List α} {i j : Nat} {a b : α} (hi : K[i]? = some a) (hj : K[j]? = some b) (k : α) : k ∈ (K.set i b).set j a ↔ k ∈ K := by
  have hil := (List.getElem?_eq_some_iff.1 hi).1
  have hjl := (List.getElem?_eq_some_iff.1 hj).1
  simp only [List.mem_iff_getElem?]
  constructor
  · rintro ⟨n, hn⟩
    by_cases h1 : j = n
    · rw [List.getElem?_set, if_pos h1] at hn
      rw [if_pos (by simpa using hjl)] at hn
      cases hn
      exact ⟨i, hi⟩
    · rw [List.getElem?_set_ne h1] at hn
      by_cases h2 : i = n
      · rw [List.getElem?_set, if_pos h2, if_pos hil] at hn
        cases hn
        exact ⟨j, hj⟩
      · rw [List.getElem?_set_ne h2] at hn
        exact ⟨n, hn⟩
  · rintro ⟨n, hn⟩
    by_cases h1 : n = i
    · subst h1
      rw [hi] at hn
      cases hn
      refine ⟨j, ?_⟩
      rw [List.getElem?_set, if_pos rfl, if_pos (by simpa using hjl)]
    · by_cases h2 : n = j
      · subst h2
        rw [hj] at hn
        cases hn
        refine ⟨i, ?_⟩
        by_cases h3 : n = i
        · exact absurd h3 h1
        · rw [List.getElem?_set_ne h3, List.getElem?_set, if_pos rfl, if_pos hil]
      · refine ⟨n, ?_⟩
        rw [List.getElem?_set_ne (fun e => h2 e.symm), List.getElem?_set_ne (fun e => h1 e.symm)]
        exact hn
/-- So far gone. -/
def GoneTo (Y Z : List Pr) (K : List (List UInt8)) : Prop := ∀ q : Pr, q ∈ Z ↔ q ∈ Y ∧ q.1 ∉ K
theorem GoneTo.nil (Y : List Pr) : GoneTo Y Y [] := fun q => by simp
theorem GoneTo.drop {Y Z : List Pr} {K : List (List UInt8)} (h : GoneTo Y Z K) (k : List UInt8) : GoneTo Y (rdrop Z k) (K ++ [k]) := by
  intro q
  rw [mem_rdrop, h q, List.mem_append, List.mem_singleton]
  constructor
  · rintro ⟨⟨h1, h2⟩, h3⟩
    exact ⟨h1, fun h => h.elim h2 h3⟩
  · rintro ⟨h1, h2⟩
    exact ⟨⟨h1, fun h => h2 (.inl h)⟩, fun h => h2 (.inr h)⟩
theorem gone_end {X Y Z : List Pr} {K L : List (List UInt8)} (hX : Rise X) (hZ : Rise Z) (h1 : Gone X Y K) (h2 : ∀ k, k ∈ L ↔ k ∈ K) (h3 : GoneTo Y Z L) : Z = X :=
  rise_ext Z X hZ hX fun q => by rw [h3 q, h2, h1 q]
end Go.QS
/- In which order pairs come says nothing: plain laws of lists. No program. -/
namespace Go.QS

/-- So far, at most so many, cut. -/
def cutM (N : Nat) (l : List Pr) (i : Nat) : List Pr := ((l.take i).take N).map fun p => (p.1.take 40, p.2.take 40)
theorem cutM_zero (N : Nat) (l : List Pr) : cutM N l 0 = [] := by simp [cutM]
theorem cutM_step {N : Nat} {l : List Pr} {i : Nat} {p : Pr} (h : l[i]? = some p) (hi : i < N) : cutM N l (i + 1) = cutM N l i ++ [(p.1.take 40, p.2.take 40)] := by
  unfold cutM
  have hl : i < l.length := (List.getElem?_eq_some_iff.1 h).1
  have e1 : ((l.take i ++ [p]).take N) = l.take i ++ [p] := List.take_of_length_le (by simp; omega)
  have e2 : (l.take i).take N = l.take i := List.take_of_length_le (by simp; omega)
  rw [take_snoc h, e1, e2, List.map_append]
  rfl
theorem cutM_stay {N : Nat} {l : List Pr} {i : Nat} (hi : N ≤ i) : cutM N l (i + 1) = cutM N l i := by
  unfold cutM
  rw [List.take_take, List.take_take, show min N (i + 1) = N by omega, show min N i = N by omega]
theorem cutM_length (N : Nat) (l : List Pr) (i : Nat) : (cutM N l i).length ≤ N := by simp [cutM]; omega
theorem cutM_short {N : Nat} {l : List Pr} {i : Nat} {q : Pr} (h : q ∈ cutM N l i) : q.1.length ≤ 40 ∧ q.2.length ≤ 40 := by
  obtain ⟨p, _, rfl⟩ := List.mem_map.1 h
  simp; omega

/-- Pairs that rise, put one behind the other. -/
theorem rput_take {X : List Pr} (hr : Rise X) {i : Nat} {p : Pr} (h : X[i]? = some p) : rput (X.take i) p = X.take (i + 1) := by
  have hri : ∀ j, Rise (X.take j) := fun j => List.Pairwise.sublist (List.take_sublist j X) hr
  refine rise_ext _ _ (rput_rise (hri i) p) (hri (i + 1)) fun q => ?_
  rw [mem_rput, take_snoc h, List.mem_append, List.mem_singleton]
  constructor
  · rintro (rfl | ⟨h1, _⟩)
    · exact .inr rfl
    · exact .inl h1
  · rintro (h1 | rfl)
    · refine .inr ⟨h1, fun e => ?_⟩
      have hp := hri (i + 1)
      rw [take_snoc h] at hp
      have := (List.pairwise_append.1 hp).2.2 q h1 p (by simp)
      rw [e] at this
      exact k_irrefl _ this
    · exact .inl rfl

/-- Pairs put, of which no two unlike have one key. -/
theorem mem_puts {M0 : List Pr} : ∀ (L : List Pr), (∀ p ∈ L, ∀ q ∈ L, p.1 = q.1 → p = q) → ∀ q, q ∈ L.foldl rput M0 ↔ q ∈ L ∨ (q ∈ M0 ∧ ∀ p ∈ L, p.1 ≠ q.1) := by
  intro L
  induction L using snoc_ind with
  | h0 => intro _ q; simp
  | h1 L x ih =>
    intro hu q
    rw [List.foldl_append]
    simp only [List.foldl_cons, List.foldl_nil]
    rw [mem_rput, ih (fun p hp q hq => hu p (by simp [hp]) q (by simp [hq])) q]
    simp only [List.mem_append, List.mem_singleton]
    constructor
    · rintro (rfl | ⟨h1 | ⟨h1, h2⟩, h3⟩)
      · exact .inl (.inr rfl)
      · exact .inl (.inl h1)
      · refine .inr ⟨h1, fun p hp => ?_⟩
        rcases hp with hp | rfl
        · exact h2 p hp
        · exact fun e => h3 e.symm
    · rintro ((h1 | h1) | ⟨h1, h2⟩)
      · by_cases e : q.1 = x.1
        · exact .inl (hu q (by simp [h1]) x (by simp) e)
        · exact .inr ⟨.inl h1, e⟩
      · exact .inl h1
      · exact .inr ⟨.inr ⟨h1, fun p hp => h2 p (.inl hp)⟩, fun e => h2 x (.inr rfl) e.symm⟩

/-- What came and went, and what came in another order. -/
theorem order_end {X Tn M0 M2 : List Pr} {K : List UInt8 → Prop} (hX : Rise X) (hM : Rise M2) (hT : ∀ q, q ∈ Tn ↔ q ∈ X) (h0 : ∀ q ∈ M0, K q.1)
    (h1 : ∀ q ∈ X, q ∈ Tn.foldl rput M0 → q ∈ M2) (h2 : ∀ q ∈ M2, q ∈ Tn.foldl rput M0) (h3 : ∀ q ∈ M2, K q.1 → hasK X q.1 = true) : M2 = X := by
  have huX : ∀ p ∈ X, ∀ q ∈ X, p.1 = q.1 → p = q := by
    intro p hp q hq e
    obtain ⟨i, hi⟩ := List.mem_iff_getElem?.1 hp
    obtain ⟨j, hj⟩ := List.mem_iff_getElem?.1 hq
    have hil := (List.getElem?_eq_some_iff.1 hi)
    have hjl := (List.getElem?_eq_some_iff.1 hj)
    obtain ⟨hi1, hi2⟩ := hil
    obtain ⟨hj1, hj2⟩ := hjl
    rcases Nat.lt_trichotomy i j with h | h | h
    · have := List.pairwise_iff_getElem.1 hX i j hi1 hj1 h
      rw [hi2, hj2, e] at this
      exact absurd this (k_irrefl _)
    · subst h; rw [hi] at hj; exact Option.some.inj hj
    · have := List.pairwise_iff_getElem.1 hX j i hj1 hi1 h
      rw [hi2, hj2, e] at this
      exact absurd this (k_irrefl _)
  have hu : ∀ p ∈ Tn, ∀ q ∈ Tn, p.1 = q.1 → p = q := fun p hp q hq e => huX p ((hT p).1 hp) q ((hT q).1 hq) e
  refine rise_ext _ _ hM hX fun q => ⟨fun hq => ?_, fun hq => h1 q hq ((mem_puts Tn hu q).2 (.inl ((hT q).2 hq)))⟩
  rcases (mem_puts Tn hu q).1 (h2 q hq) with h | ⟨h, hn⟩
  · exact (hT q).1 h
  · obtain ⟨p, hp, e⟩ := hasK_iff.1 (h3 q hq (h0 q h))
    exact absurd e (hn p ((hT p).2 hp))
end Go.QS
/- ChampOrders: its words; its pairs are taken: its first loop: a law of its own. -/
namespace Go.Proofs.Ytlgnokhfioglaaa
open Go.RowKit Go.QS Go.QS.Nk
set_option linter.unusedVariables false

/-- A hasher, and a trie of a list. -/
structure T6 (w : World) (gh : Nat) (h : Hs) (g : Nat) (X : List Pr) : Prop where
  hs : HsAt w gh h
  tr : TR ND h.hash w 13 g X
  ok : OkL X
theorem T6.ext {w w' : World} {gh g : Nat} {h : Hs} {X : List Pr} (H : T6 w gh h g X) (f : Ext w w') : T6 w' gh h g X := ⟨H.hs.ext f, TR.ext f 13 H.tr, H.ok⟩
theorem cputT {h : Hs} (hk : h.Ok) {w : World} {gh g : Nat} {X : List Pr} (H : T6 w gh h g X) (p : Pr) (hX : X.length ≤ 100000) (hp : p.1.length ≤ 40 ∧ p.2.length ≤ 40) :
    Calls Try.prog 43 #[hsV h, nil0, ptr g, prV p] w fun e w' => ∃ g' b, e = .returned (.tuple #[ptr g', .bool b]) ∧ Ext w w' ∧ T6 w' gh h g' (rput X p) :=
  (cput_c h hk w (ptr g) X p (Rot.of H.tr) H.ok.rise (by omega) H.ok.keys (by omega)).mono fun e w' ⟨g', h1, h2, h3, _⟩ => ⟨g', _, h1, h3, H.hs.ext h3, h2, H.ok.put hp⟩
theorem cdropT {h : Hs} (hk : h.Ok) {w : World} {gh g : Nat} {X : List Pr} (H : T6 w gh h g X) (k : List UInt8) (hX : X.length ≤ 100000) (hp : k.length ≤ 40) :
    Calls Try.prog 41 #[hsV h, nil0, ptr g, str k] w fun e w' => ∃ g' b, e = .returned (.tuple #[ptr g', .bool b]) ∧ Ext w w' ∧ T6 w' gh h g' (rdrop X k) :=
  (cdrop_c h hk w (ptr g) X k (Rot.of H.tr) H.ok.rise (by omega) (by omega)).mono fun e w' ⟨g', h1, h2, h3, _⟩ => ⟨g', _, h1, h3, H.hs.ext h3, h2, H.ok.drop k⟩
/-- A key of those that come and go. -/
def GoneK (l : List Pr) (k : List UInt8) : Prop := ∃ (i : Nat) (p : Pr), i < 20 ∧ l[i]? = some p ∧ k = (cutP p).1
theorem keep5c {w w' : World} {a2 a3 a4 a5 a6 : Addr} {u2 u3 u4 u5 u6 : Value} (f : Ext w w') (h : w.cell? a2 = some u2 ∧ w.cell? a3 = some u3 ∧ w.cell? a4 = some u4 ∧ w.cell? a5 = some u5 ∧ w.cell? a6 = some u6) : w'.cell? a2 = some u2 ∧ w'.cell? a3 = some u3 ∧ w'.cell? a4 = some u4 ∧ w'.cell? a5 = some u5 ∧ w'.cell? a6 = some u6 :=
  ⟨keep1c f h.1, keep1c f h.2.1, keep1c f h.2.2.1, keep1c f h.2.2.2.1, keep1c f h.2.2.2.2⟩
theorem own_slice' {w : World} {base : Nat} {e : TypeId} {k n : Nat} {v : Value} {xs : List Value} (h : w.ownsRow base e k v n xs) : ∃ A c, v = .slice A n c := own_slice h
theorem infoPx : ∃ i z, Try.prog.info? 36 = some i ∧ i.zero = some z ∧ i.size = 2 ∧ i.bytes = 32 ∧ z.cells.size = 2 := info_of (z := .agg #[str [], str []]) (by kernel_rfl) rfl
theorem infoRx : ∃ i z, Try.prog.info? 86 = some i ∧ i.zero = some z ∧ i.size = 2 ∧ i.bytes = 32 ∧ z.cells.size = 2 := info_of (z := .agg #[str [], str []]) (by kernel_rfl) rfl
set_option maxRecDepth 100000 in
set_option maxHeartbeats 2000000 in
theorem ord6_4 (wr : World) (n C : Nat) (A : Option Addr) (l : List Pr) (H : Hid (Seg wr A (flat l) ∧ n = l.length)) (hn9 : n ≤ 9223372036854775807) (c d : Code) (K : Act → World → Prop) (Q : Exit → Act → World → Prop) (t0 t2 t3 t4 t5 t6 t7 t8 t10 t11 t12 t13 t14 t15 t16 t17 t18 t19 t20 t21 t22 t23 t24 t25 t26 t27 t28 t29 t30 t31 t32 t33 t34 t35 t36 t37 t38 t39 t40 t41 t42 t43 t44 t45 t46 t47 t48 t49 t50 t51 t52 t53 t54 t55 t56 t57 t58 t59 t60 t61 t62 t63 t64 t65 t66 t67 t68 t69 t70 t71 t72 t73 t74 t75 t76 t77 t78 t79 t80 t81 t82 t83 t84 t85 t86 t87 t88 t89 t90 t91 t92 t93 t94 t95 t96 t97 t98 t99 t100 t101 t102 t103 t104 t105 t106 t107 t108 t109 t110 t111 t112 t113 t114 t115 t116 t117 t118 t119 t120 t121 t122 t123 t124 t125 t126 t127 t128 t129 t130 t131 t132 t133 t134 t135 t136 t137 t138 t139 t140 t141 t142 t143 t144 t145 t146 t147 t148 t149 t150 t151 t152 t153 t154 t155 t156 t157 t158 t159 t160 t161 t162 t163 t164 t165 t166 t167 t168 t169 t170 t171 t172 t173 t174 t175 t176 t177 t178 t179 t180 t181 t182 t183 t184 t185 t186 t187 : Value)
    (hc : (Try.f13.body.bind (findR 4)) = some c) (hd : (Try.f13.body.bind (findT 4)) = some d)
    (hK : ∀ a w, d.wp Try.prog Q a w → K a w)
    (hQ : ∀ (v2 : Value) (u10 u11 u32 u33 u34 u35 u36 u37 u38 u39 u40 u41 u42 u43 u44 u45 u46 : Value) (wx : World), Ext wr wx ∧ PS wx v2 (cutM 30 l n) → Q .normal { tmps := List.toArray (t0 :: (.slice A n C) :: t2 :: t3 :: t4 :: t5 :: t6 :: t7 :: t8 :: v2 :: u10 :: u11 :: t12 :: t13 :: t14 :: t15 :: t16 :: t17 :: t18 :: t19 :: t20 :: t21 :: t22 :: t23 :: t24 :: t25 :: t26 :: t27 :: t28 :: t29 :: t30 :: t31 :: u32 :: u33 :: u34 :: u35 :: u36 :: u37 :: u38 :: u39 :: u40 :: u41 :: u42 :: u43 :: u44 :: u45 :: u46 :: t47 :: t48 :: t49 :: t50 :: t51 :: t52 :: t53 :: t54 :: t55 :: t56 :: t57 :: t58 :: t59 :: t60 :: t61 :: t62 :: t63 :: t64 :: t65 :: t66 :: t67 :: t68 :: t69 :: t70 :: t71 :: t72 :: t73 :: t74 :: t75 :: t76 :: t77 :: t78 :: t79 :: t80 :: t81 :: t82 :: t83 :: t84 :: t85 :: t86 :: t87 :: t88 :: t89 :: t90 :: t91 :: t92 :: t93 :: t94 :: t95 :: t96 :: t97 :: t98 :: t99 :: t100 :: t101 :: t102 :: t103 :: t104 :: t105 :: t106 :: t107 :: t108 :: t109 :: t110 :: t111 :: t112 :: t113 :: t114 :: t115 :: t116 :: t117 :: t118 :: t119 :: t120 :: t121 :: t122 :: t123 :: t124 :: t125 :: t126 :: t127 :: t128 :: t129 :: t130 :: t131 :: t132 :: t133 :: t134 :: t135 :: t136 :: t137 :: t138 :: t139 :: t140 :: t141 :: t142 :: t143 :: t144 :: t145 :: t146 :: t147 :: t148 :: t149 :: t150 :: t151 :: t152 :: t153 :: t154 :: t155 :: t156 :: t157 :: t158 :: t159 :: t160 :: t161 :: t162 :: t163 :: t164 :: t165 :: t166 :: t167 :: t168 :: t169 :: t170 :: t171 :: t172 :: t173 :: t174 :: t175 :: t176 :: t177 :: t178 :: t179 :: t180 :: t181 :: t182 :: t183 :: t184 :: t185 :: t186 :: t187 :: []), defers := [] } wx) :
    c.wp Try.prog (Exit.then K Q) { tmps := List.toArray (t0 :: (.slice A n C) :: t2 :: t3 :: t4 :: t5 :: t6 :: t7 :: t8 :: (.slice none 0 0) :: t10 :: t11 :: t12 :: t13 :: t14 :: t15 :: t16 :: t17 :: t18 :: t19 :: t20 :: t21 :: t22 :: t23 :: t24 :: t25 :: t26 :: t27 :: t28 :: t29 :: t30 :: t31 :: t32 :: t33 :: t34 :: t35 :: t36 :: t37 :: t38 :: t39 :: t40 :: t41 :: t42 :: t43 :: t44 :: t45 :: t46 :: t47 :: t48 :: t49 :: t50 :: t51 :: t52 :: t53 :: t54 :: t55 :: t56 :: t57 :: t58 :: t59 :: t60 :: t61 :: t62 :: t63 :: t64 :: t65 :: t66 :: t67 :: t68 :: t69 :: t70 :: t71 :: t72 :: t73 :: t74 :: t75 :: t76 :: t77 :: t78 :: t79 :: t80 :: t81 :: t82 :: t83 :: t84 :: t85 :: t86 :: t87 :: t88 :: t89 :: t90 :: t91 :: t92 :: t93 :: t94 :: t95 :: t96 :: t97 :: t98 :: t99 :: t100 :: t101 :: t102 :: t103 :: t104 :: t105 :: t106 :: t107 :: t108 :: t109 :: t110 :: t111 :: t112 :: t113 :: t114 :: t115 :: t116 :: t117 :: t118 :: t119 :: t120 :: t121 :: t122 :: t123 :: t124 :: t125 :: t126 :: t127 :: t128 :: t129 :: t130 :: t131 :: t132 :: t133 :: t134 :: t135 :: t136 :: t137 :: t138 :: t139 :: t140 :: t141 :: t142 :: t143 :: t144 :: t145 :: t146 :: t147 :: t148 :: t149 :: t150 :: t151 :: t152 :: t153 :: t154 :: t155 :: t156 :: t157 :: t158 :: t159 :: t160 :: t161 :: t162 :: t163 :: t164 :: t165 :: t166 :: t167 :: t168 :: t169 :: t170 :: t171 :: t172 :: t173 :: t174 :: t175 :: t176 :: t177 :: t178 :: t179 :: t180 :: t181 :: t182 :: t183 :: t184 :: t185 :: t186 :: t187 :: []), defers := [] } wr := by
  change some _ = some c at hc
  cases hc
  change some _ = some d at hd
  cases hd
  have HQF := Lib.hid hQ
  clear hQ
  obtain ⟨wr0, rfl⟩ : ∃ x, x = wr := ⟨_, rfl⟩
  repeat' (go_not_at_region 5; (first | go_skip | go_guarded | go_step))
  go_loopg [9, 34] n (fun gk v9 v34 wx => ∃ i : Nat, v34 = .int .i64 i ∧ i ≤ n ∧ n - i ≤ gk ∧ Hid (Ext wr0 wx ∧ wx.ownsRow wr0.heap.size 36 2 v9 (cutM 30 l i).length (flat (cutM 30 l i))))
  case atStart => exact ⟨0, rfl, Nat.zero_le _, by omega, Lib.hid ⟨Ext.refl _, World.ownsRow_nil _ _ _ _⟩⟩
  case round =>
    obtain ⟨i, rfl, hin, hgk, HI⟩ := hrel
    rcases Nat.lt_or_ge i n with hlt | hge
    · have d1 : decide (i < n) = true := by simp [hlt]
      have hi1 : (i : Int) < (n : Int) := by omega
      obtain ⟨p, hp⟩ := get_of_lt l (show i < l.length by have := H.out.2; omega)
      obtain ⟨b, o, rfl, q0, q1⟩ := seg_pair (H.out.1.below HI.out.1) hp
      have HP := Lib.hid hp
      clear hp
      repeat' (go_not_at_region 7; (first | go_skip | go_guarded | go_step))
      obtain ⟨gp, hgp⟩ : ∃ g, g = wr.heap.size := ⟨_, rfl⟩
      rw [← hgp]
      refine wp_named (fun w' => Ext wr w' ∧ PrAt w' gp p) ⟨(Ext.refl _).alloc (Nat.le_refl _) _, by rw [hgp]; exact heap_new wr _⟩ ?_
      clear hgp q0 q1
      intro w1 HA
      by_cases h20 : i < 30
      · have d2 : decide (i < 30) = true := by simp [h20]
        have d2' : decide ((i : Int) < 30) = true := by simp; omega
        obtain ⟨q, hq⟩ : ∃ q, q = cutP p := ⟨_, rfl⟩
        have hql : q.1.length ≤ 40 ∧ q.2.length ≤ 40 := by rw [hq]; exact cutP_short _
        have HF : Hid (∀ W, Calls Try.prog 39 #[prV p] W fun e w' => e = .returned (prV q) ∧ Ext W w') := Lib.hid (fun W => by rw [hq]; exact fewp_c W p)
        have HQ := Lib.hid hq
        clear hq
        obtain ⟨c0, c1⟩ := HA.out.2.cells
        repeat' (first | go_at_call 39 | go_skip | go_guarded | go_step)
        refine (HF.out _).mono ?_
        rintro e w2 ⟨rfl, f2⟩
        have H2 : Hid (Ext wr w2) := Lib.hid (HA.out.1.trans f2)
        clear f2 c0 c1
        have hE2 : Ext wr (w2.alloc (.cells #[str q.1, str q.2] 36)) := H2.out.trans ((Ext.refl _).alloc (Nat.le_refl _) _)
        have HO : Hid (_ ∧ _) := Lib.hid ⟨row_ext HI.out.2 hE2, HI.out.1.trans hE2⟩
        have hcl := cutM_length 30 l i
        clear hE2
        go_simp
        repeat' (first | (at_builtin; refine wpList_appE (W := _) rfl (.tmp 41) (.tmp 44) _ rfl 36 2 32 Try.underlying22 infoPx (by decide) _ _ _ rfl HO.out.1 HO.out.2 _ 1 1 [str q.1, str q.2] rfl rfl (Seg.new _ [_, _] _ (by simp)) (by intro u hu; simp at hu; rcases hu with rfl | rfl <;> rfl) (by unfold maxLen; omega) (by omega) ?_; intro v5 w5 hown5 hb5) | go_skip | go_guarded | go_step)
        have e : cutM 30 l (i + 1) = cutM 30 l i ++ [q] := by rw [HQ.out]; exact cutM_step HP.out h20
        have H5 : Hid (Ext _ w5 ∧ w5.ownsRow _ 36 2 v5 (cutM 30 l (i + 1)).length (flat (cutM 30 l (i + 1)))) := Lib.hid ⟨hb5, by rw [e, List.length_append, flat_append]; exact hown5⟩
        clear e hown5 hb5 hcl
        repeat' (first | go_skip | go_guarded | go_step)
        go_roundg (n - (i + 1))
        case measure => omega
        case rel => exact ⟨i + 1, by go_num, by omega, Nat.le_refl _, H5⟩
      · have d2 : decide (i < 30) = false := by simp; omega
        have d2' : decide ((i : Int) < 30) = false := by simp; omega
        have e : cutM 30 l (i + 1) = cutM 30 l i := cutM_stay (by omega)
        have H5 : Hid (Ext _ w1 ∧ w1.ownsRow _ 36 2 u9 (cutM 30 l (i + 1)).length (flat (cutM 30 l (i + 1)))) := Lib.hid ⟨HI.out.1.trans HA.out.1, by rw [e]; exact row_ext HI.out.2 HA.out.1⟩
        clear e
        repeat' (first | go_skip | go_guarded | go_step)
        go_roundg (n - (i + 1))
        case measure => omega
        case rel => exact ⟨i + 1, by go_num, by omega, Nat.le_refl _, H5⟩
    · obtain rfl : i = n := by omega
      have d1 : decide (i < i) = false := by simp
      repeat' (first | go_skip | go_guarded | go_step)
      exact HQF.out _ _ _ _ _ _ _ _ _ _ _ _ _ _ _ _ _ _ _ ⟨HI.out.1, PS.of_own HI.out.2⟩

end Go.Proofs.Ytlgnokhfioglaaa
/- ChampOrders: pairs are put, in both orders: its second and fifth loops: laws of their own. -/
namespace Go.Proofs.Ytlgnokhfioglaaa
open Go.RowKit Go.QS Go.QS.Nk
set_option linter.unusedVariables false

theorem puts_length : ∀ (L M : List Pr), (L.foldl rput M).length ≤ M.length + L.length
  | [], M => by simp
  | p :: L, M => by
    have h1 := puts_length L (rput M p)
    have h2 := rput_length M p
    simp only [List.foldl_cons, List.length_cons]
    omega
set_option maxRecDepth 100000 in
set_option maxHeartbeats 2000000 in
theorem ord6_12 (wr : World) (gh g : Nat) (h : Hs) (hk : h.Ok) (v9 : Value) (L : List Pr) (H : Hid (T6 wr gh h g [] ∧ PS wr v9 L ∧ OkL L)) (hX : L.length ≤ 100) (c d : Code) (K : Act → World → Prop) (Q : Exit → Act → World → Prop) (t0 t1 t2 t3 t5 t6 t7 t8 t10 t11 t13 t14 t15 t16 t17 t18 t19 t20 t21 t22 t23 t24 t25 t26 t27 t28 t29 t30 t31 t32 t33 t34 t35 t36 t37 t38 t39 t40 t41 t42 t43 t44 t45 t46 t47 t48 t49 t50 t51 t52 t53 t54 t55 t56 t57 t58 t59 t60 t61 t62 t63 t64 t65 t66 t67 t68 t69 t70 t71 t72 t73 t74 t75 t76 t77 t78 t79 t80 t81 t82 t83 t84 t85 t86 t87 t88 t89 t90 t91 t92 t93 t94 t95 t96 t97 t98 t99 t100 t101 t102 t103 t104 t105 t106 t107 t108 t109 t110 t111 t112 t113 t114 t115 t116 t117 t118 t119 t120 t121 t122 t123 t124 t125 t126 t127 t128 t129 t130 t131 t132 t133 t134 t135 t136 t137 t138 t139 t140 t141 t142 t143 t144 t145 t146 t147 t148 t149 t150 t151 t152 t153 t154 t155 t156 t157 t158 t159 t160 t161 t162 t163 t164 t165 t166 t167 t168 t169 t170 t171 t172 t173 t174 t175 t176 t177 t178 t179 t180 t181 t182 t183 t184 t185 t186 t187 : Value)
    (hc : (Try.f13.body.bind (findR 12)) = some c) (hd : (Try.f13.body.bind (findT 12)) = some d)
    (hK : ∀ a w, d.wp Try.prog Q a w → K a w)
    (hQ : ∀ (g2 : Nat) (u15 u51 u52 u53 u54 u55 u56 u57 u58 u59 u60 u61 u62 u63 u64 : Value) (wx : World), Ext wr wx ∧ T6 wx gh h g2 L → Q .normal { tmps := List.toArray (t0 :: t1 :: t2 :: t3 :: (ptr gh) :: t5 :: t6 :: t7 :: t8 :: v9 :: t10 :: t11 :: (ptr g2) :: t13 :: t14 :: u15 :: t16 :: t17 :: t18 :: t19 :: t20 :: t21 :: t22 :: t23 :: t24 :: t25 :: t26 :: t27 :: t28 :: t29 :: t30 :: t31 :: t32 :: t33 :: t34 :: t35 :: t36 :: t37 :: t38 :: t39 :: t40 :: t41 :: t42 :: t43 :: t44 :: t45 :: t46 :: t47 :: t48 :: t49 :: t50 :: u51 :: u52 :: u53 :: u54 :: u55 :: u56 :: u57 :: u58 :: u59 :: u60 :: u61 :: u62 :: u63 :: u64 :: t65 :: t66 :: t67 :: t68 :: t69 :: t70 :: t71 :: t72 :: t73 :: t74 :: t75 :: t76 :: t77 :: t78 :: t79 :: t80 :: t81 :: t82 :: t83 :: t84 :: t85 :: t86 :: t87 :: t88 :: t89 :: t90 :: t91 :: t92 :: t93 :: t94 :: t95 :: t96 :: t97 :: t98 :: t99 :: t100 :: t101 :: t102 :: t103 :: t104 :: t105 :: t106 :: t107 :: t108 :: t109 :: t110 :: t111 :: t112 :: t113 :: t114 :: t115 :: t116 :: t117 :: t118 :: t119 :: t120 :: t121 :: t122 :: t123 :: t124 :: t125 :: t126 :: t127 :: t128 :: t129 :: t130 :: t131 :: t132 :: t133 :: t134 :: t135 :: t136 :: t137 :: t138 :: t139 :: t140 :: t141 :: t142 :: t143 :: t144 :: t145 :: t146 :: t147 :: t148 :: t149 :: t150 :: t151 :: t152 :: t153 :: t154 :: t155 :: t156 :: t157 :: t158 :: t159 :: t160 :: t161 :: t162 :: t163 :: t164 :: t165 :: t166 :: t167 :: t168 :: t169 :: t170 :: t171 :: t172 :: t173 :: t174 :: t175 :: t176 :: t177 :: t178 :: t179 :: t180 :: t181 :: t182 :: t183 :: t184 :: t185 :: t186 :: t187 :: []), defers := [] } wx) :
    c.wp Try.prog (Exit.then K Q) { tmps := List.toArray (t0 :: t1 :: t2 :: t3 :: (ptr gh) :: t5 :: t6 :: t7 :: t8 :: v9 :: t10 :: t11 :: (ptr g) :: t13 :: t14 :: t15 :: t16 :: t17 :: t18 :: t19 :: t20 :: t21 :: t22 :: t23 :: t24 :: t25 :: t26 :: t27 :: t28 :: t29 :: t30 :: t31 :: t32 :: t33 :: t34 :: t35 :: t36 :: t37 :: t38 :: t39 :: t40 :: t41 :: t42 :: t43 :: t44 :: t45 :: t46 :: t47 :: t48 :: t49 :: t50 :: t51 :: t52 :: t53 :: t54 :: t55 :: t56 :: t57 :: t58 :: t59 :: t60 :: t61 :: t62 :: t63 :: t64 :: t65 :: t66 :: t67 :: t68 :: t69 :: t70 :: t71 :: t72 :: t73 :: t74 :: t75 :: t76 :: t77 :: t78 :: t79 :: t80 :: t81 :: t82 :: t83 :: t84 :: t85 :: t86 :: t87 :: t88 :: t89 :: t90 :: t91 :: t92 :: t93 :: t94 :: t95 :: t96 :: t97 :: t98 :: t99 :: t100 :: t101 :: t102 :: t103 :: t104 :: t105 :: t106 :: t107 :: t108 :: t109 :: t110 :: t111 :: t112 :: t113 :: t114 :: t115 :: t116 :: t117 :: t118 :: t119 :: t120 :: t121 :: t122 :: t123 :: t124 :: t125 :: t126 :: t127 :: t128 :: t129 :: t130 :: t131 :: t132 :: t133 :: t134 :: t135 :: t136 :: t137 :: t138 :: t139 :: t140 :: t141 :: t142 :: t143 :: t144 :: t145 :: t146 :: t147 :: t148 :: t149 :: t150 :: t151 :: t152 :: t153 :: t154 :: t155 :: t156 :: t157 :: t158 :: t159 :: t160 :: t161 :: t162 :: t163 :: t164 :: t165 :: t166 :: t167 :: t168 :: t169 :: t170 :: t171 :: t172 :: t173 :: t174 :: t175 :: t176 :: t177 :: t178 :: t179 :: t180 :: t181 :: t182 :: t183 :: t184 :: t185 :: t186 :: t187 :: []), defers := [] } wr := by
  change some _ = some c at hc
  cases hc
  change some _ = some d at hd
  cases hd
  have HQF := Lib.hid hQ
  clear hQ
  obtain ⟨PA, pc, rfl, hl1, hn, hC, hs⟩ := H.out.2.1
  obtain ⟨n, hn2⟩ : ∃ n, n = L.length := ⟨_, rfl⟩
  rw [← hn2] at hn HQF ⊢
  have hn9 : n ≤ 9223372036854775807 := by unfold maxLen at hC; omega
  have HS : Hid (n = L.length ∧ Seg wr PA (flat L)) := Lib.hid ⟨hn2, hs⟩
  have HG : Hid ((∀ i, (L.take i).length ≤ 100000) ∧ ∀ q ∈ L, q.1.length ≤ 40 ∧ q.2.length ≤ 40) := Lib.hid ⟨fun i => by rw [List.length_take]; omega, H.out.2.2.short⟩
  have HE : Hid (∀ (i : Nat) (p : Pr), L[i]? = some p → rput (L.take i) p = L.take (i + 1)) := Lib.hid (fun i p hp => rput_take H.out.2.2.rise hp)
  have hT := H.out.1
  clear H hs hn2 hl1
  have HT0 := Lib.hid hT
  clear hT
  obtain ⟨wr0, rfl⟩ : ∃ x, x = wr := ⟨_, rfl⟩
  repeat' (go_not_at_region 13; (first | go_skip | go_guarded | go_step))
  go_loopg [12, 53] n (fun gk v12 v53 wx => ∃ (i g2 : Nat), v12 = ptr g2 ∧ v53 = .int .i64 i ∧ i ≤ n ∧ n - i ≤ gk ∧ Hid (Ext wr0 wx ∧ T6 wx gh h g2 (L.take i)))
  case atStart => exact ⟨0, g, rfl, rfl, Nat.zero_le _, by omega, Lib.hid ⟨Ext.refl _, HT0.out⟩⟩
  case round =>
    obtain ⟨i, g2, rfl, rfl, hin, hgk, HI⟩ := hrel
    rcases Nat.lt_or_ge i n with hlt | hge
    · have d1 : decide (i < n) = true := by simp [hlt]
      have hi1 : (i : Int) < (n : Int) := by omega
      obtain ⟨p, hp⟩ := get_of_lt L (show i < L.length by have := HS.out.1; omega)
      obtain ⟨b, o, rfl, q0, q1⟩ := seg_pair (HS.out.2.below HI.out.1) hp
      have HP := Lib.hid hp
      clear hp
      repeat' (go_not_at_region 15; (first | go_skip | go_guarded | go_step))
      obtain ⟨gp, hgp⟩ : ∃ g, g = wr.heap.size := ⟨_, rfl⟩
      rw [← hgp]
      refine wp_named (fun w' => Ext wr w' ∧ PrAt w' gp p) ⟨(Ext.refl _).alloc (Nat.le_refl _) _, by rw [hgp]; exact heap_new wr _⟩ ?_
      clear hgp q0 q1
      intro w1 HA
      have hps := HG.out.2 p (List.mem_of_getElem? HP.out)
      have ht1 := HI.out.2.ext HA.out.1
      have hM9 := HG.out.1 i
      obtain ⟨c0, c1⟩ := HA.out.2.cells
      obtain ⟨d0, d1', d2'⟩ := ht1.hs.cells
      repeat' (first | go_at_call 43 | go_skip | go_guarded | go_step)
      refine (cputT hk ht1 p (by omega) hps).mono ?_
      rintro e w3 ⟨g3, b3, rfl, f3, t3⟩
      have e := HE.out i p HP.out
      rw [e] at t3
      have H3 : Hid (Ext wr0 w3 ∧ T6 w3 gh h g3 (L.take (i + 1))) := Lib.hid ⟨HI.out.1.trans (HA.out.1.trans f3), t3⟩
      clear f3 t3 e c0 c1 d0 d1' d2' ht1
      go_simp
      repeat' (first | go_skip | go_guarded | go_step)
      go_roundg (n - (i + 1))
      case measure => omega
      case rel => exact ⟨i + 1, g3, rfl, by go_num, by omega, Nat.le_refl _, H3⟩
    · obtain rfl : i = n := by omega
      have d1 : decide (i < i) = false := by simp
      repeat' (first | go_skip | go_guarded | go_step)
      have ht : L.take i = L := List.take_of_length_le (by have := HS.out.1; omega)
      have hI := HI.out
      rw [ht] at hI
      exact HQF.out g2 _ _ _ _ _ _ _ _ _ _ _ _ _ _ _ _ hI

set_option maxRecDepth 100000 in
set_option maxHeartbeats 2000000 in
theorem ord6_31 (wr : World) (gh g : Nat) (h : Hs) (hk : h.Ok) (v16 : Value) (M L : List Pr) (H : Hid (T6 wr gh h g M ∧ PS wr v16 L ∧ ∀ q ∈ L, q.1.length ≤ 40 ∧ q.2.length ≤ 40)) (hX : L.length ≤ 100) (hM : M.length ≤ 100) (c d : Code) (K : Act → World → Prop) (Q : Exit → Act → World → Prop) (t0 t1 t2 t3 t5 t6 t7 t8 t9 t10 t11 t12 t14 t15 t17 t18 t19 t20 t21 t22 t23 t24 t25 t26 t27 t28 t29 t30 t31 t32 t33 t34 t35 t36 t37 t38 t39 t40 t41 t42 t43 t44 t45 t46 t47 t48 t49 t50 t51 t52 t53 t54 t55 t56 t57 t58 t59 t60 t61 t62 t63 t64 t65 t66 t67 t68 t69 t70 t71 t72 t73 t74 t75 t76 t77 t78 t79 t80 t81 t82 t83 t84 t85 t86 t87 t88 t89 t90 t91 t92 t93 t94 t95 t96 t97 t98 t99 t100 t101 t102 t103 t104 t105 t106 t107 t108 t109 t110 t111 t112 t113 t114 t115 t116 t117 t118 t119 t120 t121 t122 t123 t124 t125 t126 t127 t128 t129 t130 t131 t132 t133 t134 t135 t136 t137 t138 t139 t140 t141 t142 t143 t144 t145 t146 t147 t148 t149 t150 t151 t152 t153 t154 t155 t156 t157 t158 t159 t160 t161 t162 t163 t164 t165 t166 t167 t168 t169 t170 t171 t172 t173 t174 t175 t176 t177 t178 t179 t180 t181 t182 t183 t184 t185 t186 t187 : Value)
    (hc : (Try.f13.body.bind (findR 31)) = some c) (hd : (Try.f13.body.bind (findT 31)) = some d)
    (hK : ∀ a w, d.wp Try.prog Q a w → K a w)
    (hQ : ∀ (g2 : Nat) (u22 u122 u123 u124 u125 u126 u127 u128 u129 u130 u131 u132 u133 u134 u135 : Value) (wx : World), Ext wr wx ∧ T6 wx gh h g2 (L.foldl rput M) → Q .normal { tmps := List.toArray (t0 :: t1 :: t2 :: t3 :: (ptr gh) :: t5 :: t6 :: t7 :: t8 :: t9 :: t10 :: t11 :: t12 :: (ptr g2) :: t14 :: t15 :: v16 :: t17 :: t18 :: t19 :: t20 :: t21 :: u22 :: t23 :: t24 :: t25 :: t26 :: t27 :: t28 :: t29 :: t30 :: t31 :: t32 :: t33 :: t34 :: t35 :: t36 :: t37 :: t38 :: t39 :: t40 :: t41 :: t42 :: t43 :: t44 :: t45 :: t46 :: t47 :: t48 :: t49 :: t50 :: t51 :: t52 :: t53 :: t54 :: t55 :: t56 :: t57 :: t58 :: t59 :: t60 :: t61 :: t62 :: t63 :: t64 :: t65 :: t66 :: t67 :: t68 :: t69 :: t70 :: t71 :: t72 :: t73 :: t74 :: t75 :: t76 :: t77 :: t78 :: t79 :: t80 :: t81 :: t82 :: t83 :: t84 :: t85 :: t86 :: t87 :: t88 :: t89 :: t90 :: t91 :: t92 :: t93 :: t94 :: t95 :: t96 :: t97 :: t98 :: t99 :: t100 :: t101 :: t102 :: t103 :: t104 :: t105 :: t106 :: t107 :: t108 :: t109 :: t110 :: t111 :: t112 :: t113 :: t114 :: t115 :: t116 :: t117 :: t118 :: t119 :: t120 :: t121 :: u122 :: u123 :: u124 :: u125 :: u126 :: u127 :: u128 :: u129 :: u130 :: u131 :: u132 :: u133 :: u134 :: u135 :: t136 :: t137 :: t138 :: t139 :: t140 :: t141 :: t142 :: t143 :: t144 :: t145 :: t146 :: t147 :: t148 :: t149 :: t150 :: t151 :: t152 :: t153 :: t154 :: t155 :: t156 :: t157 :: t158 :: t159 :: t160 :: t161 :: t162 :: t163 :: t164 :: t165 :: t166 :: t167 :: t168 :: t169 :: t170 :: t171 :: t172 :: t173 :: t174 :: t175 :: t176 :: t177 :: t178 :: t179 :: t180 :: t181 :: t182 :: t183 :: t184 :: t185 :: t186 :: t187 :: []), defers := [] } wx) :
    c.wp Try.prog (Exit.then K Q) { tmps := List.toArray (t0 :: t1 :: t2 :: t3 :: (ptr gh) :: t5 :: t6 :: t7 :: t8 :: t9 :: t10 :: t11 :: t12 :: (ptr g) :: t14 :: t15 :: v16 :: t17 :: t18 :: t19 :: t20 :: t21 :: t22 :: t23 :: t24 :: t25 :: t26 :: t27 :: t28 :: t29 :: t30 :: t31 :: t32 :: t33 :: t34 :: t35 :: t36 :: t37 :: t38 :: t39 :: t40 :: t41 :: t42 :: t43 :: t44 :: t45 :: t46 :: t47 :: t48 :: t49 :: t50 :: t51 :: t52 :: t53 :: t54 :: t55 :: t56 :: t57 :: t58 :: t59 :: t60 :: t61 :: t62 :: t63 :: t64 :: t65 :: t66 :: t67 :: t68 :: t69 :: t70 :: t71 :: t72 :: t73 :: t74 :: t75 :: t76 :: t77 :: t78 :: t79 :: t80 :: t81 :: t82 :: t83 :: t84 :: t85 :: t86 :: t87 :: t88 :: t89 :: t90 :: t91 :: t92 :: t93 :: t94 :: t95 :: t96 :: t97 :: t98 :: t99 :: t100 :: t101 :: t102 :: t103 :: t104 :: t105 :: t106 :: t107 :: t108 :: t109 :: t110 :: t111 :: t112 :: t113 :: t114 :: t115 :: t116 :: t117 :: t118 :: t119 :: t120 :: t121 :: t122 :: t123 :: t124 :: t125 :: t126 :: t127 :: t128 :: t129 :: t130 :: t131 :: t132 :: t133 :: t134 :: t135 :: t136 :: t137 :: t138 :: t139 :: t140 :: t141 :: t142 :: t143 :: t144 :: t145 :: t146 :: t147 :: t148 :: t149 :: t150 :: t151 :: t152 :: t153 :: t154 :: t155 :: t156 :: t157 :: t158 :: t159 :: t160 :: t161 :: t162 :: t163 :: t164 :: t165 :: t166 :: t167 :: t168 :: t169 :: t170 :: t171 :: t172 :: t173 :: t174 :: t175 :: t176 :: t177 :: t178 :: t179 :: t180 :: t181 :: t182 :: t183 :: t184 :: t185 :: t186 :: t187 :: []), defers := [] } wr := by
  change some _ = some c at hc
  cases hc
  change some _ = some d at hd
  cases hd
  have HQF := Lib.hid hQ
  clear hQ
  obtain ⟨PA, pc, rfl, hl1, hn, hC, hs⟩ := H.out.2.1
  obtain ⟨n, hn2⟩ : ∃ n, n = L.length := ⟨_, rfl⟩
  rw [← hn2] at hn HQF ⊢
  have hn9 : n ≤ 9223372036854775807 := by unfold maxLen at hC; omega
  have HS : Hid (n = L.length ∧ Seg wr PA (flat L)) := Lib.hid ⟨hn2, hs⟩
  have HG : Hid ((∀ i, ((L.take i).foldl rput M).length ≤ 100000) ∧ ∀ q ∈ L, q.1.length ≤ 40 ∧ q.2.length ≤ 40) := Lib.hid ⟨fun i => by have := puts_length (L.take i) M; rw [List.length_take] at this; omega, H.out.2.2⟩
  have HE : Hid (∀ (i : Nat) (p : Pr), L[i]? = some p → rput ((L.take i).foldl rput M) p = (L.take (i + 1)).foldl rput M) := Lib.hid (fun i p hp => by rw [take_snoc hp, List.foldl_append]; rfl)
  have hT := H.out.1
  clear H hs hn2 hl1
  have HT0 := Lib.hid hT
  clear hT
  obtain ⟨wr0, rfl⟩ : ∃ x, x = wr := ⟨_, rfl⟩
  repeat' (go_not_at_region 32; (first | go_skip | go_guarded | go_step))
  go_loopg [13, 124] n (fun gk v13 v124 wx => ∃ (i g2 : Nat), v13 = ptr g2 ∧ v124 = .int .i64 i ∧ i ≤ n ∧ n - i ≤ gk ∧ Hid (Ext wr0 wx ∧ T6 wx gh h g2 ((L.take i).foldl rput M)))
  case atStart => exact ⟨0, g, rfl, rfl, Nat.zero_le _, by omega, Lib.hid ⟨Ext.refl _, HT0.out⟩⟩
  case round =>
    obtain ⟨i, g2, rfl, rfl, hin, hgk, HI⟩ := hrel
    rcases Nat.lt_or_ge i n with hlt | hge
    · have d1 : decide (i < n) = true := by simp [hlt]
      have hi1 : (i : Int) < (n : Int) := by omega
      obtain ⟨p, hp⟩ := get_of_lt L (show i < L.length by have := HS.out.1; omega)
      obtain ⟨b, o, rfl, q0, q1⟩ := seg_pair (HS.out.2.below HI.out.1) hp
      have HP := Lib.hid hp
      clear hp
      repeat' (go_not_at_region 34; (first | go_skip | go_guarded | go_step))
      obtain ⟨gp, hgp⟩ : ∃ g, g = wr.heap.size := ⟨_, rfl⟩
      rw [← hgp]
      refine wp_named (fun w' => Ext wr w' ∧ PrAt w' gp p) ⟨(Ext.refl _).alloc (Nat.le_refl _) _, by rw [hgp]; exact heap_new wr _⟩ ?_
      clear hgp q0 q1
      intro w1 HA
      have hps := HG.out.2 p (List.mem_of_getElem? HP.out)
      have ht1 := HI.out.2.ext HA.out.1
      have hM9 := HG.out.1 i
      obtain ⟨c0, c1⟩ := HA.out.2.cells
      obtain ⟨d0, d1', d2'⟩ := ht1.hs.cells
      repeat' (first | go_at_call 43 | go_skip | go_guarded | go_step)
      refine (cputT hk ht1 p (by omega) hps).mono ?_
      rintro e w3 ⟨g3, b3, rfl, f3, t3⟩
      have e := HE.out i p HP.out
      rw [e] at t3
      have H3 : Hid (Ext wr0 w3 ∧ T6 w3 gh h g3 ((L.take (i + 1)).foldl rput M)) := Lib.hid ⟨HI.out.1.trans (HA.out.1.trans f3), t3⟩
      clear f3 t3 e c0 c1 d0 d1' d2' ht1
      go_simp
      repeat' (first | go_skip | go_guarded | go_step)
      go_roundg (n - (i + 1))
      case measure => omega
      case rel => exact ⟨i + 1, g3, rfl, by go_num, by omega, Nat.le_refl _, H3⟩
    · obtain rfl : i = n := by omega
      have d1 : decide (i < i) = false := by simp
      repeat' (first | go_skip | go_guarded | go_step)
      have ht : L.take i = L := List.take_of_length_le (by have := HS.out.1; omega)
      have hI := HI.out
      rw [ht] at hI
      exact HQF.out g2 _ _ _ _ _ _ _ _ _ _ _ _ _ _ _ _ hI

end Go.Proofs.Ytlgnokhfioglaaa
/- ChampOrders: pairs change places: its third loop: laws of their own. -/
namespace Go.Proofs.Ytlgnokhfioglaaa
open Go.RowKit Go.QS Go.QS.Nk
set_option linter.unusedVariables false

theorem seg_u8 {w : World} {A : Option Addr} {l : List UInt8} (hs : Seg w A (flatE encU l)) {i : Nat} {a : UInt8} (h : l[i]? = some a) : ∃ b o, A = some ⟨b, o, none⟩ ∧ w.cell? ⟨b, o + i, none⟩ = some (.int .u8 a.toNat) := by
  obtain ⟨b, o, hA, hq⟩ := seg_el encU_len (by decide) hs h
  refine ⟨b, o, hA, ?_⟩
  have := hq 0 _ rfl
  rwa [Nat.mul_one, Nat.add_zero] at this

set_option maxRecDepth 100000 in
set_option maxHeartbeats 2000000 in
theorem ord6_23 (W wr : World) (gk n cap i j : Nat) (ki kj : Pr) (Ls : List Pr) (H : Hid (Ext W wr ∧ wr.ownsRow W.heap.size 36 2 (.slice (some ⟨gk, 0, none⟩) n cap) n (flat Ls) ∧ n = Ls.length ∧ Ls[i]? = some ki ∧ Ls[j]? = some kj)) (hn9 : n ≤ 1000) (c : Code) (Q : Exit → Act → World → Prop) (t0 t1 t2 t3 t4 t5 t6 t7 t8 t9 t10 t11 t12 t13 t14 t15 t19 t20 t21 t22 t23 t24 t25 t26 t27 t28 t29 t30 t31 t32 t33 t34 t35 t36 t37 t38 t39 t40 t41 t42 t43 t44 t45 t46 t47 t48 t49 t50 t51 t52 t53 t54 t55 t56 t57 t58 t59 t60 t61 t62 t63 t64 t65 t66 t67 t68 t69 t70 t71 t72 t73 t74 t75 t76 t77 t78 t79 t80 t81 t82 t83 t84 t85 t86 t87 t88 t89 t90 t91 t92 t93 t94 t95 t96 t97 t98 t99 t100 t101 t102 t103 t104 t105 t106 t107 t108 t109 t110 t111 t112 t113 t114 t115 t116 t117 t118 t119 t120 t121 t122 t123 t124 t125 t126 t127 t128 t129 t130 t131 t132 t133 t134 t135 t136 t137 t138 t139 t140 t141 t142 t143 t144 t145 t146 t147 t148 t149 t150 t151 t152 t153 t154 t155 t156 t157 t158 t159 t160 t161 t162 t163 t164 t165 t166 t167 t168 t169 t170 t171 t172 t173 t174 t175 t176 t177 t178 t179 t180 t181 t182 t183 t184 t185 t186 t187 : Value)
    (hc : (Try.f13.body.bind (findR 23)) = some c)
    (hQ : ∀ (u89 u90 u91 u92 u93 u94 u95 u96 u97 u98 u99 u100 u101 u102 : Value) (wx : World), Ext W wx ∧ wx.ownsRow W.heap.size 36 2 (.slice (some ⟨gk, 0, none⟩) n cap) n (flat ((Ls.set i kj).set j ki)) → Q .normal { tmps := List.toArray (t0 :: t1 :: t2 :: t3 :: t4 :: t5 :: t6 :: t7 :: t8 :: t9 :: t10 :: t11 :: t12 :: t13 :: t14 :: t15 :: (.slice (some ⟨gk, 0, none⟩) n cap) :: (.int .i64 i) :: (.int .i64 j) :: t19 :: t20 :: t21 :: t22 :: t23 :: t24 :: t25 :: t26 :: t27 :: t28 :: t29 :: t30 :: t31 :: t32 :: t33 :: t34 :: t35 :: t36 :: t37 :: t38 :: t39 :: t40 :: t41 :: t42 :: t43 :: t44 :: t45 :: t46 :: t47 :: t48 :: t49 :: t50 :: t51 :: t52 :: t53 :: t54 :: t55 :: t56 :: t57 :: t58 :: t59 :: t60 :: t61 :: t62 :: t63 :: t64 :: t65 :: t66 :: t67 :: t68 :: t69 :: t70 :: t71 :: t72 :: t73 :: t74 :: t75 :: t76 :: t77 :: t78 :: t79 :: t80 :: t81 :: t82 :: t83 :: t84 :: t85 :: t86 :: t87 :: t88 :: u89 :: u90 :: u91 :: u92 :: u93 :: u94 :: u95 :: u96 :: u97 :: u98 :: u99 :: u100 :: u101 :: u102 :: t103 :: t104 :: t105 :: t106 :: t107 :: t108 :: t109 :: t110 :: t111 :: t112 :: t113 :: t114 :: t115 :: t116 :: t117 :: t118 :: t119 :: t120 :: t121 :: t122 :: t123 :: t124 :: t125 :: t126 :: t127 :: t128 :: t129 :: t130 :: t131 :: t132 :: t133 :: t134 :: t135 :: t136 :: t137 :: t138 :: t139 :: t140 :: t141 :: t142 :: t143 :: t144 :: t145 :: t146 :: t147 :: t148 :: t149 :: t150 :: t151 :: t152 :: t153 :: t154 :: t155 :: t156 :: t157 :: t158 :: t159 :: t160 :: t161 :: t162 :: t163 :: t164 :: t165 :: t166 :: t167 :: t168 :: t169 :: t170 :: t171 :: t172 :: t173 :: t174 :: t175 :: t176 :: t177 :: t178 :: t179 :: t180 :: t181 :: t182 :: t183 :: t184 :: t185 :: t186 :: t187 :: []), defers := [] } wx) :
    c.wp Try.prog Q { tmps := List.toArray (t0 :: t1 :: t2 :: t3 :: t4 :: t5 :: t6 :: t7 :: t8 :: t9 :: t10 :: t11 :: t12 :: t13 :: t14 :: t15 :: (.slice (some ⟨gk, 0, none⟩) n cap) :: (.int .i64 i) :: (.int .i64 j) :: t19 :: t20 :: t21 :: t22 :: t23 :: t24 :: t25 :: t26 :: t27 :: t28 :: t29 :: t30 :: t31 :: t32 :: t33 :: t34 :: t35 :: t36 :: t37 :: t38 :: t39 :: t40 :: t41 :: t42 :: t43 :: t44 :: t45 :: t46 :: t47 :: t48 :: t49 :: t50 :: t51 :: t52 :: t53 :: t54 :: t55 :: t56 :: t57 :: t58 :: t59 :: t60 :: t61 :: t62 :: t63 :: t64 :: t65 :: t66 :: t67 :: t68 :: t69 :: t70 :: t71 :: t72 :: t73 :: t74 :: t75 :: t76 :: t77 :: t78 :: t79 :: t80 :: t81 :: t82 :: t83 :: t84 :: t85 :: t86 :: t87 :: t88 :: t89 :: t90 :: t91 :: t92 :: t93 :: t94 :: t95 :: t96 :: t97 :: t98 :: t99 :: t100 :: t101 :: t102 :: t103 :: t104 :: t105 :: t106 :: t107 :: t108 :: t109 :: t110 :: t111 :: t112 :: t113 :: t114 :: t115 :: t116 :: t117 :: t118 :: t119 :: t120 :: t121 :: t122 :: t123 :: t124 :: t125 :: t126 :: t127 :: t128 :: t129 :: t130 :: t131 :: t132 :: t133 :: t134 :: t135 :: t136 :: t137 :: t138 :: t139 :: t140 :: t141 :: t142 :: t143 :: t144 :: t145 :: t146 :: t147 :: t148 :: t149 :: t150 :: t151 :: t152 :: t153 :: t154 :: t155 :: t156 :: t157 :: t158 :: t159 :: t160 :: t161 :: t162 :: t163 :: t164 :: t165 :: t166 :: t167 :: t168 :: t169 :: t170 :: t171 :: t172 :: t173 :: t174 :: t175 :: t176 :: t177 :: t178 :: t179 :: t180 :: t181 :: t182 :: t183 :: t184 :: t185 :: t186 :: t187 :: []), defers := [] } wr := by
  change some _ = some c at hc
  cases hc
  have HQF := Lib.hid hQ
  clear hQ
  have hR := H.out.2.1
  have hnl : n = Ls.length := H.out.2.2.1
  have hR0 : Rw W.heap.size 36 wr gk cap Ls := by unfold Rw; rw [← hnl]; exact hR
  obtain ⟨hx1, hx2⟩ := hR0.get H.out.2.2.2.1
  obtain ⟨hy1, hy2⟩ := hR0.get H.out.2.2.2.2
  have hfz := hR0.free
  have hbl := hR0.base_le
  have hil : i < n := by rw [hnl]; exact (List.getElem?_eq_some_iff.1 H.out.2.2.2.1).1
  have hjl : j < n := by rw [hnl]; exact (List.getElem?_eq_some_iff.1 H.out.2.2.2.2).1
  have HF : Hid (_ ∧ _) := Lib.hid ⟨hR0.swap i kj j ki, (((((H.out.1.setCell hbl (str kj.1)).setCell hbl (str kj.2)).setCell hbl (str ki.1)).setCell hbl (str ki.2)) : Below W.heap.size W ((((wr.setCell ⟨gk, i * 2, none⟩ (str kj.1)).setCell ⟨gk, i * 2 + 1, none⟩ (str kj.2)).setCell ⟨gk, j * 2, none⟩ (str ki.1)).setCell ⟨gk, j * 2 + 1, none⟩ (str ki.2)))⟩
  have hi1 : (i : Int) < (n : Int) := by omega
  have hi2 : (j : Int) < (n : Int) := by omega
  have HL : Hid (((Ls.set i kj).set j ki).length = n) := Lib.hid (by simp [hnl])
  clear hR hR0 hbl hnl
  refine Code.wp_mono (Q := fun e a w => match e with | .normal => Q .normal a w | _ => False) (fun e a w h => by cases e <;> first | exact h | exact h.elim) ?_
  by_cases hij : i = j
  · subst hij
    obtain rfl : ki = kj := Option.some.inj (H.out.2.2.2.1.symm.trans H.out.2.2.2.2)
    have q3 : i * 2 + 1 ≠ i * 2 := by omega
    have q5 : i * 2 ≠ i * 2 + 1 := by omega
    repeat' (first | go_skip | go_guarded | go_step)
    go_region
    repeat' (first | go_skip | go_guarded | go_step)
    refine HQF.out _ _ _ _ _ _ _ _ _ _ _ _ _ _ _ ⟨HF.out.2.drew, ?_⟩
    have := HF.out.1.drew
    unfold Rw at this
    rw [HL.out] at this
    exact this
  · have q1 : i ≠ j := hij
    have q2 : j ≠ i := fun e => hij e.symm
    have q3 : i * 2 + 1 ≠ j * 2 := by omega
    have q4 : j * 2 + 1 ≠ i * 2 := by omega
    have q5 : i * 2 ≠ j * 2 + 1 := by omega
    have q6 : j * 2 ≠ i * 2 + 1 := by omega
    clear hij
    repeat' (first | go_skip | go_guarded | go_step)
    go_region
    repeat' (first | go_skip | go_guarded | go_step)
    refine HQF.out _ _ _ _ _ _ _ _ _ _ _ _ _ _ _ ⟨HF.out.2.drew, ?_⟩
    have := HF.out.1.drew
    unfold Rw at this
    rw [HL.out] at this
    exact this

set_option maxRecDepth 100000 in
set_option maxHeartbeats 2000000 in
theorem ord6_18 (W wr : World) (m D : Nat) (B : Option Addr) (v21 : Value) (X : List Pr) (os : List UInt8) (H : Hid (Ext W wr ∧ wr.ownsRow W.heap.size 36 2 v21 X.length (flat X) ∧ Seg W B (flatE encU os) ∧ m = os.length)) (hX : X.length ≤ 1000) (hm9 : m ≤ 9223372036854775807) (c d : Code) (K : Act → World → Prop) (Q : Exit → Act → World → Prop) (t0 t1 t3 t4 t5 t6 t7 t8 t9 t10 t11 t12 t13 t14 t15 t17 t18 t19 t20 t21 t22 t23 t24 t25 t26 t27 t28 t29 t30 t31 t32 t33 t34 t35 t36 t37 t38 t39 t40 t41 t42 t43 t44 t45 t46 t47 t48 t49 t50 t51 t52 t53 t54 t55 t56 t57 t58 t59 t60 t61 t62 t63 t64 t65 t66 t67 t68 t69 t70 t71 t72 t73 t74 t75 t76 t77 t78 t79 t80 t81 t82 t83 t84 t85 t86 t87 t88 t89 t90 t91 t92 t93 t94 t95 t96 t97 t98 t99 t100 t101 t102 t103 t104 t105 t106 t107 t108 t109 t110 t111 t112 t113 t114 t115 t116 t117 t118 t119 t120 t121 t122 t123 t124 t125 t126 t127 t128 t129 t130 t131 t132 t133 t134 t135 t136 t137 t138 t139 t140 t141 t142 t143 t144 t145 t146 t147 t148 t149 t150 t151 t152 t153 t154 t155 t156 t157 t158 t159 t160 t161 t162 t163 t164 t165 t166 t167 t168 t169 t170 t171 t172 t173 t174 t175 t176 t177 t178 t179 t180 t181 t182 t183 t184 t185 t186 t187 : Value)
    (hc : (Try.f13.body.bind (findR 18)) = some c) (hd : (Try.f13.body.bind (findT 18)) = some d)
    (hK : ∀ a w, d.wp Try.prog Q a w → K a w)
    (hQ : ∀ (Ls : List Pr) (u17 u18 u68 u69 u70 u71 u72 u73 u74 u75 u76 u77 u78 u79 u80 u81 u82 u83 u84 u85 u86 u87 u88 u89 u90 u91 u92 u93 u94 u95 u96 u97 u98 u99 u100 u101 u102 u103 : Value) (wx : World), Ext W wx ∧ PS wx v21 Ls ∧ Ls.length = X.length ∧ (∀ k, k ∈ Ls ↔ k ∈ X) → Q .normal { tmps := List.toArray (t0 :: t1 :: (.slice B m D) :: t3 :: t4 :: t5 :: t6 :: t7 :: t8 :: t9 :: t10 :: t11 :: t12 :: t13 :: t14 :: t15 :: v21 :: u17 :: u18 :: t19 :: t20 :: t21 :: t22 :: t23 :: t24 :: t25 :: t26 :: t27 :: t28 :: t29 :: t30 :: t31 :: t32 :: t33 :: t34 :: t35 :: t36 :: t37 :: t38 :: t39 :: t40 :: t41 :: t42 :: t43 :: t44 :: t45 :: t46 :: t47 :: t48 :: t49 :: t50 :: t51 :: t52 :: t53 :: t54 :: t55 :: t56 :: t57 :: t58 :: t59 :: t60 :: t61 :: t62 :: t63 :: t64 :: t65 :: t66 :: t67 :: u68 :: u69 :: u70 :: u71 :: u72 :: u73 :: u74 :: u75 :: u76 :: u77 :: u78 :: u79 :: u80 :: u81 :: u82 :: u83 :: u84 :: u85 :: u86 :: u87 :: u88 :: u89 :: u90 :: u91 :: u92 :: u93 :: u94 :: u95 :: u96 :: u97 :: u98 :: u99 :: u100 :: u101 :: u102 :: u103 :: t104 :: t105 :: t106 :: t107 :: t108 :: t109 :: t110 :: t111 :: t112 :: t113 :: t114 :: t115 :: t116 :: t117 :: t118 :: t119 :: t120 :: t121 :: t122 :: t123 :: t124 :: t125 :: t126 :: t127 :: t128 :: t129 :: t130 :: t131 :: t132 :: t133 :: t134 :: t135 :: t136 :: t137 :: t138 :: t139 :: t140 :: t141 :: t142 :: t143 :: t144 :: t145 :: t146 :: t147 :: t148 :: t149 :: t150 :: t151 :: t152 :: t153 :: t154 :: t155 :: t156 :: t157 :: t158 :: t159 :: t160 :: t161 :: t162 :: t163 :: t164 :: t165 :: t166 :: t167 :: t168 :: t169 :: t170 :: t171 :: t172 :: t173 :: t174 :: t175 :: t176 :: t177 :: t178 :: t179 :: t180 :: t181 :: t182 :: t183 :: t184 :: t185 :: t186 :: t187 :: []), defers := [] } wx) :
    c.wp Try.prog (Exit.then K Q) { tmps := List.toArray (t0 :: t1 :: (.slice B m D) :: t3 :: t4 :: t5 :: t6 :: t7 :: t8 :: t9 :: t10 :: t11 :: t12 :: t13 :: t14 :: t15 :: v21 :: t17 :: t18 :: t19 :: t20 :: t21 :: t22 :: t23 :: t24 :: t25 :: t26 :: t27 :: t28 :: t29 :: t30 :: t31 :: t32 :: t33 :: t34 :: t35 :: t36 :: t37 :: t38 :: t39 :: t40 :: t41 :: t42 :: t43 :: t44 :: t45 :: t46 :: t47 :: t48 :: t49 :: t50 :: t51 :: t52 :: t53 :: t54 :: t55 :: t56 :: t57 :: t58 :: t59 :: t60 :: t61 :: t62 :: t63 :: t64 :: t65 :: t66 :: t67 :: t68 :: t69 :: t70 :: t71 :: t72 :: t73 :: t74 :: t75 :: t76 :: t77 :: t78 :: t79 :: t80 :: t81 :: t82 :: t83 :: t84 :: t85 :: t86 :: t87 :: t88 :: t89 :: t90 :: t91 :: t92 :: t93 :: t94 :: t95 :: t96 :: t97 :: t98 :: t99 :: t100 :: t101 :: t102 :: t103 :: t104 :: t105 :: t106 :: t107 :: t108 :: t109 :: t110 :: t111 :: t112 :: t113 :: t114 :: t115 :: t116 :: t117 :: t118 :: t119 :: t120 :: t121 :: t122 :: t123 :: t124 :: t125 :: t126 :: t127 :: t128 :: t129 :: t130 :: t131 :: t132 :: t133 :: t134 :: t135 :: t136 :: t137 :: t138 :: t139 :: t140 :: t141 :: t142 :: t143 :: t144 :: t145 :: t146 :: t147 :: t148 :: t149 :: t150 :: t151 :: t152 :: t153 :: t154 :: t155 :: t156 :: t157 :: t158 :: t159 :: t160 :: t161 :: t162 :: t163 :: t164 :: t165 :: t166 :: t167 :: t168 :: t169 :: t170 :: t171 :: t172 :: t173 :: t174 :: t175 :: t176 :: t177 :: t178 :: t179 :: t180 :: t181 :: t182 :: t183 :: t184 :: t185 :: t186 :: t187 :: []), defers := [] } wr := by
  change some _ = some c at hc
  cases hc
  change some _ = some d at hd
  cases hd
  have HQF := Lib.hid hQ
  clear hQ
  obtain ⟨KA, kc, rfl⟩ := own_slice' H.out.2.1
  obtain ⟨n, hn⟩ : ∃ n, n = X.length := ⟨_, rfl⟩
  rw [← hn] at H HQF ⊢
  have hn9 : n ≤ 1000 := by rw [hn]; exact hX
  have HN : Hid (n = X.length) := Lib.hid hn
  clear hn hX
  repeat' (go_not_at_region 19; (first | go_skip | go_guarded | go_step))
  go_loopg [70] n (fun gk v70 wx => ∃ (i : Nat) (Ls : List Pr), v70 = .int .i64 i ∧ i ≤ n ∧ n - i ≤ gk ∧ Hid (Ext W wx ∧ wx.ownsRow W.heap.size 36 2 (.slice KA n kc) n (flat Ls) ∧ Ls.length = n ∧ ∀ k, k ∈ Ls ↔ k ∈ X))
  case atStart => exact ⟨0, X, rfl, Nat.zero_le _, by omega, Lib.hid ⟨H.out.1, H.out.2.1, HN.out.symm, fun k => Iff.rfl⟩⟩
  case round =>
    obtain ⟨i, Ls, rfl, hin, hgk, HI⟩ := hrel
    rcases Nat.lt_or_ge i n with hlt | hge
    · have d1 : decide (i < n) = true := by simp [hlt]
      have hi1 : (i : Int) < (n : Int) := by omega
      by_cases h20 : i < m
      · have d2 : decide (i < m) = true := by simp [h20]
        have hi2 : (i : Int) < (m : Int) := by omega
        obtain ⟨c, hc⟩ := get_of_lt os (show i < os.length by have := H.out.2.2.2; omega)
        obtain ⟨b, o, rfl, hq⟩ := seg_u8 (H.out.2.2.1.below HI.out.1) hc
        clear hc
        repeat' (go_not_at_region 23; (first | go_skip | go_guarded | go_step))
        obtain ⟨j, hj⟩ : ∃ j, j = i + c.toNat % (n - i) := ⟨_, rfl⟩
        have hjn : j < n := by have := Nat.mod_lt c.toNat (show 0 < n - i by omega); omega
        have hjv : wrap64 (↑i + (wrap64 ↑c.toNat).tmod (↑n - ↑i)) = (j : Int) := by
          have hc9 := c.toNat_lt
          have e1 : wrap64 (c.toNat : Int) = c.toNat := by unfold wrap64; omega
          have e2 : ((n : Int) - (i : Int)) = ((n - i : Nat) : Int) := by omega
          rw [e1, e2, ← Int.ofNat_tmod, ← Int.natCast_add, ← hj]
          unfold wrap64; omega
        rw [hjv]
        obtain ⟨ki, hki⟩ := get_of_lt Ls (show i < Ls.length by have := HI.out.2.2.1; omega)
        obtain ⟨kj, hkj⟩ := get_of_lt Ls (show j < Ls.length by have := HI.out.2.2.1; omega)
        rcases HI.out.2.1.2 with ⟨h0, _⟩ | ⟨gb, cp, cur, h0, _⟩
        · cases h0; omega
        simp only [Value.slice.injEq] at h0
        obtain ⟨rfl, _, rfl⟩ := h0
        have HM := Lib.hid (mem_swap hki hkj)
        rename_i K hK
        refine ord6_23 _ _ gb n kc i j ki kj Ls (Lib.hid ⟨HI.out.1, HI.out.2.1, HI.out.2.2.1.symm, hki, hkj⟩) hn9 _ _ _ _ _ _ _ _ _ _ _ _ _ _ _ _ _ _ _ _ _ _ _ _ _ _ _ _ _ _ _ _ _ _ _ _ _ _ _ _ _ _ _ _ _ _ _ _ _ _ _ _ _ _ _ _ _ _ _ _ _ _ _ _ _ _ _ _ _ _ _ _ _ _ _ _ _ _ _ _ _ _ _ _ _ _ _ _ _ _ _ _ _ _ _ _ _ _ _ _ _ _ _ _ _ _ _ _ _ _ _ _ _ _ _ _ _ _ _ _ _ _ _ _ _ _ _ _ _ _ _ _ _ _ _ _ _ _ _ _ _ _ _ _ _ _ _ _ _ _ _ _ _ _ _ _ _ _ _ _ _ _ _ _ _ _ _ _ _ _ _ _ _ _ _ _ _ _ _ _ _ _ _ _ _ _ _ (by kernel_rfl) ?_
        intro z89 z90 z91 z92 z93 z94 z95 z96 z97 z98 z99 z100 z101 z102 wy hpo
        have H6 := Lib.hid hpo
        clear hpo hki hkj
        repeat' (first | go_skip | go_guarded | go_step)
        go_roundg (n - (i + 1))
        case measure => omega
        case rel => exact ⟨i + 1, _, by go_num, by omega, Nat.le_refl _, Lib.hid ⟨H6.out.1, H6.out.2, by simp; exact HI.out.2.2.1, fun k => (HM.out k).trans (HI.out.2.2.2 k)⟩⟩
      · have d2 : decide (i < m) = false := by simp; omega
        repeat' (first | go_skip | go_guarded | go_step)
        go_roundg (n - (i + 1))
        case measure => omega
        case rel => exact ⟨i + 1, Ls, by go_num, by omega, Nat.le_refl _, HI⟩
    · obtain rfl : i = n := by omega
      have d1 : decide (i < i) = false := by simp
      repeat' (first | go_skip | go_guarded | go_step)
      exact HQF.out Ls _ _ _ _ _ _ _ _ _ _ _ _ _ _ _ _ _ _ _ _ _ _ _ _ _ _ _ _ _ _ _ _ _ _ _ _ _ _ _ ⟨HI.out.1, PS.of_own HI.out.2.1, HI.out.2.2.1, HI.out.2.2.2⟩

end Go.Proofs.Ytlgnokhfioglaaa
/- ChampOrders: what comes and goes: its fourth loop: a law of its own. -/
namespace Go.Proofs.Ytlgnokhfioglaaa
open Go.RowKit Go.QS Go.QS.Nk
set_option linter.unusedVariables false

set_option maxRecDepth 100000 in
set_option maxHeartbeats 2000000 in
theorem ord6_25 (wr : World) (gh g n C : Nat) (h : Hs) (hk : h.Ok) (A : Option Addr) (l : List Pr) (H : Hid (T6 wr gh h g [] ∧ Seg wr A (flat l) ∧ n = l.length)) (hn9 : n ≤ 9223372036854775807) (c d : Code) (K : Act → World → Prop) (Q : Exit → Act → World → Prop) (t0 t1 t2 t5 t6 t7 t8 t9 t10 t11 t12 t14 t15 t16 t17 t18 t19 t20 t21 t22 t23 t24 t25 t26 t27 t28 t29 t30 t31 t32 t33 t34 t35 t36 t37 t38 t39 t40 t41 t42 t43 t44 t45 t46 t47 t48 t49 t50 t51 t52 t53 t54 t55 t56 t57 t58 t59 t60 t61 t62 t63 t64 t65 t66 t67 t68 t69 t70 t71 t72 t73 t74 t75 t76 t77 t78 t79 t80 t81 t82 t83 t84 t85 t86 t87 t88 t89 t90 t91 t92 t93 t94 t95 t96 t97 t98 t99 t100 t101 t102 t103 t104 t105 t106 t107 t108 t109 t110 t111 t112 t113 t114 t115 t116 t117 t118 t119 t120 t121 t122 t123 t124 t125 t126 t127 t128 t129 t130 t131 t132 t133 t134 t135 t136 t137 t138 t139 t140 t141 t142 t143 t144 t145 t146 t147 t148 t149 t150 t151 t152 t153 t154 t155 t156 t157 t158 t159 t160 t161 t162 t163 t164 t165 t166 t167 t168 t169 t170 t171 t172 t173 t174 t175 t176 t177 t178 t179 t180 t181 t182 t183 t184 t185 t186 t187 : Value)
    (hc : (Try.f13.body.bind (findR 25)) = some c) (hd : (Try.f13.body.bind (findT 25)) = some d)
    (hK : ∀ a w, d.wp Try.prog Q a w → K a w)
    (hQ : ∀ (g2 : Nat) (M : List Pr) (u19 u20 u104 u105 u106 u107 u108 u109 u110 u111 u112 u113 u114 u115 u116 u117 u118 u119 u120 u121 : Value) (wx : World), Ext wr wx ∧ T6 wx gh h g2 M ∧ (∀ q ∈ M, GoneK l q.1) ∧ M.length ≤ 20 → Q .normal { tmps := List.toArray (t0 :: t1 :: t2 :: (.slice A n C) :: (ptr gh) :: t5 :: t6 :: t7 :: t8 :: t9 :: t10 :: t11 :: t12 :: (ptr g2) :: t14 :: t15 :: t16 :: t17 :: t18 :: u19 :: u20 :: t21 :: t22 :: t23 :: t24 :: t25 :: t26 :: t27 :: t28 :: t29 :: t30 :: t31 :: t32 :: t33 :: t34 :: t35 :: t36 :: t37 :: t38 :: t39 :: t40 :: t41 :: t42 :: t43 :: t44 :: t45 :: t46 :: t47 :: t48 :: t49 :: t50 :: t51 :: t52 :: t53 :: t54 :: t55 :: t56 :: t57 :: t58 :: t59 :: t60 :: t61 :: t62 :: t63 :: t64 :: t65 :: t66 :: t67 :: t68 :: t69 :: t70 :: t71 :: t72 :: t73 :: t74 :: t75 :: t76 :: t77 :: t78 :: t79 :: t80 :: t81 :: t82 :: t83 :: t84 :: t85 :: t86 :: t87 :: t88 :: t89 :: t90 :: t91 :: t92 :: t93 :: t94 :: t95 :: t96 :: t97 :: t98 :: t99 :: t100 :: t101 :: t102 :: t103 :: u104 :: u105 :: u106 :: u107 :: u108 :: u109 :: u110 :: u111 :: u112 :: u113 :: u114 :: u115 :: u116 :: u117 :: u118 :: u119 :: u120 :: u121 :: t122 :: t123 :: t124 :: t125 :: t126 :: t127 :: t128 :: t129 :: t130 :: t131 :: t132 :: t133 :: t134 :: t135 :: t136 :: t137 :: t138 :: t139 :: t140 :: t141 :: t142 :: t143 :: t144 :: t145 :: t146 :: t147 :: t148 :: t149 :: t150 :: t151 :: t152 :: t153 :: t154 :: t155 :: t156 :: t157 :: t158 :: t159 :: t160 :: t161 :: t162 :: t163 :: t164 :: t165 :: t166 :: t167 :: t168 :: t169 :: t170 :: t171 :: t172 :: t173 :: t174 :: t175 :: t176 :: t177 :: t178 :: t179 :: t180 :: t181 :: t182 :: t183 :: t184 :: t185 :: t186 :: t187 :: []), defers := [] } wx) :
    c.wp Try.prog (Exit.then K Q) { tmps := List.toArray (t0 :: t1 :: t2 :: (.slice A n C) :: (ptr gh) :: t5 :: t6 :: t7 :: t8 :: t9 :: t10 :: t11 :: t12 :: (ptr g) :: t14 :: t15 :: t16 :: t17 :: t18 :: t19 :: t20 :: t21 :: t22 :: t23 :: t24 :: t25 :: t26 :: t27 :: t28 :: t29 :: t30 :: t31 :: t32 :: t33 :: t34 :: t35 :: t36 :: t37 :: t38 :: t39 :: t40 :: t41 :: t42 :: t43 :: t44 :: t45 :: t46 :: t47 :: t48 :: t49 :: t50 :: t51 :: t52 :: t53 :: t54 :: t55 :: t56 :: t57 :: t58 :: t59 :: t60 :: t61 :: t62 :: t63 :: t64 :: t65 :: t66 :: t67 :: t68 :: t69 :: t70 :: t71 :: t72 :: t73 :: t74 :: t75 :: t76 :: t77 :: t78 :: t79 :: t80 :: t81 :: t82 :: t83 :: t84 :: t85 :: t86 :: t87 :: t88 :: t89 :: t90 :: t91 :: t92 :: t93 :: t94 :: t95 :: t96 :: t97 :: t98 :: t99 :: t100 :: t101 :: t102 :: t103 :: t104 :: t105 :: t106 :: t107 :: t108 :: t109 :: t110 :: t111 :: t112 :: t113 :: t114 :: t115 :: t116 :: t117 :: t118 :: t119 :: t120 :: t121 :: t122 :: t123 :: t124 :: t125 :: t126 :: t127 :: t128 :: t129 :: t130 :: t131 :: t132 :: t133 :: t134 :: t135 :: t136 :: t137 :: t138 :: t139 :: t140 :: t141 :: t142 :: t143 :: t144 :: t145 :: t146 :: t147 :: t148 :: t149 :: t150 :: t151 :: t152 :: t153 :: t154 :: t155 :: t156 :: t157 :: t158 :: t159 :: t160 :: t161 :: t162 :: t163 :: t164 :: t165 :: t166 :: t167 :: t168 :: t169 :: t170 :: t171 :: t172 :: t173 :: t174 :: t175 :: t176 :: t177 :: t178 :: t179 :: t180 :: t181 :: t182 :: t183 :: t184 :: t185 :: t186 :: t187 :: []), defers := [] } wr := by
  change some _ = some c at hc
  cases hc
  change some _ = some d at hd
  cases hd
  have HQF := Lib.hid hQ
  clear hQ
  obtain ⟨wr0, rfl⟩ : ∃ x, x = wr := ⟨_, rfl⟩
  repeat' (go_not_at_region 26; (first | go_skip | go_guarded | go_step))
  go_loopg [13, 106] n (fun gk v13 v106 wx => ∃ (i g2 : Nat) (M : List Pr), v13 = ptr g2 ∧ v106 = .int .i64 i ∧ i ≤ n ∧ n - i ≤ gk ∧ (M.length ≤ i ∧ M.length ≤ 20) ∧ Hid (Ext wr0 wx ∧ T6 wx gh h g2 M ∧ ∀ q ∈ M, GoneK l q.1))
  case atStart => exact ⟨0, g, [], rfl, rfl, Nat.zero_le _, by omega, by simp, Lib.hid ⟨Ext.refl _, H.out.1, fun q hq => by cases hq⟩⟩
  case round =>
    obtain ⟨i, g2, M, rfl, rfl, hin, hgk, hM9, HI⟩ := hrel
    rcases Nat.lt_or_ge i n with hlt | hge
    · have d1 : decide (i < n) = true := by simp [hlt]
      have hi1 : (i : Int) < (n : Int) := by omega
      obtain ⟨p, hp⟩ := get_of_lt l (show i < l.length by have := H.out.2.2; omega)
      obtain ⟨b, o, rfl, q0, q1⟩ := seg_pair (H.out.2.1.below HI.out.1) hp
      have HP := Lib.hid hp
      clear hp
      repeat' (go_not_at_region 28; (first | go_skip | go_guarded | go_step))
      obtain ⟨gp, hgp⟩ : ∃ g, g = wr.heap.size := ⟨_, rfl⟩
      rw [← hgp]
      refine wp_named (fun w' => Ext wr w' ∧ PrAt w' gp p) ⟨(Ext.refl _).alloc (Nat.le_refl _) _, by rw [hgp]; exact heap_new wr _⟩ ?_
      clear hgp q0 q1
      intro w1 HA
      by_cases h20 : i < 20
      · have d2 : decide (i < 20) = true := by simp [h20]
        have d2' : decide ((i : Int) < 20) = true := by simp; omega
        obtain ⟨q, hq⟩ : ∃ q, q = cutP p := ⟨_, rfl⟩
        have hql : q.1.length ≤ 40 ∧ q.2.length ≤ 40 := by rw [hq]; exact cutP_short _
        have HF : Hid (∀ W, Calls Try.prog 39 #[prV p] W fun e w' => e = .returned (prV q) ∧ Ext W w') := Lib.hid (fun W => by rw [hq]; exact fewp_c W p)
        have HQ := Lib.hid hq
        clear hq
        have HT := Lib.hid (HI.out.2.1.ext HA.out.1)
        have HB := Lib.hid HA.out.2
        obtain ⟨c0, c1⟩ := HB.out.cells
        obtain ⟨e0, e1, e2⟩ := HT.out.hs.cells
        have hB : Hid (w1.cell? ⟨gp, 0, none⟩ = some (str p.1) ∧ w1.cell? ⟨gp, 1, none⟩ = some (str p.2) ∧ w1.cell? ⟨gh, 0, none⟩ = some (.int .u64 h.k0) ∧ w1.cell? ⟨gh, 1, none⟩ = some (.int .u64 h.k1) ∧ w1.cell? ⟨gh, 2, none⟩ = some (.int .u64 h.mask)) := Lib.hid ⟨c0, c1, e0, e1, e2⟩
        repeat' (go_not_at_region 29; (first | go_skip | go_guarded | go_step))
        go_region_held3 (fun w' => w'.cell? ⟨gp, 0, none⟩ = some (str p.1) ∧ w'.cell? ⟨gp, 1, none⟩ = some (str p.2) ∧ w'.cell? ⟨gh, 0, none⟩ = some (.int .u64 h.k0) ∧ w'.cell? ⟨gh, 1, none⟩ = some (.int .u64 h.k1) ∧ w'.cell? ⟨gh, 2, none⟩ = some (.int .u64 h.mask))
          (first | exact keep5c k3.out hB.out | exact keep5c (by repeat' (first | exact k2.out | exact Ext.refl _ | apply ext_alloc | apply ext_drew | exact below_drewN (Ext.refl _) _)) hB.out | exact keep5c (by repeat' (first | exact Ext.refl _ | apply ext_alloc | apply ext_drew | exact below_drewN (Ext.refl _) _)) hB.out)
          (first
            | (go_at_call 39; refine (HF.out _).mono ?_; rintro e x2 ⟨rfl, f2⟩; have k2 : Hid (Ext w1 x2) := Lib.hid (Ext.trans (by repeat' (first | exact Ext.refl _ | apply ext_alloc | apply ext_drew | exact below_drewN (Ext.refl _) _)) f2); clear f2)
            | (go_at_call 43; refine (cputT hk (HT.out.ext k2.out) q (by omega) hql).mono ?_; rintro e x3 ⟨g3, b3, rfl, f3, t3⟩; have k3 : Hid (Ext w1 x3) := Lib.hid (k2.out.trans f3); have K3 : Hid (T6 x3 gh h g3 (rput M q)) := Lib.hid t3; clear f3 t3))
        repeat' (first | go_skip | go_guarded | go_step)
        go_roundg (n - (i + 1))
        case measure => omega
        case rel => 
          refine ⟨i + 1, g3, _, rfl, by go_num, by omega, Nat.le_refl _, by have := rput_length M q; omega, Lib.hid ⟨HI.out.1.trans (HA.out.1.trans k3.out), K3.out, fun x hx => ?_⟩⟩
          rcases mem_rput.1 hx with rfl | ⟨hx, _⟩
          · exact ⟨i, p, h20, HP.out, by rw [HQ.out]⟩
          · exact HI.out.2.2 x hx
      · have d2 : decide (i < 20) = false := by simp; omega
        have d2' : decide ((i : Int) < 20) = false := by simp; omega
        repeat' (first | go_skip | go_guarded | go_step)
        go_roundg (n - (i + 1))
        case measure => omega
        case rel => exact ⟨i + 1, g2, M, rfl, by go_num, by omega, Nat.le_refl _, by omega, Lib.hid ⟨HI.out.1.trans HA.out.1, HI.out.2.1.ext HA.out.1, HI.out.2.2⟩⟩
    · obtain rfl : i = n := by omega
      have d1 : decide (i < i) = false := by simp
      repeat' (first | go_skip | go_guarded | go_step)
      exact HQF.out g2 M _ _ _ _ _ _ _ _ _ _ _ _ _ _ _ _ _ _ _ _ _ ⟨HI.out.1, HI.out.2.1, HI.out.2.2, hM9.2⟩

end Go.Proofs.Ytlgnokhfioglaaa
/- ChampOrders: what came goes; what is left, as the document has it: its sixth and seventh loops: laws of their own. -/
namespace Go.Proofs.Ytlgnokhfioglaaa
open Go.RowKit Go.QS Go.QS.Nk
set_option linter.unusedVariables false

set_option maxRecDepth 100000 in
set_option maxHeartbeats 2000000 in
theorem ord6_36 (wr : World) (gh g n C : Nat) (h : Hs) (hk : h.Ok) (A : Option Addr) (v9 : Value) (X M l : List Pr) (H : Hid (T6 wr gh h g M ∧ Seg wr A (flat l) ∧ n = l.length)) (HX : Hid (PS wr v9 X ∧ Rise X)) (hX : X.length ≤ 1000) (hM : M.length ≤ 1000) (hn9 : n ≤ 9223372036854775807) (c d : Code) (K : Act → World → Prop) (Q : Exit → Act → World → Prop) (t0 t1 t2 t5 t6 t7 t8 t10 t11 t12 t14 t15 t16 t17 t18 t19 t20 t21 t22 t23 t24 t25 t26 t27 t28 t29 t30 t31 t32 t33 t34 t35 t36 t37 t38 t39 t40 t41 t42 t43 t44 t45 t46 t47 t48 t49 t50 t51 t52 t53 t54 t55 t56 t57 t58 t59 t60 t61 t62 t63 t64 t65 t66 t67 t68 t69 t70 t71 t72 t73 t74 t75 t76 t77 t78 t79 t80 t81 t82 t83 t84 t85 t86 t87 t88 t89 t90 t91 t92 t93 t94 t95 t96 t97 t98 t99 t100 t101 t102 t103 t104 t105 t106 t107 t108 t109 t110 t111 t112 t113 t114 t115 t116 t117 t118 t119 t120 t121 t122 t123 t124 t125 t126 t127 t128 t129 t130 t131 t132 t133 t134 t135 t136 t137 t138 t139 t140 t141 t142 t143 t144 t145 t146 t147 t148 t149 t150 t151 t152 t153 t154 t155 t156 t157 t158 t159 t160 t161 t162 t163 t164 t165 t166 t167 t168 t169 t170 t171 t172 t173 t174 t175 t176 t177 t178 t179 t180 t181 t182 t183 t184 t185 t186 t187 : Value)
    (hc : (Try.f13.body.bind (findR 36)) = some c) (hd : (Try.f13.body.bind (findT 36)) = some d)
    (hK : ∀ a w, d.wp Try.prog Q a w → K a w)
    (hQ : ∀ (g2 : Nat) (N : List Pr) (u23 u24 u25 u26 u136 u137 u138 u139 u140 u141 u142 u143 u144 u145 u146 u147 u148 u149 u150 u151 u152 u153 u154 u155 u156 u157 u158 u159 u160 u161 u162 u163 u164 u165 u166 : Value) (wx : World), Ext wr wx ∧ T6 wx gh h g2 N ∧ (∀ q ∈ X, q ∈ M → q ∈ N) ∧ (∀ q ∈ N, q ∈ M) ∧ (∀ q ∈ N, GoneK l q.1 → hasK X q.1 = true) → Q .normal { tmps := List.toArray (t0 :: t1 :: t2 :: (.slice A n C) :: (ptr gh) :: t5 :: t6 :: t7 :: t8 :: v9 :: t10 :: t11 :: t12 :: (ptr g2) :: t14 :: t15 :: t16 :: t17 :: t18 :: t19 :: t20 :: t21 :: t22 :: u23 :: u24 :: u25 :: u26 :: t27 :: t28 :: t29 :: t30 :: t31 :: t32 :: t33 :: t34 :: t35 :: t36 :: t37 :: t38 :: t39 :: t40 :: t41 :: t42 :: t43 :: t44 :: t45 :: t46 :: t47 :: t48 :: t49 :: t50 :: t51 :: t52 :: t53 :: t54 :: t55 :: t56 :: t57 :: t58 :: t59 :: t60 :: t61 :: t62 :: t63 :: t64 :: t65 :: t66 :: t67 :: t68 :: t69 :: t70 :: t71 :: t72 :: t73 :: t74 :: t75 :: t76 :: t77 :: t78 :: t79 :: t80 :: t81 :: t82 :: t83 :: t84 :: t85 :: t86 :: t87 :: t88 :: t89 :: t90 :: t91 :: t92 :: t93 :: t94 :: t95 :: t96 :: t97 :: t98 :: t99 :: t100 :: t101 :: t102 :: t103 :: t104 :: t105 :: t106 :: t107 :: t108 :: t109 :: t110 :: t111 :: t112 :: t113 :: t114 :: t115 :: t116 :: t117 :: t118 :: t119 :: t120 :: t121 :: t122 :: t123 :: t124 :: t125 :: t126 :: t127 :: t128 :: t129 :: t130 :: t131 :: t132 :: t133 :: t134 :: t135 :: u136 :: u137 :: u138 :: u139 :: u140 :: u141 :: u142 :: u143 :: u144 :: u145 :: u146 :: u147 :: u148 :: u149 :: u150 :: u151 :: u152 :: u153 :: u154 :: u155 :: u156 :: u157 :: u158 :: u159 :: u160 :: u161 :: u162 :: u163 :: u164 :: u165 :: u166 :: t167 :: t168 :: t169 :: t170 :: t171 :: t172 :: t173 :: t174 :: t175 :: t176 :: t177 :: t178 :: t179 :: t180 :: t181 :: t182 :: t183 :: t184 :: t185 :: t186 :: t187 :: []), defers := [] } wx) :
    c.wp Try.prog (Exit.then K Q) { tmps := List.toArray (t0 :: t1 :: t2 :: (.slice A n C) :: (ptr gh) :: t5 :: t6 :: t7 :: t8 :: v9 :: t10 :: t11 :: t12 :: (ptr g) :: t14 :: t15 :: t16 :: t17 :: t18 :: t19 :: t20 :: t21 :: t22 :: t23 :: t24 :: t25 :: t26 :: t27 :: t28 :: t29 :: t30 :: t31 :: t32 :: t33 :: t34 :: t35 :: t36 :: t37 :: t38 :: t39 :: t40 :: t41 :: t42 :: t43 :: t44 :: t45 :: t46 :: t47 :: t48 :: t49 :: t50 :: t51 :: t52 :: t53 :: t54 :: t55 :: t56 :: t57 :: t58 :: t59 :: t60 :: t61 :: t62 :: t63 :: t64 :: t65 :: t66 :: t67 :: t68 :: t69 :: t70 :: t71 :: t72 :: t73 :: t74 :: t75 :: t76 :: t77 :: t78 :: t79 :: t80 :: t81 :: t82 :: t83 :: t84 :: t85 :: t86 :: t87 :: t88 :: t89 :: t90 :: t91 :: t92 :: t93 :: t94 :: t95 :: t96 :: t97 :: t98 :: t99 :: t100 :: t101 :: t102 :: t103 :: t104 :: t105 :: t106 :: t107 :: t108 :: t109 :: t110 :: t111 :: t112 :: t113 :: t114 :: t115 :: t116 :: t117 :: t118 :: t119 :: t120 :: t121 :: t122 :: t123 :: t124 :: t125 :: t126 :: t127 :: t128 :: t129 :: t130 :: t131 :: t132 :: t133 :: t134 :: t135 :: t136 :: t137 :: t138 :: t139 :: t140 :: t141 :: t142 :: t143 :: t144 :: t145 :: t146 :: t147 :: t148 :: t149 :: t150 :: t151 :: t152 :: t153 :: t154 :: t155 :: t156 :: t157 :: t158 :: t159 :: t160 :: t161 :: t162 :: t163 :: t164 :: t165 :: t166 :: t167 :: t168 :: t169 :: t170 :: t171 :: t172 :: t173 :: t174 :: t175 :: t176 :: t177 :: t178 :: t179 :: t180 :: t181 :: t182 :: t183 :: t184 :: t185 :: t186 :: t187 :: []), defers := [] } wr := by
  change some _ = some c at hc
  cases hc
  change some _ = some d at hd
  cases hd
  have HQF := Lib.hid hQ
  clear hQ
  obtain ⟨wr0, rfl⟩ : ∃ x, x = wr := ⟨_, rfl⟩
  repeat' (go_not_at_region 37; (first | go_skip | go_guarded | go_step))
  go_loopg [13, 138] n (fun gk v13 v138 wx => ∃ (i g2 : Nat) (N : List Pr), v13 = ptr g2 ∧ v138 = .int .i64 i ∧ i ≤ n ∧ n - i ≤ gk ∧ N.length ≤ 1000 ∧ Hid (Ext wr0 wx ∧ T6 wx gh h g2 N ∧ (∀ q ∈ X, q ∈ M → q ∈ N) ∧ (∀ q ∈ N, q ∈ M) ∧ ∀ (j : Nat) (p : Pr), j < i → j < 20 → l[j]? = some p → hasK X (cutP p).1 = false → ∀ q ∈ N, q.1 ≠ (cutP p).1))
  case atStart => exact ⟨0, g, M, rfl, rfl, Nat.zero_le _, by omega, hM, Lib.hid ⟨Ext.refl _, H.out.1, fun q _ h => h, fun q h => h, fun j p hj => by omega⟩⟩
  case round =>
    obtain ⟨i, g2, N, rfl, rfl, hin, hgk, hN9, HI⟩ := hrel
    rcases Nat.lt_or_ge i n with hlt | hge
    · have d1 : decide (i < n) = true := by simp [hlt]
      have hi1 : (i : Int) < (n : Int) := by omega
      obtain ⟨p, hp⟩ := get_of_lt l (show i < l.length by have := H.out.2.2; omega)
      obtain ⟨b, o, rfl, q0, q1⟩ := seg_pair (H.out.2.1.below HI.out.1) hp
      have HP := Lib.hid hp
      clear hp
      repeat' (go_not_at_region 39; (first | go_skip | go_guarded | go_step))
      obtain ⟨gp, hgp⟩ : ∃ g, g = wr.heap.size := ⟨_, rfl⟩
      rw [← hgp]
      refine wp_named (fun w' => Ext wr w' ∧ PrAt w' gp p) ⟨(Ext.refl _).alloc (Nat.le_refl _) _, by rw [hgp]; exact heap_new wr _⟩ ?_
      clear hgp q0 q1
      intro w1 HA
      obtain ⟨q, hq⟩ : ∃ q, q = cutP p := ⟨_, rfl⟩
      have hql : q.1.length ≤ 40 ∧ q.2.length ≤ 40 := by rw [hq]; exact cutP_short _
      have HF : Hid (∀ W, Calls Try.prog 39 #[prV p] W fun e w' => e = .returned (prV q) ∧ Ext W w') := Lib.hid (fun W => by rw [hq]; exact fewp_c W p)
      have HQ := Lib.hid hq
      clear hq
      obtain ⟨c0, c1⟩ := HA.out.2.cells
      repeat' (first | go_at_call 39 | go_skip | go_guarded | go_step)
      refine (HF.out _).mono ?_
      rintro e w2 ⟨rfl, f2⟩
      have H2 : Hid (Ext wr w2 ∧ PrAt w2 gp p) := Lib.hid ⟨HA.out.1.trans f2, HA.out.2.ext f2⟩
      have hfl := fieldP (str q.1) (str q.2)
      have hF := Pch.find_c w2 v9 X q.1 (HX.out.1.below (HI.out.1.trans H2.out.1)) HX.out.2 (by omega)
      obtain ⟨fi, hfi⟩ : ∃ u, u = fndI X q.1 := ⟨_, rfl⟩
      obtain ⟨th, hth⟩ : ∃ th, th = hasK X q.1 := ⟨_, rfl⟩
      rw [← hfi, ← hth] at hF
      have HFd := Lib.hid hF
      have HT9 : Hid (hasK X q.1 = th) := Lib.hid hth.symm
      clear hF hfi hth f2 c0 c1
      go_simp
      repeat' (first | go_at_call 51 | go_skip | go_guarded | go_step)
      refine HFd.out.mono ?_
      rintro e w3 ⟨rfl, f3⟩
      have H3 : Hid (Ext wr w3 ∧ PrAt w3 gp p) := Lib.hid ⟨H2.out.1.trans f3, H2.out.2.ext f3⟩
      clear f3 HFd H2
      go_simp
      repeat' (go_not_at_region 40; (first | go_skip | go_guarded | go_step))
      by_cases h20 : i < 20
      · have d2 : decide (i < 20) = true := by simp [h20]
        have d2' : decide ((i : Int) < 20) = true := by simp; omega
        cases th with
        | true =>
          repeat' (first | go_skip | go_guarded | go_step)
          go_roundg (n - (i + 1))
          case measure => omega
          case rel => exact ⟨i + 1, g2, N, rfl, by go_num, by omega, Nat.le_refl _, hN9, Lib.hid ⟨HI.out.1.trans H3.out.1, HI.out.2.1.ext H3.out.1, HI.out.2.2.1, HI.out.2.2.2.1, fun j x hj hj2 hx hk => by
          rcases Nat.lt_or_eq_of_le (Nat.le_of_lt_succ hj) with h | rfl
          · exact HI.out.2.2.2.2 j x h hj2 hx hk
          · rw [HP.out] at hx
            cases hx
            have hh := HT9.out
            rw [HQ.out, hk] at hh
            cases hh⟩⟩
        | false =>
          have HT := Lib.hid (HI.out.2.1.ext H3.out.1)
          have HB := Lib.hid H3.out.2
          obtain ⟨c0, c1⟩ := HB.out.cells
          obtain ⟨e0, e1, e2⟩ := HT.out.hs.cells
          have hB : Hid (w3.cell? ⟨gp, 0, none⟩ = some (str p.1) ∧ w3.cell? ⟨gp, 1, none⟩ = some (str p.2) ∧ w3.cell? ⟨gh, 0, none⟩ = some (.int .u64 h.k0) ∧ w3.cell? ⟨gh, 1, none⟩ = some (.int .u64 h.k1) ∧ w3.cell? ⟨gh, 2, none⟩ = some (.int .u64 h.mask)) := Lib.hid ⟨c0, c1, e0, e1, e2⟩
          repeat' (go_not_at_region 41; (first | go_skip | go_guarded | go_step))
          go_region_held3 (fun w' => w'.cell? ⟨gp, 0, none⟩ = some (str p.1) ∧ w'.cell? ⟨gp, 1, none⟩ = some (str p.2) ∧ w'.cell? ⟨gh, 0, none⟩ = some (.int .u64 h.k0) ∧ w'.cell? ⟨gh, 1, none⟩ = some (.int .u64 h.k1) ∧ w'.cell? ⟨gh, 2, none⟩ = some (.int .u64 h.mask))
            (first | exact keep5c k3.out hB.out | exact keep5c (by repeat' (first | exact k2.out | exact Ext.refl _ | apply ext_alloc | apply ext_drew | exact below_drewN (Ext.refl _) _)) hB.out | exact keep5c (by repeat' (first | exact Ext.refl _ | apply ext_alloc | apply ext_drew | exact below_drewN (Ext.refl _) _)) hB.out)
            (first
              | (go_at_call 39; refine (HF.out _).mono ?_; rintro e x2 ⟨rfl, f2⟩; have k2 : Hid (Ext w3 x2) := Lib.hid (Ext.trans (by repeat' (first | exact Ext.refl _ | apply ext_alloc | apply ext_drew | exact below_drewN (Ext.refl _) _)) f2); clear f2)
              | (go_at_call 41; refine (cdropT hk (HT.out.ext k2.out) q.1 (by omega) hql.1).mono ?_; rintro e x3 ⟨g3, b3, rfl, f3, t3⟩; have k3 : Hid (Ext w3 x3) := Lib.hid (k2.out.trans f3); have K3 : Hid (T6 x3 gh h g3 (rdrop N q.1)) := Lib.hid t3; clear f3 t3))
          repeat' (first | go_skip | go_guarded | go_step)
          go_roundg (n - (i + 1))
          case measure => omega
          case rel =>
            refine ⟨i + 1, g3, _, rfl, by go_num, by omega, Nat.le_refl _, Nat.le_trans (rdrop_length _ _) hN9, Lib.hid ⟨HI.out.1.trans (H3.out.1.trans k3.out), K3.out, fun x hx hm => ?_, fun x hx => ?_, fun j x hj hj2 hx hk y hy => ?_⟩⟩
            · refine mem_rdrop.2 ⟨HI.out.2.2.1 x hx hm, fun e => ?_⟩
              have hh := HT9.out
              rw [← e] at hh
              have : hasK X x.1 = true := hasK_iff.2 ⟨x, hx, rfl⟩
              rw [hh] at this; cases this
            · exact HI.out.2.2.2.1 x (mem_rdrop.1 hx).1
            · rcases Nat.lt_or_eq_of_le (Nat.le_of_lt_succ hj) with h | rfl
              · exact HI.out.2.2.2.2 j x h hj2 hx hk y (mem_rdrop.1 hy).1
              · rw [HP.out] at hx
                cases hx
                have := (mem_rdrop.1 hy).2
                rw [HQ.out] at this
                exact this
      · have d2 : decide (i < 20) = false := by simp; omega
        have d2' : decide ((i : Int) < 20) = false := by simp; omega
        repeat' (first | go_skip | go_guarded | go_step)
        go_roundg (n - (i + 1))
        case measure => omega
        case rel => exact ⟨i + 1, g2, N, rfl, by go_num, by omega, Nat.le_refl _, hN9, Lib.hid ⟨HI.out.1.trans H3.out.1, HI.out.2.1.ext H3.out.1, HI.out.2.2.1, HI.out.2.2.2.1, fun j x hj hj2 hx hk => by
          rcases Nat.lt_or_eq_of_le (Nat.le_of_lt_succ hj) with h | rfl
          · exact HI.out.2.2.2.2 j x h hj2 hx hk
          · omega⟩⟩
    · obtain rfl : i = n := by omega
      have d1 : decide (i < i) = false := by simp
      repeat' (first | go_skip | go_guarded | go_step)
      have HE : Hid (∀ q ∈ N, GoneK l q.1 → hasK X q.1 = true) := Lib.hid (by
        intro q hq hg
        obtain ⟨j, p, hj, hp, e⟩ := hg
        cases hh : hasK X q.1 with
        | true => rfl
        | false =>
          exfalso
          refine HI.out.2.2.2.2 j p ?_ hj hp (by rw [← e]; exact hh) q hq e
          have := (List.getElem?_eq_some_iff.1 hp).1
          have := H.out.2.2
          omega)
      exact HQF.out g2 N _ _ _ _ _ _ _ _ _ _ _ _ _ _ _ _ _ _ _ _ _ _ _ _ _ _ _ _ _ _ _ _ _ _ _ _ ⟨HI.out.1, HI.out.2.1, HI.out.2.2.1, HI.out.2.2.2.1, HE.out⟩

set_option maxRecDepth 100000 in
set_option maxHeartbeats 2000000 in
theorem ord6_44 (wr : World) (v9 : Value) (L : List Pr) (H : Hid (PS wr v9 L)) (hX : L.length ≤ 100) (c d : Code) (K : Act → World → Prop) (Q : Exit → Act → World → Prop) (t0 t1 t2 t3 t4 t5 t6 t7 t8 t10 t11 t12 t13 t14 t15 t16 t17 t18 t19 t20 t21 t22 t23 t24 t25 t26 t28 t29 t30 t31 t32 t33 t34 t35 t36 t37 t38 t39 t40 t41 t42 t43 t44 t45 t46 t47 t48 t49 t50 t51 t52 t53 t54 t55 t56 t57 t58 t59 t60 t61 t62 t63 t64 t65 t66 t67 t68 t69 t70 t71 t72 t73 t74 t75 t76 t77 t78 t79 t80 t81 t82 t83 t84 t85 t86 t87 t88 t89 t90 t91 t92 t93 t94 t95 t96 t97 t98 t99 t100 t101 t102 t103 t104 t105 t106 t107 t108 t109 t110 t111 t112 t113 t114 t115 t116 t117 t118 t119 t120 t121 t122 t123 t124 t125 t126 t127 t128 t129 t130 t131 t132 t133 t134 t135 t136 t137 t138 t139 t140 t141 t142 t143 t144 t145 t146 t147 t148 t149 t150 t151 t152 t153 t154 t155 t156 t157 t158 t159 t160 t161 t162 t163 t164 t165 t166 t167 t168 t169 t170 t171 t172 t173 t174 t175 t176 t177 t178 t179 t180 t181 t182 t183 t184 t185 t186 t187 : Value)
    (hc : (Try.f13.body.bind (findR 44)) = some c) (hd : (Try.f13.body.bind (findT 44)) = some d)
    (hK : ∀ a w, d.wp Try.prog Q a w → K a w)
    (hQ : ∀ (v2 : Value) (u29 u167 u168 u169 u170 u171 u172 u173 u174 u175 u176 u177 : Value) (wx : World), Ext wr wx ∧ PS wx v2 L → Q .normal { tmps := List.toArray (t0 :: t1 :: t2 :: t3 :: t4 :: t5 :: t6 :: t7 :: t8 :: v9 :: t10 :: t11 :: t12 :: t13 :: t14 :: t15 :: t16 :: t17 :: t18 :: t19 :: t20 :: t21 :: t22 :: t23 :: t24 :: t25 :: t26 :: v2 :: t28 :: u29 :: t30 :: t31 :: t32 :: t33 :: t34 :: t35 :: t36 :: t37 :: t38 :: t39 :: t40 :: t41 :: t42 :: t43 :: t44 :: t45 :: t46 :: t47 :: t48 :: t49 :: t50 :: t51 :: t52 :: t53 :: t54 :: t55 :: t56 :: t57 :: t58 :: t59 :: t60 :: t61 :: t62 :: t63 :: t64 :: t65 :: t66 :: t67 :: t68 :: t69 :: t70 :: t71 :: t72 :: t73 :: t74 :: t75 :: t76 :: t77 :: t78 :: t79 :: t80 :: t81 :: t82 :: t83 :: t84 :: t85 :: t86 :: t87 :: t88 :: t89 :: t90 :: t91 :: t92 :: t93 :: t94 :: t95 :: t96 :: t97 :: t98 :: t99 :: t100 :: t101 :: t102 :: t103 :: t104 :: t105 :: t106 :: t107 :: t108 :: t109 :: t110 :: t111 :: t112 :: t113 :: t114 :: t115 :: t116 :: t117 :: t118 :: t119 :: t120 :: t121 :: t122 :: t123 :: t124 :: t125 :: t126 :: t127 :: t128 :: t129 :: t130 :: t131 :: t132 :: t133 :: t134 :: t135 :: t136 :: t137 :: t138 :: t139 :: t140 :: t141 :: t142 :: t143 :: t144 :: t145 :: t146 :: t147 :: t148 :: t149 :: t150 :: t151 :: t152 :: t153 :: t154 :: t155 :: t156 :: t157 :: t158 :: t159 :: t160 :: t161 :: t162 :: t163 :: t164 :: t165 :: t166 :: u167 :: u168 :: u169 :: u170 :: u171 :: u172 :: u173 :: u174 :: u175 :: u176 :: u177 :: t178 :: t179 :: t180 :: t181 :: t182 :: t183 :: t184 :: t185 :: t186 :: t187 :: []), defers := [] } wx) :
    c.wp Try.prog (Exit.then K Q) { tmps := List.toArray (t0 :: t1 :: t2 :: t3 :: t4 :: t5 :: t6 :: t7 :: t8 :: v9 :: t10 :: t11 :: t12 :: t13 :: t14 :: t15 :: t16 :: t17 :: t18 :: t19 :: t20 :: t21 :: t22 :: t23 :: t24 :: t25 :: t26 :: (.slice none 0 0) :: t28 :: t29 :: t30 :: t31 :: t32 :: t33 :: t34 :: t35 :: t36 :: t37 :: t38 :: t39 :: t40 :: t41 :: t42 :: t43 :: t44 :: t45 :: t46 :: t47 :: t48 :: t49 :: t50 :: t51 :: t52 :: t53 :: t54 :: t55 :: t56 :: t57 :: t58 :: t59 :: t60 :: t61 :: t62 :: t63 :: t64 :: t65 :: t66 :: t67 :: t68 :: t69 :: t70 :: t71 :: t72 :: t73 :: t74 :: t75 :: t76 :: t77 :: t78 :: t79 :: t80 :: t81 :: t82 :: t83 :: t84 :: t85 :: t86 :: t87 :: t88 :: t89 :: t90 :: t91 :: t92 :: t93 :: t94 :: t95 :: t96 :: t97 :: t98 :: t99 :: t100 :: t101 :: t102 :: t103 :: t104 :: t105 :: t106 :: t107 :: t108 :: t109 :: t110 :: t111 :: t112 :: t113 :: t114 :: t115 :: t116 :: t117 :: t118 :: t119 :: t120 :: t121 :: t122 :: t123 :: t124 :: t125 :: t126 :: t127 :: t128 :: t129 :: t130 :: t131 :: t132 :: t133 :: t134 :: t135 :: t136 :: t137 :: t138 :: t139 :: t140 :: t141 :: t142 :: t143 :: t144 :: t145 :: t146 :: t147 :: t148 :: t149 :: t150 :: t151 :: t152 :: t153 :: t154 :: t155 :: t156 :: t157 :: t158 :: t159 :: t160 :: t161 :: t162 :: t163 :: t164 :: t165 :: t166 :: t167 :: t168 :: t169 :: t170 :: t171 :: t172 :: t173 :: t174 :: t175 :: t176 :: t177 :: t178 :: t179 :: t180 :: t181 :: t182 :: t183 :: t184 :: t185 :: t186 :: t187 :: []), defers := [] } wr := by
  change some _ = some c at hc
  cases hc
  change some _ = some d at hd
  cases hd
  have HQF := Lib.hid hQ
  clear hQ
  obtain ⟨PA, pc, rfl, hl1, hn, hC, hs⟩ := H.out
  obtain ⟨n, hn2⟩ : ∃ n, n = L.length := ⟨_, rfl⟩
  rw [← hn2] at hn HQF ⊢
  have hn9 : n ≤ 9223372036854775807 := by unfold maxLen at hC; omega
  have HS : Hid (n = L.length ∧ Seg wr PA (flat L)) := Lib.hid ⟨hn2, hs⟩
  clear H hs hn2 hl1
  obtain ⟨wr0, rfl⟩ : ∃ x, x = wr := ⟨_, rfl⟩
  repeat' (go_not_at_region 45; (first | go_skip | go_guarded | go_step))
  go_loopg [27, 169] n (fun gk v27 v169 wx => ∃ i : Nat, v169 = .int .i64 i ∧ i ≤ n ∧ n - i ≤ gk ∧ Hid (Ext wr0 wx ∧ wx.ownsRow wr0.heap.size 86 2 v27 (L.take i).length (flat (L.take i))))
  case atStart => exact ⟨0, rfl, Nat.zero_le _, by omega, Lib.hid ⟨Ext.refl _, World.ownsRow_nil _ _ _ _⟩⟩
  case round =>
    obtain ⟨i, rfl, hin, hgk, HI⟩ := hrel
    rcases Nat.lt_or_ge i n with hlt | hge
    · have d1 : decide (i < n) = true := by simp [hlt]
      have hi1 : (i : Int) < (n : Int) := by omega
      obtain ⟨p, hp⟩ := get_of_lt L (show i < L.length by have := HS.out.1; omega)
      obtain ⟨b, o, rfl, q0, q1⟩ := seg_pair (HS.out.2.below HI.out.1) hp
      have HP := Lib.hid hp
      clear hp
      repeat' (go_not_at_region 47; (first | go_skip | go_guarded | go_step))
      obtain ⟨gp, hgp⟩ : ∃ g, g = wr.heap.size := ⟨_, rfl⟩
      rw [← hgp]
      refine wp_named (fun w' => Ext wr w' ∧ PrAt w' gp p) ⟨(Ext.refl _).alloc (Nat.le_refl _) _, by rw [hgp]; exact heap_new wr _⟩ ?_
      clear hgp q0 q1
      intro w1 HA
      obtain ⟨c0, c1⟩ := HA.out.2.cells
      have hE2 : Ext wr (w1.alloc (.cells #[str p.1, str p.2] 86)) := HA.out.1.trans ((Ext.refl _).alloc (Nat.le_refl _) _)
      have HO : Hid (_ ∧ _) := Lib.hid ⟨row_ext HI.out.2 hE2, HI.out.1.trans hE2⟩
      have hcl : (L.take i).length ≤ 100 := by rw [List.length_take]; omega
      clear hE2
      repeat' (first | (at_builtin; refine wpList_appE (W := _) rfl (.tmp 173) (.tmp 175) _ rfl 86 2 32 Try.underlying76 infoRx (by decide) _ _ _ rfl HO.out.1 HO.out.2 _ 1 1 [str p.1, str p.2] rfl rfl (Seg.new _ [_, _] _ (by simp)) (by intro u hu; simp at hu; rcases hu with rfl | rfl <;> rfl) (by unfold maxLen; omega) (by omega) ?_; intro v5 w5 hown5 hb5) | go_skip | go_guarded | go_step)
      have H5 : Hid (Ext _ w5 ∧ w5.ownsRow _ 86 2 v5 (L.take (i + 1)).length (flat (L.take (i + 1)))) := Lib.hid ⟨hb5, by rw [take_snoc HP.out, List.length_append, flat_append]; exact hown5⟩
      clear hown5 hb5 hcl
      go_roundg (n - (i + 1))
      case measure => omega
      case rel => exact ⟨i + 1, by go_num, by omega, Nat.le_refl _, H5⟩
    · obtain rfl : i = n := by omega
      have d1 : decide (i < i) = false := by simp
      repeat' (first | go_skip | go_guarded | go_step)
      have ht : L.take i = L := List.take_of_length_le (by have := HS.out.1; omega)
      have hI := HI.out
      rw [ht] at hI
      exact HQF.out _ _ _ _ _ _ _ _ _ _ _ _ _ _ ⟨hI.1, PS.of_own hI.2⟩

end Go.Proofs.Ytlgnokhfioglaaa
