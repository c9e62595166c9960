/- Texts joined. -/
import Derived.Test.YtigoffdehdobiaaGreatCxg
set_option linter.unusedVariables false
set_option linter.unusedSimpArgs false
/- The document's ReadChanges: what is known in a round; the round from its flags on. -/
namespace Go.Proofs.YtigoffdehdobiaaGreat
open Go.RowKit Go.QS Go.QS.Nk
set_option linter.unusedVariables false

theorem infoRc : ∃ i z, Tryz.prog.info? RcT = some i ∧ i.zero = some z ∧ i.size = 5 ∧ i.bytes = 56 ∧ z.cells.size = 5 := info_of (z := .agg #[.string ⟨#[]⟩, .string ⟨#[]⟩, .string ⟨#[]⟩, .bool false, .bool false]) (by kernel_rfl) rfl
theorem RefAt.grown {V : Nat → Prop} {x B : Nat} {w w' : World} {P l : List UInt8} {e : Nat} {r : Option Nat} (h : RefAt V x w P l e) (k : w.grownBy w' r) (hr : ∀ b, r = some b → B ≤ b) (hg : x < B) (hV : ∀ b, V b → b < B) : RefAt V x w' P l e := by
  cases r with
  | none => exact h.ext (ext_grown k)
  | some b =>
    have hb := hr b rfl
    exact h.one (g := b) ⟨k.os, k.tape, k.output, k.size, fun j hj hne => k.block j hj (fun e => hne (Option.some.inj e))⟩ (by omega) (fun y hy => by have := hV y hy; omega)

/-- Changes that the document reads, one by one. -/
structure RfSt (V : Nat → Prop) (x B : Nat) (w0 w : World) (P : List UInt8) (v : Value) (acc : List Ch) (s : St2) : Prop where
  inn : RefAt V x w P s.1 s.2
  ext : Ext w0 w
  row : w.ownsRow B RcT 5 v acc.length (flatE encCh acc)
  lt : x < B
  old : ∀ b, V b → b < B
  new : w0.heap.size ≤ x
  size : B ≤ w.heap.size
/-- .. and one of them. -/
structure RgSt (V : Nat → Prop) (x B g7 : Nat) (w0 w : World) (P : List UInt8) (v : Value) (acc : List Ch) (s : St2) (c : Ch) : Prop where
  st : RfSt V x B w0 w P v acc s
  box : w.heap[g7]? = some (.cells #[str c.1, str c.2.1, str c.2.2.1, .bool c.2.2.2.1, .bool c.2.2.2.2] RcT (0, 0))
  new7 : B ≤ g7
  ne : ∀ b, v.ownBlock = some b → b ≠ g7
section
variable {V : Nat → Prop} {x B g7 : Nat} {w0 w w' : World} {P : List UInt8} {v : Value} {acc : List Ch} {s s' : St2} {c : Ch}
theorem RfSt.turn (h : RfSt V x B w0 w P v acc s) (hI : RefAt V x w' P s'.1 s'.2) (k : One x w w') : RfSt V x B w0 w' P v acc s' :=
  ⟨hI, One.ext k h.ext h.new, row_one h.row k h.lt, h.lt, h.old, h.new, Nat.le_trans h.size k.size⟩
theorem RgSt.turn (h : RgSt V x B g7 w0 w P v acc s c) (hI : RefAt V x w' P s'.1 s'.2) (k : One x w w') : RgSt V x B g7 w0 w' P v acc s' c :=
  ⟨h.st.turn hI k, k.heap h.box (by have := h.st.lt; have := h.new7; omega), h.new7, h.ne⟩
theorem RgSt.set (h : RgSt V x B g7 w0 w P v acc s c) (i : Nat) (u : Value) {c' : Ch}
    (hb : ∀ y : World, y.heap[g7]? = some (.cells #[str c.1, str c.2.1, str c.2.2.1, .bool c.2.2.2.1, .bool c.2.2.2.2] RcT (0, 0)) → (y.setCell ⟨g7, i, none⟩ u).heap[g7]? = some (.cells #[str c'.1, str c'.2.1, str c'.2.2.1, .bool c'.2.2.2.1, .bool c'.2.2.2.2] RcT (0, 0))) :
    RgSt V x B g7 w0 (w.setCell ⟨g7, i, none⟩ u) P v acc s c' := by
  have h1 := h.st.lt
  have h2 := h.new7
  have h3 := h.st.new
  have hO : One g7 w (w.setCell ⟨g7, i, none⟩ u) := (One.refl w).setCell i u
  refine ⟨⟨h.st.inn.one hO (by omega) (fun b hb => by have := h.st.old b hb; omega), h.st.ext.setCell (p := ⟨g7, i, none⟩) (by show w0.heap.size ≤ g7; omega) u, ?_, h.st.lt, h.st.old, h.st.new, Nat.le_trans h.st.size hO.size⟩, hb w h.box, h.new7, h.ne⟩
  refine ⟨h.st.row.1, ?_⟩
  rcases h.st.row.2 with h | ⟨b, cap, cur, e1, e2, e3, e4⟩
  · exact .inl h
  · exact .inr ⟨b, cap, cur, e1, e2, hO.heap e3 (h.ne b (by rw [e1]; rfl)), e4⟩
end

/-- A change more in the row. -/
theorem grow5 {V : Nat → Prop} {x B g7 na : Nat} {w0 w w9 : World} {P : List UInt8} {v v9 : Value} {acc : List Ch} {s : St2} {c : Ch} {o : Obj} (h : RgSt V x B g7 w0 w P v acc s c) (r : w9.ownsRow B RcT 5 v9 (na + 1) (flatE encCh acc ++ encCh c)) (g : (w.alloc o).grownBy w9 v.ownBlock) (hn : na = acc.length) :
    RfSt V x B w0 w9 P v9 (acc ++ [c]) s := by
  subst hn
  have hEa : Ext w (w.alloc o) := (Ext.refl _).alloc (Nat.le_refl _) _
  have hlt5 : ∀ b, v.ownBlock = some b → B ≤ b := fun b hb => (World.ownsRow.lt h.st.row b hb).1
  exact ⟨(h.st.inn.ext hEa).grown g hlt5 h.st.lt h.st.old, (Ext.trans h.st.ext hEa).grown g (Ext.trans h.st.ext hEa).size (fun b hb => by have := hlt5 b hb; have := h.st.new; have := h.st.lt; omega),
    by rw [flatE_snoc, List.length_append]; exact r, h.st.lt, h.st.old, h.st.new, Nat.le_trans h.st.size (Nat.le_trans hEa.size g.size)⟩

set_option maxRecDepth 100000 in
set_option maxHeartbeats 4000000 in
theorem rround_10 (V : Nat → Prop) (x B g7 na : Nat) (w0 wr : World) (P : List UInt8) (v5 : Value) (acc : List Ch) (s3 : St2) (k : List UInt8) (b : Nat) (hb : b < 256) (hP9 : P.length ≤ 1000000000) (hac : na ≤ 100000000) (HNa : Hid (na = acc.length)) (HS : Hid (RgSt V x B g7 w0 wr P v5 acc s3 (k, [], [], false, false))) (c d : Code) (K : Act → World → Prop) (QX : Exit → Act → World → Prop) (t0 t1 t2 t3 t6 t9 t10 t11 t12 t13 t14 t15 t16 t17 t18 t19 t20 t21 t22 t23 t24 t25 t26 t27 t28 t29 t30 t31 t32 t33 t34 t35 t36 t37 t38 t39 t40 t41 t42 t43 t44 t45 t46 t47 t48 t49 t50 t51 t52 t53 t54 t55 t56 t57 t58 t59 t60 t61 t62 t63 t64 t65 t66 t67 t68 t69 t70 t71 : Value)
    (hc : (Tryz.f9.body.bind (findR 10)) = some c) (hd : (Tryz.f9.body.bind (findT 10)) = some d)
    (hK : ∀ a w, d.wp Tryz.prog QX a w → K a w)
    (hQ : ∀  (u5 u40 u41 u42 u43 u44 u45 u46 u47 u48 u49 u50 u51 u52 u53 u54 u55 u56 u57 u58 u59 u60 : Value) (wx : World), RfSt V x B w0 wx P u5 (acc ++ [(rdT b (isD b) k s3).1]) (rdT b (isD b) k s3).2 → QX .normal { tmps := List.toArray (t0 :: t1 :: t2 :: t3 :: (ptr x) :: u5 :: t6 :: (ptr g7) :: (.int .u8 (b : Int)) :: t9 :: t10 :: t11 :: t12 :: t13 :: t14 :: t15 :: t16 :: t17 :: t18 :: t19 :: t20 :: t21 :: t22 :: t23 :: t24 :: t25 :: t26 :: t27 :: t28 :: t29 :: t30 :: t31 :: t32 :: t33 :: t34 :: t35 :: t36 :: t37 :: t38 :: t39 :: u40 :: u41 :: u42 :: u43 :: u44 :: u45 :: u46 :: u47 :: u48 :: u49 :: u50 :: u51 :: u52 :: u53 :: u54 :: u55 :: u56 :: u57 :: u58 :: u59 :: u60 :: t61 :: t62 :: t63 :: t64 :: t65 :: t66 :: t67 :: t68 :: t69 :: t70 :: t71 :: []), defers := [] } wx) :
    c.wp Tryz.prog (Exit.then K QX) { tmps := List.toArray (t0 :: t1 :: t2 :: t3 :: (ptr x) :: v5 :: t6 :: (ptr g7) :: (.int .u8 (b : Int)) :: t9 :: t10 :: t11 :: t12 :: t13 :: t14 :: t15 :: t16 :: t17 :: t18 :: t19 :: t20 :: t21 :: t22 :: t23 :: t24 :: t25 :: t26 :: t27 :: t28 :: t29 :: t30 :: t31 :: t32 :: t33 :: t34 :: t35 :: t36 :: t37 :: t38 :: t39 :: t40 :: t41 :: t42 :: t43 :: t44 :: t45 :: t46 :: t47 :: t48 :: t49 :: t50 :: t51 :: t52 :: t53 :: t54 :: t55 :: t56 :: t57 :: t58 :: t59 :: t60 :: t61 :: t62 :: t63 :: t64 :: t65 :: t66 :: t67 :: t68 :: t69 :: t70 :: t71 :: []), defers := [] } wr := by
  change some _ = some c at hc
  cases hc
  change some _ = some d at hd
  cases hd
  have HQF := Lib.hid hQ
  clear hQ
  have hA1 : (b : Int) % 2 = ((b % 2 : Nat) : Int) := by omega
  obtain ⟨q1, hq1⟩ : ∃ q, q = b % 2 := ⟨_, rfl⟩
  rw [← hq1] at hA1
  obtain ⟨W, hW⟩ : ∃ W, W = decide (b % 2 = 1) := ⟨_, rfl⟩
  obtain ⟨I, hI⟩ : ∃ I, I = isD b := ⟨_, rfl⟩
  rw [← hI] at HQF
  have HR := Lib.hid (rdT_eq W I b k s3 hW)
  have d1 : ((q1 : Int) == 1) = W := by rw [hW, Bool.eq_iff_iff, beq_iff_eq, decide_eq_true_eq]; omega
  have d1' : (q1 == 1) = W := by rw [hW, Bool.eq_iff_iff, beq_iff_eq, decide_eq_true_eq]; omega
  have d2 : decide (1 < b) = I := by rw [hI]; rfl
  have d2' : decide ((1 : Int) < (b : Int)) = I := by rw [hI]; unfold isD; rw [decide_eq_decide]; omega
  clear hq1 hW hI hb
  obtain ⟨e0, e1, e2, e3, e4⟩ := box5C HS.out.box
  have f1 := freeG HS.out.box 1
  have f2 := freeG HS.out.box 2
  have f3 := freeG HS.out.box 3
  have f4 := freeG HS.out.box 4
  have l3 := heap_lt HS.out.box
  repeat' (go_not_at_region 11; (first | go_skip | go_guarded | go_step))
  refine wp_nameF (fun w' => RgSt V x B g7 w0 w' P v5 acc s3 (k, [], [], W, I)) ((HS.out.set 3 (.bool W) (c' := (k, [], [], W, false)) (fun x hx => heap_set hx 3 _)).set 4 (.bool I) (c' := (k, [], [], W, I)) (fun x hx => heap_set hx 4 _)) ?_
  clear HS d1 d1' d2 d2' hA1
  clear e0 e1 e2 e3 e4 f1 f2 f3 f4 l3
  intro w5 HS
  obtain ⟨e0, e1, e2, e3, e4⟩ := box5C HS.out.box
  have f1 := freeG HS.out.box 1
  have f2 := freeG HS.out.box 2
  have f3 := freeG HS.out.box 3
  have f4 := freeG HS.out.box 4
  have l3 := heap_lt HS.out.box
  cases W with
  | false =>
    repeat' (go_not_at_region 13; (first | go_skip | go_guarded | go_step))
    cases I with
    | false =>
      have hEa : ∀ y : World, Ext y (y.alloc (.cells (encCh (k, [], [], false, false)).toArray RcT)) := fun y => (Ext.refl y).alloc (Nat.le_refl _) _
      repeat' (first | go_skip | go_guarded | (at_builtin; refine wpList_app rfl (.tmp 57) (.tmp 59) _ rfl B RcT 5 56 Tryz.underlying29 infoRc (by decide) v5 na (flatE encCh acc) rfl (by rw [HNa.out]; exact (HS.out.st.row.alloc _)) _ 1 1 (encCh (k, [], [], false, false)) rfl rfl (Seg.new _ [_, _, _, _, _] _ (by simp)) (encCh_one _) (by unfold maxLen; omega) (by omega) (Nat.le_trans HS.out.st.size (by simp)) ?_; intro v9 w9 r9 g9 _) | go_step)
      have hr := HR.out
      simp only [Bool.false_eq_true, if_false, if_true] at hr
      refine HQF.out _ _ _ _ _ _ _ _ _ _ _ _ _ _ _ _ _ _ _ _ _ _ _ ?_
      rw [hr]
      exact grow5 HS.out r9 g9 HNa.out
    | true =>
      have HT := Lib.hid (rtext_c HS.out.st.inn hP9 4096 3 (by decide))
      repeat' (first | go_at_call 36 | go_skip | go_guarded | go_step)
      refine HT.out.mono ?_
      rintro e w7 ⟨rfl, i6, o6⟩
      have HS7 := Lib.hid (HS.out.turn (s' := (sText 4096 3 (s3)).2) i6 o6)
      clear i6 o6 HT HS
      clear e0 e1 e2 e3 e4 f1 f2 f3 f4 l3
      obtain ⟨e0, e1, e2, e3, e4⟩ := box5C HS7.out.box
      have f2 := freeG HS7.out.box 2
      have l3 := heap_lt HS7.out.box
      go_simp
      repeat' (go_not_at_region 15; (first | go_skip | go_guarded | go_step))
      refine wp_nameF (fun w' => RgSt V x B g7 w0 w' P v5 acc (sText 4096 3 (s3)).2 (k, [], (sText 4096 3 s3).1, false, true)) (HS7.out.set 2 _ (c' := (k, [], (sText 4096 3 s3).1, false, true)) (fun x hx => heap_set hx 2 _)) ?_
      clear HS7 e0 e1 e2 e3 e4 f2 l3
      intro w8 HS
      obtain ⟨e0, e1, e2, e3, e4⟩ := box5C HS.out.box
      have f1 := freeG HS.out.box 1
      have f2 := freeG HS.out.box 2
      have f3 := freeG HS.out.box 3
      have f4 := freeG HS.out.box 4
      have l3 := heap_lt HS.out.box
      have hEa : ∀ y : World, Ext y (y.alloc (.cells (encCh (k, [], (sText 4096 3 s3).1, false, true)).toArray RcT)) := fun y => (Ext.refl y).alloc (Nat.le_refl _) _
      repeat' (first | go_skip | go_guarded | (at_builtin; refine wpList_app rfl (.tmp 57) (.tmp 59) _ rfl B RcT 5 56 Tryz.underlying29 infoRc (by decide) v5 na (flatE encCh acc) rfl (by rw [HNa.out]; exact (HS.out.st.row.alloc _)) _ 1 1 (encCh (k, [], (sText 4096 3 s3).1, false, true)) rfl rfl (Seg.new _ [_, _, _, _, _] _ (by simp)) (encCh_one _) (by unfold maxLen; omega) (by omega) (Nat.le_trans HS.out.st.size (by simp)) ?_; intro v9 w9 r9 g9 _) | go_step)
      have hr := HR.out
      simp only [Bool.false_eq_true, if_false, if_true] at hr
      refine HQF.out _ _ _ _ _ _ _ _ _ _ _ _ _ _ _ _ _ _ _ _ _ _ _ ?_
      rw [hr]
      exact grow5 HS.out r9 g9 HNa.out
  | true =>
    have HT := Lib.hid (rtext_c HS.out.st.inn hP9 4096 3 (by decide))
    repeat' (first | go_at_call 36 | go_skip | go_guarded | go_step)
    refine HT.out.mono ?_
    rintro e w6 ⟨rfl, i6, o6⟩
    have HS6 := Lib.hid (HS.out.turn (s' := (sText 4096 3 (s3)).2) i6 o6)
    clear i6 o6 HT HS
    clear e0 e1 e2 e3 e4 f1 f2 f3 f4 l3
    obtain ⟨e0, e1, e2, e3, e4⟩ := box5C HS6.out.box
    have f1 := freeG HS6.out.box 1
    have l3 := heap_lt HS6.out.box
    go_simp
    repeat' (go_not_at_region 13; (first | go_skip | go_guarded | go_step))
    refine wp_nameF (fun w' => RgSt V x B g7 w0 w' P v5 acc (sText 4096 3 s3).2 (k, (sText 4096 3 s3).1, [], true, I)) (HS6.out.set 1 _ (c' := (k, (sText 4096 3 s3).1, [], true, I)) (fun x hx => heap_set hx 1 _)) ?_
    clear HS6 e0 e1 e2 e3 e4 f1 l3
    intro w7 HS
    obtain ⟨e0, e1, e2, e3, e4⟩ := box5C HS.out.box
    have f1 := freeG HS.out.box 1
    have f2 := freeG HS.out.box 2
    have f3 := freeG HS.out.box 3
    have f4 := freeG HS.out.box 4
    have l3 := heap_lt HS.out.box
    cases I with
    | false =>
      have hEa : ∀ y : World, Ext y (y.alloc (.cells (encCh (k, (sText 4096 3 s3).1, [], true, false)).toArray RcT)) := fun y => (Ext.refl y).alloc (Nat.le_refl _) _
      repeat' (first | go_skip | go_guarded | (at_builtin; refine wpList_app rfl (.tmp 57) (.tmp 59) _ rfl B RcT 5 56 Tryz.underlying29 infoRc (by decide) v5 na (flatE encCh acc) rfl (by rw [HNa.out]; exact (HS.out.st.row.alloc _)) _ 1 1 (encCh (k, (sText 4096 3 s3).1, [], true, false)) rfl rfl (Seg.new _ [_, _, _, _, _] _ (by simp)) (encCh_one _) (by unfold maxLen; omega) (by omega) (Nat.le_trans HS.out.st.size (by simp)) ?_; intro v9 w9 r9 g9 _) | go_step)
      have hr := HR.out
      simp only [Bool.false_eq_true, if_false, if_true] at hr
      refine HQF.out _ _ _ _ _ _ _ _ _ _ _ _ _ _ _ _ _ _ _ _ _ _ _ ?_
      rw [hr]
      exact grow5 HS.out r9 g9 HNa.out
    | true =>
      have HT := Lib.hid (rtext_c HS.out.st.inn hP9 4096 3 (by decide))
      repeat' (first | go_at_call 36 | go_skip | go_guarded | go_step)
      refine HT.out.mono ?_
      rintro e w7 ⟨rfl, i6, o6⟩
      have HS7 := Lib.hid (HS.out.turn (s' := (sText 4096 3 ((sText 4096 3 s3).2)).2) i6 o6)
      clear i6 o6 HT HS
      clear e0 e1 e2 e3 e4 f1 f2 f3 f4 l3
      obtain ⟨e0, e1, e2, e3, e4⟩ := box5C HS7.out.box
      have f2 := freeG HS7.out.box 2
      have l3 := heap_lt HS7.out.box
      go_simp
      repeat' (go_not_at_region 15; (first | go_skip | go_guarded | go_step))
      refine wp_nameF (fun w' => RgSt V x B g7 w0 w' P v5 acc (sText 4096 3 ((sText 4096 3 s3).2)).2 (k, (sText 4096 3 s3).1, (sText 4096 3 (sText 4096 3 s3).2).1, true, true)) (HS7.out.set 2 _ (c' := (k, (sText 4096 3 s3).1, (sText 4096 3 (sText 4096 3 s3).2).1, true, true)) (fun x hx => heap_set hx 2 _)) ?_
      clear HS7 e0 e1 e2 e3 e4 f2 l3
      intro w8 HS
      obtain ⟨e0, e1, e2, e3, e4⟩ := box5C HS.out.box
      have f1 := freeG HS.out.box 1
      have f2 := freeG HS.out.box 2
      have f3 := freeG HS.out.box 3
      have f4 := freeG HS.out.box 4
      have l3 := heap_lt HS.out.box
      have hEa : ∀ y : World, Ext y (y.alloc (.cells (encCh (k, (sText 4096 3 s3).1, (sText 4096 3 (sText 4096 3 s3).2).1, true, true)).toArray RcT)) := fun y => (Ext.refl y).alloc (Nat.le_refl _) _
      repeat' (first | go_skip | go_guarded | (at_builtin; refine wpList_app rfl (.tmp 57) (.tmp 59) _ rfl B RcT 5 56 Tryz.underlying29 infoRc (by decide) v5 na (flatE encCh acc) rfl (by rw [HNa.out]; exact (HS.out.st.row.alloc _)) _ 1 1 (encCh (k, (sText 4096 3 s3).1, (sText 4096 3 (sText 4096 3 s3).2).1, true, true)) rfl rfl (Seg.new _ [_, _, _, _, _] _ (by simp)) (encCh_one _) (by unfold maxLen; omega) (by omega) (Nat.le_trans HS.out.st.size (by simp)) ?_; intro v9 w9 r9 g9 _) | go_step)
      have hr := HR.out
      simp only [Bool.false_eq_true, if_false, if_true] at hr
      refine HQF.out _ _ _ _ _ _ _ _ _ _ _ _ _ _ _ _ _ _ _ _ _ _ _ ?_
      rw [hr]
      exact grow5 HS.out r9 g9 HNa.out

end Go.Proofs.YtigoffdehdobiaaGreat
/- Contracts: the law's changes; lists of changes alike: diff.Same, the document's. -/
namespace Go.Proofs.YtigoffdehdobiaaGreat
open Go.RowKit Go.QS Go.QS.Nk
set_option linter.unusedVariables false

theorem infoRcP : ∃ i z, Tryz.prog.info? RcT = some i ∧ i.zero = some z ∧ i.size = 5 ∧ i.bytes = 56 ∧ z.cells.size = 5 := info_of (z := .agg #[.string ⟨#[]⟩, .string ⟨#[]⟩, .string ⟨#[]⟩, .bool false, .bool false]) (by kernel_rfl) rfl
set_option maxRecDepth 100000 in
theorem neqCh (w : World) (p q : Ch) : (binOp .neq ChT (chV p) (chV q)).run Tryz.prog w = .ok (.bool (decide (p ≠ q))) w := by
  obtain ⟨a, b, c, d, e⟩ := p
  obtain ⟨a', b', c', d', e'⟩ := q
  simp only [go_sem]
  by_cases h1 : a = a' <;> by_cases h2 : b = b' <;> by_cases h3 : c = c' <;> by_cases h4 : d = d' <;> by_cases h5 : e = e' <;> simp [h1, h2, h3, h4, h5, go_sem]
set_option maxRecDepth 100000 in
theorem neqRc (w : World) (p q : Ch) : (binOp .neq RcT (chV p) (chV q)).run Tryz.prog w = .ok (.bool (decide (p ≠ q))) w := by
  obtain ⟨a, b, c, d, e⟩ := p
  obtain ⟨a', b', c', d', e'⟩ := q
  simp only [go_sem]
  by_cases h1 : a = a' <;> by_cases h2 : b = b' <;> by_cases h3 : c = c' <;> by_cases h4 : d = d' <;> by_cases h5 : e = e' <;> simp [h1, h2, h3, h4, h5, go_sem]

set_option maxRecDepth 100000 in
theorem chgs_c (w : World) (v : Value) (l : List Ch) (h : Sl w 5 v l.length (flatE encCh l)) (h9 : l.length ≤ 1000000000) :
    Calls Tryz.prog 11 #[v] w fun e w' => ∃ v', e = .returned v' ∧ w'.ownsRow w.heap.size RcT 5 v' l.length (flatE encCh l) ∧ Ext w w' := by
  obtain ⟨A, c, rfl, _, hn, hc, hs⟩ := h
  obtain ⟨n, hn2⟩ : ∃ n, n = l.length := ⟨_, rfl⟩
  rw [← hn2] at h9 hn ⊢
  have Hn := Lib.hid (And.intro hn2 hs)
  clear hn2 hs
  go_enter Tryz.func11, Tryz.ntmps11
  repeat' (go_not_at_region 3; (first | go_skip | go_guarded | go_step))
  go_loopg [3, 8] n (fun gk v3 v8 wr => ∃ j : Nat, v8 = .int .i64 j ∧ j ≤ n ∧ n - j ≤ gk ∧ Hid (wr.ownsRow w.heap.size RcT 5 v3 j (flatE encCh (l.take j)) ∧ Ext w wr))
  case atStart => exact ⟨0, rfl, Nat.zero_le _, Nat.le_refl _, Lib.hid ⟨World.ownsRow_nil _ _ _ _, Ext.refl _⟩⟩
  case round =>
    obtain ⟨j, rfl, hjn, hgk, HJ⟩ := hrel
    rcases Nat.lt_or_ge j n with hjl | hjg
    · have d2 : decide (j < n) = true := by simp [hjl]
      obtain ⟨x, hx⟩ := get_of_lt l (show j < l.length by have := Hn.out.1; omega)
      obtain ⟨b, o, rfl, q0, q1, q2, q3, q4⟩ := seg_ch (Seg.below Hn.out.2 HJ.out.2) hx
      have hi1 : (j : Int) < (n : Int) := by omega
      obtain ⟨xk, xo, xn, xa, xb⟩ := x
      have HX : Hid (flatE encCh (l.take (j + 1)) = flatE encCh (l.take j) ++ encCh (xk, xo, xn, xa, xb)) := Lib.hid (by rw [take_snoc hx, flatE_snoc])
      clear hx
      simp only at q0 q1 q2 q3 q4
      repeat' (first | go_skip | go_guarded | (at_builtin; refine wpList_appE (W := w) rfl (.tmp 12) (.tmp 14) _ rfl RcT 5 56 Tryz.underlying29 infoRcP (by decide) u3 j (flatE encCh (l.take j)) rfl ((HJ.out.1.alloc _).alloc _) ((HJ.out.2.alloc HJ.out.2.size _).alloc (by simp; have := HJ.out.2.size; omega) _) _ 1 1 (encCh (xk, xo, xn, xa, xb)) rfl rfl (Seg.new _ [_, _, _, _, _] _ (by simp)) (encCh_one _) (by unfold maxLen; omega) (by omega) ?_; intro v4 w4 r4 f4) | go_step)
      have H4 := Lib.hid (And.intro r4 f4)
      clear r4 f4
      go_roundg (n - (j + 1))
      case measure => omega
      case rel => exact ⟨j + 1, by go_num, by omega, Nat.le_refl _, Lib.hid ⟨by rw [HX.out]; exact H4.out.1, H4.out.2⟩⟩
    · obtain rfl : n = j := by omega
      have d2 : decide (n < n) = false := by simp
      repeat' (first | go_skip | go_guarded | go_step)
      go_ret
      have := HJ.out
      rw [List.take_of_length_le (by have := Hn.out.1; omega)] at this
      exact ⟨_, rfl, this.1, this.2⟩

set_option maxRecDepth 100000 in
theorem eqCh_c (w : World) (va vb : Value) (la lb : List Ch) (ha : Sl w 5 va la.length (flatE encCh la)) (hb : Sl w 5 vb lb.length (flatE encCh lb)) (h9 : la.length ≤ 1000000000) (h9b : lb.length ≤ 1000000000) :
    Calls Tryz.prog 41 #[va, vb] w fun e w' => e = .returned (.bool (decide (la = lb))) ∧ Ext w w' := by
  obtain ⟨A, c, rfl, hl, hn, hc, hs⟩ := ha
  obtain ⟨A', c', rfl, hl', hn', hc', hs'⟩ := hb
  by_cases hlen : la.length = lb.length
  · have HL : Hid (la.length = lb.length) := Lib.hid hlen
    have hd : ((la.length : Int) != (lb.length : Int)) = false := by rw [bne_eq_false_iff_eq]; omega
    clear hlen
    go_enter Tryz.func41, Tryz.ntmps41
    repeat' go_step
    go_loopw [13] (fun i wr => ∃ k : Nat, k ≤ la.length ∧ i = .int .i64 k ∧ Ext w wr ∧ Hid (la.take k = lb.take k)) (fun i _ => la.length - (intOf i).toNat)
    case atStart => exact ⟨0, Nat.zero_le _, rfl, Ext.refl _, Lib.hid (by simp)⟩
    case round =>
      obtain ⟨k, hk, rfl, hb, HT⟩ := hrel
      by_cases hlt : k < la.length
      · obtain ⟨p, hp⟩ := get_of_lt la hlt
        obtain ⟨q, hq⟩ := get_of_lt lb (show k < lb.length by have := HL.out; omega)
        obtain ⟨b, o, rfl, h0, h1, h2, h3, h4⟩ := seg_ch (hs.below hb) hp
        obtain ⟨b', o', rfl, h0', h1', h2', h3', h4'⟩ := seg_ch (hs'.below hb) hq
        have HP := Lib.hid hp
        have HQ := Lib.hid hq
        clear hp hq
        have hi1 : (k : Int) < (la.length : Int) := by omega
        have hi2 : (k : Int) < (lb.length : Int) := by have := HL.out; omega
        by_cases hpq : p = q
        · have hne : ∀ w, (binOp .neq ChT (chV p) (chV q)).run Tryz.prog w = .ok (.bool false) w := fun w => by rw [neqCh]; simp [hpq]
          have HE := Lib.hid hpq
          clear hpq
          repeat' go_step
          go_quiet (fail)
          repeat' go_step
          go_roundw
          case rel => exact ⟨k + 1, by omega, by go_num, below_drewN hb _, Lib.hid (by rw [take_snoc HP.out, take_snoc HQ.out, HT.out, HE.out])⟩
          case measure => simp [intOf]; omega
        · have hne : ∀ w, (binOp .neq ChT (chV p) (chV q)).run Tryz.prog w = .ok (.bool true) w := fun w => by rw [neqCh]; simp [hpq]
          have HE := Lib.hid hpq
          clear hpq
          repeat' go_step
          go_quiet (fail)
          repeat' go_step
          go_ret
          refine ⟨?_, below_drewN hb _⟩
          have : la ≠ lb := fun e => HE.out (by have h1 := HP.out; have h2 := HQ.out; rw [e] at h1; rw [h1] at h2; exact Option.some.inj h2)
          simp [this]
      · obtain rfl : k = la.length := by omega
        repeat' go_step
        go_ret
        refine ⟨?_, hb⟩
        have : la = lb := by have h1 := HT.out; rw [List.take_length, HL.out, List.take_length] at h1; exact h1
        simp [this]
  · have hd : ((la.length : Int) != (lb.length : Int)) = true := by rw [bne_iff_ne]; omega
    have HL := Lib.hid hlen
    clear hlen
    go_enter Tryz.func41, Tryz.ntmps41
    repeat' go_step
    go_ret
    refine ⟨?_, Ext.refl _⟩
    have : la ≠ lb := fun e => HL.out (by rw [e])
    simp [this]

set_option maxRecDepth 100000 in
theorem dsame_c (w : World) (va vb : Value) (la lb : List Ch) (ha : Sl w 5 va la.length (flatE encCh la)) (hb : Sl w 5 vb lb.length (flatE encCh lb)) (h9 : la.length ≤ 1000000000) (h9b : lb.length ≤ 1000000000) :
    Calls Tryz.prog 16 #[va, vb] w fun e w' => e = .returned (.bool (decide (la = lb))) ∧ Ext w w' := by
  go_enter Tryz.func16, Tryz.ntmps16
  repeat' (first | (go_at_call 41; refine (eqCh_c _ _ _ la lb ha hb h9 h9b).mono ?_; rintro e w' ⟨rfl, hb'⟩; go_simp) | go_step)
  go_ret
  exact ⟨rfl, hb'⟩

set_option maxRecDepth 100000 in
theorem rsameCh_c (w : World) (va vb : Value) (la lb : List Ch) (ha : Sl w 5 va la.length (flatE encCh la)) (hb : Sl w 5 vb lb.length (flatE encCh lb)) (h9 : la.length ≤ 1000000000) (h9b : lb.length ≤ 1000000000) :
    Calls Tryz.prog 10 #[va, vb] w fun e w' => e = .returned (.bool (decide (la = lb))) ∧ Ext w w' := by
  obtain ⟨A, c, rfl, hl, hn, hc, hs⟩ := ha
  obtain ⟨A', c', rfl, hl', hn', hc', hs'⟩ := hb
  by_cases hlen : la.length = lb.length
  · have HL : Hid (la.length = lb.length) := Lib.hid hlen
    have hd : ((la.length : Int) != (lb.length : Int)) = false := by rw [bne_eq_false_iff_eq]; omega
    clear hlen
    go_enter Tryz.func10, Tryz.ntmps10
    repeat' go_step
    go_loopw [13] (fun i wr => ∃ k : Nat, k ≤ la.length ∧ i = .int .i64 k ∧ Ext w wr ∧ Hid (la.take k = lb.take k)) (fun i _ => la.length - (intOf i).toNat)
    case atStart => exact ⟨0, Nat.zero_le _, rfl, Ext.refl _, Lib.hid (by simp)⟩
    case round =>
      obtain ⟨k, hk, rfl, hb, HT⟩ := hrel
      by_cases hlt : k < la.length
      · obtain ⟨p, hp⟩ := get_of_lt la hlt
        obtain ⟨q, hq⟩ := get_of_lt lb (show k < lb.length by have := HL.out; omega)
        obtain ⟨b, o, rfl, h0, h1, h2, h3, h4⟩ := seg_ch (hs.below hb) hp
        obtain ⟨b', o', rfl, h0', h1', h2', h3', h4'⟩ := seg_ch (hs'.below hb) hq
        have HP := Lib.hid hp
        have HQ := Lib.hid hq
        clear hp hq
        have hi1 : (k : Int) < (la.length : Int) := by omega
        have hi2 : (k : Int) < (lb.length : Int) := by have := HL.out; omega
        by_cases hpq : p = q
        · have hne : ∀ w, (binOp .neq RcT (chV p) (chV q)).run Tryz.prog w = .ok (.bool false) w := fun w => by rw [neqRc]; simp [hpq]
          have HE := Lib.hid hpq
          clear hpq
          repeat' go_step
          go_quiet (fail)
          repeat' go_step
          go_roundw
          case rel => exact ⟨k + 1, by omega, by go_num, below_drewN hb _, Lib.hid (by rw [take_snoc HP.out, take_snoc HQ.out, HT.out, HE.out])⟩
          case measure => simp [intOf]; omega
        · have hne : ∀ w, (binOp .neq RcT (chV p) (chV q)).run Tryz.prog w = .ok (.bool true) w := fun w => by rw [neqRc]; simp [hpq]
          have HE := Lib.hid hpq
          clear hpq
          repeat' go_step
          go_quiet (fail)
          repeat' go_step
          go_ret
          refine ⟨?_, below_drewN hb _⟩
          have : la ≠ lb := fun e => HE.out (by have h1 := HP.out; have h2 := HQ.out; rw [e] at h1; rw [h1] at h2; exact Option.some.inj h2)
          simp [this]
      · obtain rfl : k = la.length := by omega
        repeat' go_step
        go_ret
        refine ⟨?_, hb⟩
        have : la = lb := by have h1 := HT.out; rw [List.take_length, HL.out, List.take_length] at h1; exact h1
        simp [this]
  · have hd : ((la.length : Int) != (lb.length : Int)) = true := by rw [bne_iff_ne]; omega
    have HL := Lib.hid hlen
    clear hlen
    go_enter Tryz.func10, Tryz.ntmps10
    repeat' go_step
    go_ret
    refine ⟨?_, Ext.refl _⟩
    have : la ≠ lb := fun e => HL.out (by rw [e])
    simp [this]
end Go.Proofs.YtigoffdehdobiaaGreat
