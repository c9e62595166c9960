/- Contract: code.change: the next change of what is read. -/
import Derived.Test.YtigoffdehdobiaaGreatN00
import Derived.Test.YtigoffdehdobiaaGreatM25
import Derived.Test.YtigoffdehdobiaaGreatM03
import Derived.Laws.Rows
set_option linter.unusedVariables false
set_option linter.unusedSimpArgs false
namespace Go.Proofs.YtigoffdehdobiaaGreat
open Go.RowKit Go.QS Go.QS.Nk
set_option linter.unusedVariables false

theorem One.setNew {g : Nat} {a w : World} {p : Addr} (h : One g a w) (hp : a.heap.size ≤ p.block) (u : Value) : One g a (w.setCell p u) :=
  ⟨h.os, h.tape, h.output, by simpa using h.size, fun k hk hg => (Below.heap_setCell w p u k (by omega)).trans (h.block k hk hg)⟩
theorem One.allocN {g : Nat} {a w : World} (h : One g a w) (o : Obj) : One g a (w.alloc o) := One.trans h (One.of_ext ((Ext.refl w).alloc (Nat.le_refl _) o))
theorem wp_nameF {P : Program} {c : Code} {Q : Exit → Act → World → Prop} {a : Act} {W : World} (R : World → Prop) (hR : R W) (h : ∀ w', Hid (R w') → c.wp P Q a w') : c.wp P Q a W := h W (Lib.hid hR)

/-- In the midst of a change that is read: the reader, the result's block, the change's own. -/
structure ChSt (V : Nat → Prop) (g g2 g3 : Nat) (w0 w : World) (s : St2) (c : Ch) : Prop where
  inn : InAt V g w s.1 s.2
  one : One g w0 w
  res : w.heap[g2]? = some (.cells #[str [], str [], str [], .bool false, .bool false] ChT (0, 0))
  box : w.heap[g3]? = some (.cells #[str c.1, str c.2.1, str c.2.2.1, .bool c.2.2.2.1, .bool c.2.2.2.2] ChT (0, 0))
  lt : g < w0.heap.size
  old : ∀ b, V b → b < w0.heap.size
  new2 : w0.heap.size ≤ g2
  new3 : w0.heap.size ≤ g3
  ne : g2 ≠ g3
section
variable {V : Nat → Prop} {g g2 g3 : Nat} {w0 w w' : World} {s s' : St2} {c : Ch}
theorem ChSt.turn (h : ChSt V g g2 g3 w0 w s c) (hI : InAt V g w' s'.1 s'.2) (k : One g w w') : ChSt V g g2 g3 w0 w' s' c :=
  ⟨hI, One.trans h.one k, k.heap h.res (by have := h.lt; have := h.new2; omega), k.heap h.box (by have := h.lt; have := h.new3; omega), h.lt, h.old, h.new2, h.new3, h.ne⟩
theorem ChSt.set (h : ChSt V g g2 g3 w0 w s c) (i : Nat) (u : Value) {c' : Ch}
    (hb : ∀ x : World, x.heap[g3]? = some (.cells #[str c.1, str c.2.1, str c.2.2.1, .bool c.2.2.2.1, .bool c.2.2.2.2] ChT (0, 0)) → (x.setCell ⟨g3, i, none⟩ u).heap[g3]? = some (.cells #[str c'.1, str c'.2.1, str c'.2.2.1, .bool c'.2.2.2.1, .bool c'.2.2.2.2] ChT (0, 0))) :
    ChSt V g g2 g3 w0 (w.setCell ⟨g3, i, none⟩ u) s c' := by
  have h1 := h.lt
  have h2 := h.new3
  exact ⟨h.inn.one ((One.refl w).setCell (g := g3) i u) (by omega) (fun b hb => by have := h.old b hb; omega), One.setNew h.one h2 u,
    (Below.heap_setCell w ⟨g3, i, none⟩ u g2 (fun e => h.ne e)).trans h.res, hb w h.box, h.lt, h.old, h.new2, h.new3, h.ne⟩
end
theorem bitsA1 : ∀ n : Nat, n < 256 → bits BinOp.and IntKind.u8 (n : Int) 1 = ((n % 2 : Nat) : Int) := by decide +kernel
theorem bitsA2 : ∀ n : Nat, n < 256 → bits BinOp.and IntKind.u8 (n : Int) 2 = ((n / 2 % 2 * 2 : Nat) : Int) := by decide +kernel

/-- What a change has, behind its first byte. -/
def rdT (b : Nat) (is : Bool) (k : List UInt8) (s3 : St2) : Ch × St2 :=
  let o := if b % 2 = 1 then sText 4096 3 s3 else ([], s3)
  let n := if is = true then sText 4096 3 o.2 else ([], o.2)
  ((k, o.1, n.1, decide (b % 2 = 1), is), n.2)
theorem rdT_eq (W I : Bool) (b : Nat) (k : List UInt8) (s3 : St2) (hW : W = decide (b % 2 = 1)) :
    rdT b I k s3 = ((k, (if W = true then (sText 4096 3 s3).1 else []), (if I = true then (sText 4096 3 (if W = true then (sText 4096 3 s3).2 else s3)).1 else []), W, I), if I = true then (sText 4096 3 (if W = true then (sText 4096 3 s3).2 else s3)).2 else (if W = true then (sText 4096 3 s3).2 else s3)) := by
  subst hW
  unfold rdT
  by_cases h : b % 2 = 1 <;> cases I <;> simp [h]

/-- A change has been read. -/
structure Fin5 (V : Nat → Prop) (g g2 : Nat) (w0 w : World) (r : Ch × St2) : Prop where
  inn : InAt V g w r.2.1 r.2.2
  one : One g w0 w
  res : w.heap[g2]? = some (.cells #[str r.1.1, str r.1.2.1, str r.1.2.2.1, .bool r.1.2.2.2.1, .bool r.1.2.2.2.2] ChT (0, 0))
theorem fin5 {V : Nat → Prop} {g g2 g3 : Nat} {w0 w : World} {s : St2} {c : Ch} (h : ChSt V g g2 g3 w0 w s c) :
    Fin5 V g g2 w0 (((((w.setCell ⟨g2, 0, none⟩ (str c.1)).setCell ⟨g2, 1, none⟩ (str c.2.1)).setCell ⟨g2, 2, none⟩ (str c.2.2.1)).setCell ⟨g2, 3, none⟩ (.bool c.2.2.2.1)).setCell ⟨g2, 4, none⟩ (.bool c.2.2.2.2)) (c, s) := by
  have h1 := h.lt
  have h2 := h.new2
  have hO : One g2 w (((((w.setCell ⟨g2, 0, none⟩ (str c.1)).setCell ⟨g2, 1, none⟩ (str c.2.1)).setCell ⟨g2, 2, none⟩ (str c.2.2.1)).setCell ⟨g2, 3, none⟩ (.bool c.2.2.2.1)).setCell ⟨g2, 4, none⟩ (.bool c.2.2.2.2)) :=
    (((((One.refl w).setCell 0 _).setCell 1 _).setCell 2 _).setCell 3 _).setCell 4 _
  exact ⟨h.inn.one hO (by omega) (fun b hb => by have := h.old b hb; omega),
    One.setNew (One.setNew (One.setNew (One.setNew (One.setNew h.one h2 _) h2 _) h2 _) h2 _) h2 _,
    heap_set (heap_set (heap_set (heap_set (heap_set h.res 0 _) 1 _) 2 _) 3 _) 4 _⟩

set_option maxRecDepth 100000 in
set_option maxHeartbeats 4000000 in
theorem change_5 (V : Nat → Prop) (g g2 g3 : Nat) (w0 wr : World) (s3 : St2) (k : List UInt8) (b : Nat) (hb : b < 256) (HS : Hid (ChSt V g g2 g3 w0 wr s3 (k, [], [], false, false))) (c d : Code) (K : Act → World → Prop) (QX : Exit → Act → World → Prop) (t1 t5 t6 t7 t8 t9 t10 t11 t12 t13 t14 t15 t16 t17 t18 t19 t20 t21 t22 t23 t24 t25 t26 t27 t28 t29 t30 t31 t32 t33 t34 t35 t36 : Value)
    (hc : (Tryz.f33.body.bind (findR 5)) = some c) (hd : (Tryz.f33.body.bind (findT 5)) = some d)
    (hK : ∀ a w, d.wp Tryz.prog QX a w → K a w)
    (hQ : ∀ (a : Act) (wx : World), a.defers = [] → a.tmps.getD 2 undef = ptr g2 → Fin5 V g g2 w0 wx (rdT b (isP b) k s3) → QX .ret a wx) :
    c.wp Tryz.prog (Exit.then K QX) { tmps := List.toArray ((ptr g) :: t1 :: (ptr g2) :: (ptr g3) :: (.int .u8 (b : Int)) :: t5 :: t6 :: t7 :: t8 :: t9 :: t10 :: t11 :: t12 :: t13 :: t14 :: t15 :: t16 :: t17 :: t18 :: t19 :: t20 :: t21 :: t22 :: t23 :: t24 :: t25 :: t26 :: t27 :: t28 :: t29 :: t30 :: t31 :: t32 :: t33 :: t34 :: t35 :: t36 :: []), defers := [] } wr := by
  change some _ = some c at hc
  cases hc
  change some _ = some d at hd
  cases hd
  have HQF := Lib.hid hQ
  clear hQ
  have hA1 := bitsA1 b hb
  have hA2 := bitsA2 b hb
  obtain ⟨q1, hq1⟩ : ∃ q, q = b % 2 := ⟨_, rfl⟩
  obtain ⟨q2, hq2⟩ : ∃ q, q = b / 2 % 2 * 2 := ⟨_, rfl⟩
  rw [← hq1] at hA1
  rw [← hq2] at hA2
  obtain ⟨W, hW⟩ : ∃ W, W = decide (b % 2 = 1) := ⟨_, rfl⟩
  obtain ⟨I, hI⟩ : ∃ I, I = isP b := ⟨_, rfl⟩
  rw [← hI] at HQF
  have HR := Lib.hid (rdT_eq W I b k s3 hW)
  have d1 : decide (0 < q1) = W := by rw [hW, decide_eq_decide]; omega
  have d2 : decide (0 < q2) = I := by rw [hI]; unfold isP; rw [decide_eq_decide]; omega
  clear hq1 hq2 hW hI hb
  obtain ⟨e0, e1, e2, e3, e4⟩ := box5C HS.out.box
  have f1 := freeG HS.out.box 1
  have f2 := freeG HS.out.box 2
  have f3 := freeG HS.out.box 3
  have f4 := freeG HS.out.box 4
  have l3 := heap_lt HS.out.box
  repeat' (go_not_at_region 6; (first | go_skip | go_guarded | go_step))
  refine wp_nameF (fun w' => ChSt V g g2 g3 w0 w' s3 (k, [], [], W, I)) ((HS.out.set 3 (.bool W) (c' := (k, [], [], W, false)) (fun x hx => heap_set hx 3 _)).set 4 (.bool I) (c' := (k, [], [], W, I)) (fun x hx => heap_set hx 4 _)) ?_
  clear HS e0 e1 e2 e3 e4 f1 f2 f3 f4 l3 d1 d2 hA1 hA2
  intro w5 HS
  obtain ⟨e0, e1, e2, e3, e4⟩ := box5C HS.out.box
  have f1 := freeG HS.out.box 1
  have f2 := freeG HS.out.box 2
  have f3 := freeG HS.out.box 3
  have f4 := freeG HS.out.box 4
  have l3 := heap_lt HS.out.box
  cases W with
  | false =>
    repeat' (go_not_at_region 8; (first | go_skip | go_guarded | go_step))
    cases I with
    | false =>
      repeat' (go_not_at_region 10; (first | go_skip | go_guarded | go_step))
      obtain ⟨x0, x1, x2, x3, x4⟩ := box5C HS.out.res
      have y0 := freeG HS.out.res 0
      have y1 := freeG HS.out.res 1
      have y2 := freeG HS.out.res 2
      have y3 := freeG HS.out.res 3
      have y4 := freeG HS.out.res 4
      have l2 := heap_lt HS.out.res
      repeat' (first | go_skip | go_guarded | go_step)
      refine HQF.out _ _ rfl rfl ?_
      have hr := HR.out
      simp only [Bool.false_eq_true, if_false, if_true] at hr
      rw [hr]
      have hf := fin5 HS.out
      exact hf
    | true =>
      have HT := Lib.hid (text_c HS.out.inn 4096 3 (by decide) (by decide))
      repeat' (first | go_at_call 25 | go_skip | go_guarded | go_step)
      refine HT.out.mono ?_
      rintro e w7 ⟨rfl, i7, o7⟩
      have HS7 := Lib.hid (HS.out.turn (s' := (sText 4096 3 (s3)).2) i7 o7)
      clear i7 o7 HT HS e0 e1 e2 e3 e4 f1 f2 f3 f4 l3
      obtain ⟨e0, e1, e2, e3, e4⟩ := box5C HS7.out.box
      have f2 := freeG HS7.out.box 2
      have l3 := heap_lt HS7.out.box
      go_simp
      repeat' (go_not_at_region 10; (first | go_skip | go_guarded | go_step))
      refine wp_nameF (fun w' => ChSt V g g2 g3 w0 w' _ _) (HS7.out.set 2 _ (c' := (k, [], (sText 4096 3 s3).1, false, true)) (fun x hx => heap_set hx 2 _)) ?_
      clear HS7 e0 e1 e2 e3 e4 f2 l3
      intro w8 HS
      obtain ⟨e0, e1, e2, e3, e4⟩ := box5C HS.out.box
      have f1 := freeG HS.out.box 1
      have f2 := freeG HS.out.box 2
      have f3 := freeG HS.out.box 3
      have f4 := freeG HS.out.box 4
      have l3 := heap_lt HS.out.box
      repeat' (go_not_at_region 10; (first | go_skip | go_guarded | go_step))
      obtain ⟨x0, x1, x2, x3, x4⟩ := box5C HS.out.res
      have y0 := freeG HS.out.res 0
      have y1 := freeG HS.out.res 1
      have y2 := freeG HS.out.res 2
      have y3 := freeG HS.out.res 3
      have y4 := freeG HS.out.res 4
      have l2 := heap_lt HS.out.res
      repeat' (first | go_skip | go_guarded | go_step)
      refine HQF.out _ _ rfl rfl ?_
      have hr := HR.out
      simp only [Bool.false_eq_true, if_false, if_true] at hr
      rw [hr]
      have hf := fin5 HS.out
      exact hf

  | true =>
    have HT := Lib.hid (text_c HS.out.inn 4096 3 (by decide) (by decide))
    repeat' (first | go_at_call 25 | go_skip | go_guarded | go_step)
    refine HT.out.mono ?_
    rintro e w6 ⟨rfl, i6, o6⟩
    have HS6 := Lib.hid (HS.out.turn (s' := (sText 4096 3 s3).2) i6 o6)
    clear i6 o6 HT HS e0 e1 e2 e3 e4 f1 f2 f3 f4 l3
    obtain ⟨e0, e1, e2, e3, e4⟩ := box5C HS6.out.box
    have f1 := freeG HS6.out.box 1
    have l3 := heap_lt HS6.out.box
    go_simp
    repeat' (go_not_at_region 8; (first | go_skip | go_guarded | go_step))
    refine wp_nameF (fun w' => ChSt V g g2 g3 w0 w' (sText 4096 3 s3).2 (k, (sText 4096 3 s3).1, [], true, I)) (HS6.out.set 1 _ (c' := (k, (sText 4096 3 s3).1, [], true, I)) (fun x hx => heap_set hx 1 _)) ?_
    clear HS6 e0 e1 e2 e3 e4 f1 l3
    intro w7 HS
    obtain ⟨e0, e1, e2, e3, e4⟩ := box5C HS.out.box
    have f1 := freeG HS.out.box 1
    have f2 := freeG HS.out.box 2
    have f3 := freeG HS.out.box 3
    have f4 := freeG HS.out.box 4
    have l3 := heap_lt HS.out.box
    cases I with
    | false =>
      repeat' (go_not_at_region 10; (first | go_skip | go_guarded | go_step))
      obtain ⟨x0, x1, x2, x3, x4⟩ := box5C HS.out.res
      have y0 := freeG HS.out.res 0
      have y1 := freeG HS.out.res 1
      have y2 := freeG HS.out.res 2
      have y3 := freeG HS.out.res 3
      have y4 := freeG HS.out.res 4
      have l2 := heap_lt HS.out.res
      repeat' (first | go_skip | go_guarded | go_step)
      refine HQF.out _ _ rfl rfl ?_
      have hr := HR.out
      simp only [Bool.false_eq_true, if_false, if_true] at hr
      rw [hr]
      have hf := fin5 HS.out
      exact hf
    | true =>
      have HT := Lib.hid (text_c HS.out.inn 4096 3 (by decide) (by decide))
      repeat' (first | go_at_call 25 | go_skip | go_guarded | go_step)
      refine HT.out.mono ?_
      rintro e w7 ⟨rfl, i7, o7⟩
      have HS7 := Lib.hid (HS.out.turn (s' := (sText 4096 3 ((sText 4096 3 s3).2)).2) i7 o7)
      clear i7 o7 HT HS e0 e1 e2 e3 e4 f1 f2 f3 f4 l3
      obtain ⟨e0, e1, e2, e3, e4⟩ := box5C HS7.out.box
      have f2 := freeG HS7.out.box 2
      have l3 := heap_lt HS7.out.box
      go_simp
      repeat' (go_not_at_region 10; (first | go_skip | go_guarded | go_step))
      refine wp_nameF (fun w' => ChSt V g g2 g3 w0 w' _ _) (HS7.out.set 2 _ (c' := (k, (sText 4096 3 s3).1, (sText 4096 3 (sText 4096 3 s3).2).1, true, true)) (fun x hx => heap_set hx 2 _)) ?_
      clear HS7 e0 e1 e2 e3 e4 f2 l3
      intro w8 HS
      obtain ⟨e0, e1, e2, e3, e4⟩ := box5C HS.out.box
      have f1 := freeG HS.out.box 1
      have f2 := freeG HS.out.box 2
      have f3 := freeG HS.out.box 3
      have f4 := freeG HS.out.box 4
      have l3 := heap_lt HS.out.box
      repeat' (go_not_at_region 10; (first | go_skip | go_guarded | go_step))
      obtain ⟨x0, x1, x2, x3, x4⟩ := box5C HS.out.res
      have y0 := freeG HS.out.res 0
      have y1 := freeG HS.out.res 1
      have y2 := freeG HS.out.res 2
      have y3 := freeG HS.out.res 3
      have y4 := freeG HS.out.res 4
      have l2 := heap_lt HS.out.res
      repeat' (first | go_skip | go_guarded | go_step)
      refine HQF.out _ _ rfl rfl ?_
      have hr := HR.out
      simp only [Bool.false_eq_true, if_false, if_true] at hr
      rw [hr]
      have hf := fin5 HS.out
      exact hf

set_option maxRecDepth 100000 in
set_option maxHeartbeats 4000000 in
theorem change_c {V : Nat → Prop} {g : Nat} {w : World} {l : List UInt8} {e : Nat} (h : InAt V g w l e) (hV : ∀ b, V b → b < w.heap.size) :
    Calls Tryz.prog 33 #[ptr g] w fun x w' => x = .returned (chV (rdCh (l, e)).1) ∧ InAt V g w' (rdCh (l, e)).2.1 (rdCh (l, e)).2.2 ∧ One g w w' := by
  have hgl : g < w.heap.size := by obtain ⟨A, c, h1, _⟩ := h.ex; exact heap_lt h1
  have HH := Lib.hid (And.intro h hV)
  clear h hV
  obtain ⟨g2, hg2⟩ : ∃ g, g = w.heap.size := ⟨_, rfl⟩
  go_enter Tryz.func33, Tryz.ntmps33
  repeat' (go_not_at_region 1; (first | go_skip | go_guarded | go_step))
  rw [← hg2]
  refine wp_nameF (fun w' => Ext w w' ∧ w'.heap[g2]? = some (.cells #[str [], str [], str [], .bool false, .bool false] ChT (0, 0))) ⟨(Ext.refl _).alloc (Nat.le_refl _) _, by rw [hg2]; exact heap_newG w _⟩ ?_
  have hg2w : w.heap.size ≤ g2 := by omega
  clear hg2
  intro w1 H1
  have HT := Lib.hid (text_c (HH.out.1.ext H1.out.1) 256 2 (by decide) (by decide))
  repeat' (first | go_at_call 25 | go_skip | go_guarded | go_step)
  refine HT.out.mono ?_
  rintro x w2 ⟨rfl, i2, o2⟩
  have H2 : Hid (InAt V g w2 (sText 256 2 (l, e)).2.1 (sText 256 2 (l, e)).2.2 ∧ One g w w2 ∧ w2.heap[g2]? = some (.cells #[str [], str [], str [], .bool false, .bool false] ChT (0, 0))) := Lib.hid ⟨i2, One.trans (One.of_ext H1.out.1) o2, o2.heap H1.out.2 (by omega)⟩
  clear i2 o2 HT H1
  go_simp
  repeat' (go_not_at_region 2; (first | go_skip | go_guarded | go_step))
  obtain ⟨g3, hg3⟩ : ∃ g, g = w2.heap.size := ⟨_, rfl⟩
  rw [← hg3]
  refine wp_nameF (fun w' => ChSt V g g2 g3 w w' (sText 256 2 (l, e)).2 ((sText 256 2 (l, e)).1, [], [], false, false)) ?_ ?_
  · have hE : Ext w2 (w2.alloc (.cells #[str (sText 256 2 (l, e)).1, str [], str [], .bool false, .bool false] ChT)) := (Ext.refl _).alloc (Nat.le_refl _) _
    have hs2 := H2.out.2.1.size
    have hl2 := heap_lt H2.out.2.2
    exact ⟨H2.out.1.ext hE, One.trans H2.out.2.1 (One.of_ext hE), box_extG H2.out.2.2 hE, by rw [hg3]; exact heap_newG w2 _, hgl, HH.out.2, by omega, by omega, by omega⟩
  clear hg3
  intro w3 HS
  have HB := Lib.hid (byte_c HS.out.inn)
  clear H2
  repeat' (first | go_at_call 27 | go_skip | go_guarded | go_step)
  refine HB.out.mono ?_
  rintro x w4 ⟨rfl, i4, o4⟩
  have HS4 := Lib.hid (HS.out.turn (s' := (sByte (sText 256 2 (l, e)).2).2) i4 o4)
  clear i4 o4 HB HS
  have hb256 : (sByte (sText 256 2 (l, e)).2).1 < 256 := by
    unfold sByte
    split
    · rename_i b _ _; exact b.toNat_lt
    · omega
  obtain ⟨b, hb⟩ : ∃ b, b = (sByte (sText 256 2 (l, e)).2).1 := ⟨_, rfl⟩
  rw [← hb] at hb256 ⊢
  obtain ⟨k, hk⟩ : ∃ k, k = (sText 256 2 (l, e)).1 := ⟨_, rfl⟩
  rw [← hk] at HS4
  have HRD : Hid (rdCh (l, e) = rdT b (isP b) k (if b = 0 ∨ 3 < b then sFail 9 (sByte (sText 256 2 (l, e)).2).2 else (sByte (sText 256 2 (l, e)).2).2)) := Lib.hid (by rw [hb, hk]; rfl)
  clear hb hk
  by_cases hbad : b = 0 ∨ 3 < b
  · rw [if_pos hbad] at HRD
    have HF := Lib.hid (fail_c HS4.out.inn 9)
    by_cases h0 : b = 0
    · have d0 : ((b : Int) == 0) = true := by rw [beq_iff_eq]; omega
      have d0' : (b == 0) = true := by rw [beq_iff_eq]; omega
      have Hb0 := Lib.hid h0
      clear h0 hbad
      go_simp
      repeat' (first | go_at_call 20 | go_skip | go_guarded | go_step)
      refine HF.out.mono ?_
      rintro x w5 ⟨rfl, i5, o5⟩
      have HS5 := Lib.hid (HS4.out.turn (s' := sFail 9 (sByte (sText 256 2 (l, e)).2).2) (by
        have e1 : (sFail 9 (sByte (sText 256 2 (l, e)).2).2).1 = (sByte (sText 256 2 (l, e)).2).2.1 := by unfold sFail; split <;> rfl
        rw [e1]; exact i5) o5)
      clear i5 o5 HF HS4
      go_simp
      repeat' (go_not_at_region 5; (first | go_skip | go_guarded | go_step))
      rename_i KK hKK
      refine change_5 V g g2 g3 w _ _ k b hb256 HS5 _ _ KK _ _ _ _ _ _ _ _ _ _ _ _ _ _ _ _ _ _ _ _ _ _ _ _ _ _ _ _ _ _ _ _ _ _ (by kernel_rfl) (by kernel_rfl) hKK ?_
      intro a wx hd h2 hF
      (try simp only [Exit.inBlock, Exit.then])
      refine bodyPost_ret_by (results_cell_row rfl _ _ _ _ _ _ _ h2 hF.res Tryz.underlying74 rfl (by kernel_rfl)) hd ?_
      rw [HRD.out]
      exact ⟨rfl, hF.inn, hF.one⟩
    · have d0 : ((b : Int) == 0) = false := by rw [beq_eq_false_iff_ne]; omega
      have d0' : (b == 0) = false := by rw [beq_eq_false_iff_ne]; omega
      have d1 : (3 : Int) < (b : Int) := by omega
      have d1' : 3 < b := by omega
      clear h0 hbad
      go_simp
      repeat' (first | go_at_call 20 | go_skip | go_guarded | go_step)
      refine HF.out.mono ?_
      rintro x w5 ⟨rfl, i5, o5⟩
      have HS5 := Lib.hid (HS4.out.turn (s' := sFail 9 (sByte (sText 256 2 (l, e)).2).2) (by
        have e1 : (sFail 9 (sByte (sText 256 2 (l, e)).2).2).1 = (sByte (sText 256 2 (l, e)).2).2.1 := by unfold sFail; split <;> rfl
        rw [e1]; exact i5) o5)
      clear i5 o5 HF HS4
      go_simp
      repeat' (go_not_at_region 5; (first | go_skip | go_guarded | go_step))
      rename_i KK hKK
      refine change_5 V g g2 g3 w _ _ k b hb256 HS5 _ _ KK _ _ _ _ _ _ _ _ _ _ _ _ _ _ _ _ _ _ _ _ _ _ _ _ _ _ _ _ _ _ _ _ _ _ (by kernel_rfl) (by kernel_rfl) hKK ?_
      intro a wx hd h2 hF
      (try simp only [Exit.inBlock, Exit.then])
      refine bodyPost_ret_by (results_cell_row rfl _ _ _ _ _ _ _ h2 hF.res Tryz.underlying74 rfl (by kernel_rfl)) hd ?_
      rw [HRD.out]
      exact ⟨rfl, hF.inn, hF.one⟩
  · rw [if_neg hbad] at HRD
    have d0 : ((b : Int) == 0) = false := by rw [beq_eq_false_iff_ne]; omega
    have d0' : (b == 0) = false := by rw [beq_eq_false_iff_ne]; omega
    have d1 : ¬ (3 : Int) < (b : Int) := by omega
    have d1' : ¬ 3 < b := by omega
    have HS5 := HS4
    clear hbad HS4
    go_simp
    repeat' (go_not_at_region 5; (first | go_skip | go_guarded | go_step))
    rename_i KK hKK
    refine change_5 V g g2 g3 w _ _ k b hb256 HS5 _ _ KK _ _ _ _ _ _ _ _ _ _ _ _ _ _ _ _ _ _ _ _ _ _ _ _ _ _ _ _ _ _ _ _ _ _ (by kernel_rfl) (by kernel_rfl) hKK ?_
    intro a wx hd h2 hF
    (try simp only [Exit.inBlock, Exit.then])
    refine bodyPost_ret_by (results_cell_row rfl _ _ _ _ _ _ _ h2 hF.res Tryz.underlying74 rfl (by kernel_rfl)) hd ?_
    rw [HRD.out]
    exact ⟨rfl, hF.inn, hF.one⟩
end Go.Proofs.YtigoffdehdobiaaGreat
