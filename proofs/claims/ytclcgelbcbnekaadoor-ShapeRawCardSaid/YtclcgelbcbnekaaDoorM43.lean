/- Texts joined. -/
import Derived.Test.YtclcgelbcbnekaaDoorSrg
import Derived.Test.YtclcgelbcbnekaaDoorCards
import Derived.Test.YtclcgelbcbnekaaDoorTie
import Derived.Test.YtclcgelbcbnekaaDoorM36
import Derived.Deep.DeepHandedRow
import Derived.Lib.LaidTab
set_option linter.unusedVariables false
set_option linter.unusedSimpArgs false
/- ShapeRaw, walked. -/
namespace Go.Proofs.YtclcgelbcbnekaaDoor
open Go Go.RowKit Go.QS Go.QS.Nk
set_option linter.unusedVariables false
variable [Zero (Nat → Prop)]
set_option linter.unusedSectionVars false

set_option maxRecDepth 100000 in
set_option maxHeartbeats 2000000 in
theorem raw_end (wr : World) (gh g1 q : Nat) (h : Hs) (hk : h.Ok) (t : NT) (HH : HsAt wr gh h) (hR : RN wr t g1) (hD : DN wr t q) (hs : NSm t) (hf : NFew t) (hl : (lookN t 13).length ≤ 60000000) (ha : (allN t 13).length ≤ 500) (hp : (prsN t).length ≤ 1000000) (hT : Tab32 wr) (c : Code) (Q : Exit → Act → World → Prop) (t0 t1 t3 t4 t7 t8 t9 t10 t11 t12 t13 t14 t15 t16 t17 t18 t19 t20 t21 t22 t23 t24 t25 t26 t27 t28 : Value)
    (hc : (Tryd.f3.body.bind (findR 4)) = some c)
    (hQ : ∀ (u14 u15 u16 u17 u18 u19 u20 u21 u22 u23 u24 u25 u26 u27 u28 : Value) (wx : World), Ext wr wx → Q .normal { tmps := List.toArray (t0 :: t1 :: (ptr gh) :: t3 :: (.bool true) :: (ptr g1) :: (ptr q) :: t7 :: t8 :: t9 :: t10 :: t11 :: t12 :: t13 :: u14 :: u15 :: u16 :: u17 :: u18 :: u19 :: u20 :: u21 :: u22 :: u23 :: u24 :: u25 :: u26 :: u27 :: u28 :: []), defers := [] } wx) :
    c.wp Tryd.prog Q { tmps := List.toArray (t0 :: t1 :: (ptr gh) :: t3 :: t4 :: (ptr g1) :: (ptr q) :: t7 :: t8 :: t9 :: t10 :: t11 :: t12 :: t13 :: t14 :: t15 :: t16 :: t17 :: t18 :: t19 :: t20 :: t21 :: t22 :: t23 :: t24 :: t25 :: t26 :: t27 :: t28 :: []), defers := [] } wr := by
  change some _ = some c at hc
  cases hc
  have HQF := Lib.hid hQ
  clear hQ
  obtain ⟨BT, hBT⟩ : ∃ B, B = lookN t 13 := ⟨_, rfl⟩
  have HLk : Hid (∀ W, Ext wr W → LkAt W (ptr g1) BT) := Lib.hid (fun W f => .inr ⟨g1, t, rfl, hR.ext f, hf, hBT⟩)
  have hBT9 : BT.length ≤ 60000000 := by rw [hBT]; exact hl
  have HOf : Hid (∀ W, Ext wr W → Calls Tryd.prog 9 #[ptr g1] W fun e w' => ∃ v', e = .returned v' ∧ BS w' v' BT ∧ Ext W w') := Lib.hid (fun W f => ofA_c W _ BT (HLk.out W f) (by omega))
  have HO7 : Hid (∀ W, Ext wr W → Calls Tryd.prog 10 #[ptr q, .int .i64 0] W fun e w' => ∃ v', e = .returned v' ∧ BS w' v' BT ∧ Ext W w') := Lib.hid (fun W f => by
    have h0 := of7_c t 0 wr q hD (by decide) (by rw [show 13 - 0 = 13 from rfl]; omega) W f
    rw [show 13 - 0 = 13 from rfl, ← hBT] at h0
    refine h0.mono ?_
    rintro e w' ⟨v', rfl, r, f⟩
    exact ⟨v', rfl, BS.of_own r, f⟩)
  have HSr : Hid (∀ W v v', BS W v BT → BS W v' BT → Calls Tryd.prog 8 #[v, v'] W fun e w' => e = .returned (.bool true) ∧ Ext W w') := Lib.hid (fun W v v' h1 h2 => (rsame_c W v v' BT BT h1 h2).mono (by rintro e w' ⟨rfl, f'⟩; exact ⟨by rw [decide_eq_true rfl], f'⟩))
  have hb : ∃ b : Bool, (b = true ↔ okN h.hash t []) := by
    rcases Classical.em (okN h.hash t []) with h1 | h1
    · exact ⟨true, fun _ => h1, fun _ => rfl⟩
    · exact ⟨false, fun e => (by cases e), fun x => absurd x h1⟩
  obtain ⟨sm, hsm⟩ := hb
  have key : ∀ {e : Ending}, ((okN h.hash t [] ∧ e = .returned (.bool true)) ∨ (¬ okN h.hash t [] ∧ e = .returned (.bool false))) → e = .returned (.bool sm) := fun {e} hh => by
    rcases hh with ⟨h1, rfl⟩ | ⟨h1, rfl⟩
    · rw [hsm.2 h1]
    · cases sm with
      | true => exact absurd (hsm.1 rfl) h1
      | false => rfl
  have HCa : Hid (∀ W, Ext wr W → Calls Tryd.prog 11 #[hsV h, ptr g1] W fun e w' => e = .returned (.bool sm) ∧ Ext W w') := Lib.hid (fun W f => (canonR_c W h hk g1 t (hR.ext f) hs (by omega) (hT.ext f)).mono (fun e w' hh => ⟨key hh.1, hh.2⟩))
  have HCd : Hid (∀ W, Ext wr W → Calls Tryd.prog 12 #[hsV h, ptr q] W fun e w' => e = .returned (.bool sm) ∧ Ext W w') := Lib.hid (fun W f => (rcanon7_c W h hk q t (hD.ext f) hs (by omega) (by omega) (fun H => shp_sm H (fun p hp => allN_sm t 13 hs p (rsort_sub _ p hp)) (Nat.le_trans (rsort_length _) ha))).mono (fun e w' hh => ⟨key hh.1, hh.2⟩))
  have HcS : Hid (∀ W, Ext wr W → (fun w' => w'.cell? ⟨gh, 0, none⟩ = some (.int .u64 h.k0) ∧ w'.cell? ⟨gh, 1, none⟩ = some (.int .u64 h.k1) ∧ w'.cell? ⟨gh, 2, none⟩ = some (.int .u64 h.mask)) W) := Lib.hid (fun W f => (HH.ext f).cells)
  have hEq : ∀ wz, (binOp .eql 4 (.bool sm) (.bool sm)).run Tryd.prog wz = .ok (.bool true) wz := fun wz => by cases sm <;> simp [go_sem]
  clear hBT hBT9 HLk hR hD hs hf hl ha hp hT hsm key HH
  refine wp_region_noPanic ?_
  go_region_held3 (fun w' => w'.cell? ⟨gh, 0, none⟩ = some (.int .u64 h.k0) ∧ w'.cell? ⟨gh, 1, none⟩ = some (.int .u64 h.k1) ∧ w'.cell? ⟨gh, 2, none⟩ = some (.int .u64 h.mask))
    (first | exact HcS.out _ k6.out | exact HcS.out _ k5.out | exact HcS.out _ k4.out | exact HcS.out _ k3.out | exact HcS.out _ k2.out | exact HcS.out _ k1.out | exact HcS.out _ (ext_drew (Ext.refl _)))
    (first
      | (go_at_call 12; have mz := k5; clear mz; refine (HCd.out _ k5.out).mono ?_; rintro e x6 ⟨rfl, f6⟩; skip; have k6 : Hid (Ext wr x6) := Lib.hid (Ext.trans (k5.out) f6); clear f6)
      | (go_at_call 13; have mz := k4; clear mz; refine (own07_c _ h).mono ?_; rintro e x5 ⟨rfl, f5⟩; skip; have k5 : Hid (Ext wr x5) := Lib.hid (Ext.trans (k4.out) f5); clear f5)
      | (go_at_call 11; have mz := k3; clear mz; refine (HCa.out _ k3.out).mono ?_; rintro e x4 ⟨rfl, f4⟩; skip; have k4 : Hid (Ext wr x4) := Lib.hid (Ext.trans (k3.out) f4); clear f4)
      | (go_at_call 8; have mz := k2; clear mz; refine (HSr.out _ v1 v2 K2.out.1 K2.out.2).mono ?_; rintro e x3 ⟨rfl, f3⟩; skip; have k3 : Hid (Ext wr x3) := Lib.hid (Ext.trans (k2.out) f3); clear f3)
      | (go_at_call 10; have mz := k1; clear mz; refine (HO7.out _ k1.out).mono ?_; rintro e x2 ⟨v2, rfl, b2, f2⟩; have K2 := Lib.hid (And.intro (K1.out.below f2) b2); have k2 : Hid (Ext wr x2) := Lib.hid (Ext.trans (k1.out) f2); clear f2 b2)
      | (go_at_call 9; refine (HOf.out _ (ext_drew (Ext.refl _))).mono ?_; rintro e x1 ⟨v1, rfl, b1, f1⟩; have K1 := Lib.hid b1; have k1 : Hid (Ext wr x1) := Lib.hid (Ext.trans (ext_drew (Ext.refl _)) f1); clear f1 b1))
  refine NoPanic.normal ?_
  exact HQF.out _ _ _ _ _ _ _ _ _ _ _ _ _ _ _ _ k6.out

set_option maxRecDepth 100000 in
set_option maxHeartbeats 4000000 in
theorem shapeRaw_c (w : World) (h : Hs) (hh : h.Ok) (va : Value) (L : List Ra7) (ha : Sl w 5 va L.length (flatE encR L)) (hL : ∀ a ∈ L, PS w a.v a.l) (hT : Tab32 w) :
    Calls Tryd.prog 3 #[hsV h, va] w fun e w' => e = .returned (.bool true) ∧ Ext w w' := by
  have HP := Lib.hid (And.intro ha (And.intro hL hT))
  clear ha hL hT
  go_enter Tryd.func3, Tryd.ntmps3
  repeat' (go_not_at_region 1; (first | go_skip | go_guarded | go_step))
  obtain ⟨gh, hgh⟩ : ∃ g, g = w.heap.size := ⟨_, rfl⟩
  rw [← hgh]
  refine wp_nameS (fun w' => HsAt w' gh h ∧ Ext w w') ⟨by rw [hgh]; exact heap_new w _, (Ext.refl w).alloc (Nat.le_refl _) _⟩ ?_
  clear hgh
  intro wa HW
  repeat' (first | go_at_call 6 | go_skip | go_guarded | go_step)
  refine (awake07_c wa).mono ?_
  rintro e w1 ⟨rfl, f1⟩
  have H1 : Hid (HsAt w1 gh h ∧ Ext w w1) := Lib.hid ⟨HW.out.1.ext f1, Ext.trans HW.out.2 f1⟩
  clear f1 HW
  go_simp
  repeat' (first | go_at_call 7 | go_skip | go_guarded | go_step)
  refine (built_c w1 va L (HP.out.1.below H1.out.2) (fun a ha => (HP.out.2.1 a ha).below H1.out.2)).mono ?_
  rintro e w2 ⟨g, q, rfl, hR⟩
  obtain ⟨F, is, pX, kX, A, R⟩ := hR
  have HR := Lib.hid R
  clear R
  go_simp
  repeat' (go_not_at_region 4; (first | go_skip | go_guarded | go_step))
  have hok := HR.out.ok
  refine @raw_end (SF (FQ F q)) w2 gh g q h hh (.inn is pX kX) (H1.out.1.ext HR.out.ext) HR.out.rn HR.out.dn hok.sm hok.few (by have := look_fs 13 (.inn is pX kX); have := hok.fs; omega) (by have := all_prs (.inn is pX kX) 13; have := hok.prs; omega) (by have := hok.prs; omega) (HP.out.2.2.ext (Ext.trans H1.out.2 HR.out.ext)) _ _ _ _ _ _ _ _ _ _ _ _ _ _ _ _ _ _ _ _ _ _ _ _ _ _ _ _ (by kernel_rfl) ?_
  intro u14 u15 u16 u17 u18 u19 u20 u21 u22 u23 u24 u25 u26 u27 u28 wx hpo
  have HZ := Lib.hid (Ext.trans H1.out.2 (Ext.trans HR.out.ext hpo))
  clear hpo
  repeat' (first | go_skip | go_guarded | go_step)
  go_ret
  exact ⟨rfl, HZ.out⟩
end Go.Proofs.YtclcgelbcbnekaaDoor
/- ShapeRaw returns true for every hasher and every list of acts, and leaves them as they were; its card, with math/bits.deBruijn32tab tied to the text. No condition beyond the row. -/
namespace Go.Proofs.YtclcgelbcbnekaaDoor.shapeRaw
open Go.RowKit Go.QS Go.ChangeShapes Go.WideShapes Go.ChangeAt Go.Deep
open Go.ChangeMaps (open_string shut_string)
set_option linter.unusedVariables false

/-- The texts behind this one speak of a set of blocks; here all blocks will do. -/
instance anyBlock : Zero (Nat → Prop) := ⟨fun _ => True⟩
theorem own : ownKnob Tryd.prog.godebug = none := by kernel_rfl
theorem laidOut : laidOutB Tryd.prog = true := by kernel_rfl
theorem flatE_encU (l : List UInt8) : flatE encU l = encB l := by
  induction l with
  | nil => rfl
  | cons c l ih => unfold flatE at ih ⊢; rw [List.flatMap_cons, ih]; rfl
set_option maxRecDepth 100000 in
theorem open_bytes {H : Type} {enc : TypeId × Value → H} {W : World} {base : Nat} {spare : Nat → Bool} {held : Bool} {v : Value} {d : DataW H} {p : List MemPlace} {r : Reach} {b0 : Nat} (hv : Value.okWide Tryd.prog W r b0 34 v) (h : DataW.Trod enc Tryd.prog W base spare held 34 v d p) :
    ∃ l : List UInt8, BS W v l := by
  obtain ⟨l, hl, _⟩ := open_el encU encU_len (by decide) (fun _ => True) Tryd.underlying34 (by kernel_rfl) (fun n cs x _ hx => by obtain ⟨c, e⟩ := one_u8 Tryd.underlying5 hx; exact ⟨c, e, trivial⟩) hv h
  rw [flatE_encU] at hl
  exact ⟨l, hl⟩

theorem gTab : Tryd.prog.globalNamed "math/bits.deBruijn32tab" = some 0 := by kernel_rfl
theorem gTabType : (Tryd.prog.globals[0]?).map (·.type) = some 162 := by kernel_rfl
theorem cellsA : Tryd.prog.cellsOf 162 = 32 := by kernel_rfl
theorem cells1 : Tryd.prog.cellsOf 5 = 1 := by kernel_rfl
/-- What the row's list gives: the table's cells. -/
theorem table {W : World} (h : laidMetH Tryd.prog Rows.shapeRawRow.laid W) : Lib.TabIs Tryd.prog W "math/bits.deBruijn32tab" .u8 [0, 1, 28, 2, 29, 14, 24, 3, 30, 22, 20, 15, 25, 17, 4, 8, 31, 27, 13, 23, 21, 19, 16, 7, 26, 12, 18, 6, 11, 5, 10, 9] :=
  Lib.tabIs_of_head (rest := []) gTab gTabType Tryd.underlying162 Tryd.underlying5 cells1 cellsA h
theorem tabI : ∀ j, j < 32 → ([0, 1, 28, 2, 29, 14, 24, 3, 30, 22, 20, 15, 25, 17, 4, 8, 31, 27, 13, 23, 21, 19, 16, 7, 26, 12, 18, 6, 11, 5, 10, 9] : List Int).getD j 0 = ((Lib.deBruijn32tab.getD j 0 : Nat) : Int) := by decide
theorem tab32 {W : World} (h : laidMetH Tryd.prog Rows.shapeRawRow.laid W) : Tab32 W := fun j hj => by
  rw [(table h).cell gTab j hj, tabI j hj]
theorem open_el2 {α : Type} {k : Nat} {H : Type} {enc : TypeId × Value → H} {P : Program} [Inhabited α] (f : α → List Value) (hk : ∀ a, (f a).length = k) (hk0 : 0 < k) (R : α → Prop) {t e : TypeId} {W : World} {base : Nat} {spare : Nat → Bool} {held : Bool} {fuel : Nat} {cs : List Value} {x : DataW H × List MemPlace} (ht : P.underlying t = some (.slice e)) (hC : P.cellsOf e = k)
    (one : ∀ (n : Nat) (cs : List Value) (x : DataW H × List MemPlace), cs.length = k → DataW.trod enc P W base spare held n e cs = some x → ∃ a, cs = f a ∧ R a)
    (hf : DataW.trod enc P W base spare held fuel t cs = some x) : ∃ v, cs = [v] ∧ ∃ l : List α, Sl W k v l.length (flatE f l) ∧ ∀ a ∈ l, R a := by
  rcases open_slice ht hf with ⟨h0, _⟩ | ⟨a', len, cap, m, n, D, Pl, hcs, hb, hl, hm, hmm, _, hi⟩
  · exact ⟨_, h0, [], Sl.nil W k, by simp⟩
  · refine ⟨_, hcs, ?_⟩
    have hlm : len ≤ m := by rw [hmm]; split <;> omega
    have one' : ∀ i, i < len → ∃ y : α, (∀ j, j < k → W.cell? (a'.add (i * k + j)) = (f y)[j]?) ∧ R y := by
      intro i hil
      obtain ⟨cs, hc, hd⟩ := hi i (by omega)
      rw [hC] at hc
      obtain ⟨_, hcl, hat⟩ := World.cells?_some hc
      obtain ⟨y, hy, hR⟩ := one n cs _ hcl hd
      refine ⟨y, fun j hj => ?_, hR⟩
      have := hat j hj
      rw [add_add, hy] at this
      exact this
    obtain ⟨F, hF⟩ := choose_lt one'
    refine ⟨(List.range len).map F, ⟨some a', cap, by simp, ?_, by simpa using hl, hm, ?_⟩, ?_⟩
    · rw [flatE_length hk]
    · intro hne
      have hlen : 0 < len := by
        rcases Nat.eq_zero_or_pos len with h | h
        · subst h; simp [flatE] at hne
        · exact h
      obtain ⟨b, o, sp⟩ := a'
      have hsp : sp = none := by
        have h0 := (hF 0 hlen).1 0 hk0
        obtain ⟨u, hu⟩ := get_of_lt (f (F 0)) (show 0 < (f (F 0)).length by rw [hk]; exact hk0)
        rw [hu] at h0
        simpa [Addr.add] using World.cell?_spot h0
      subst hsp
      refine ⟨b, o, rfl, fun j u hj => ?_⟩
      have hjl : j < len * k := by have := (List.getElem?_eq_some_iff.1 hj).1; rw [flatE_length hk] at this; simpa using this
      have hdk : j / k < len := Nat.div_lt_of_lt_mul (by rw [Nat.mul_comm]; exact hjl)
      have hmk : j % k < k := Nat.mod_lt _ hk0
      have hF2 := (hF (j / k) hdk).1 (j % k) hmk
      rw [Addr.add_lit, show j / k * k + j % k = j by rw [Nat.mul_comm]; exact Nat.div_add_mod j k] at hF2
      obtain ⟨u', hu'⟩ := get_of_lt (f (F (j / k))) (show j % k < (f (F (j / k))).length by rw [hk]; exact hmk)
      have hg := flatE_get hk (l := (List.range len).map F) (i := j / k) (a := F (j / k)) (by rw [List.getElem?_map, List.getElem?_range hdk]; rfl) hu'
      rw [show j / k * k + j % k = j by rw [Nat.mul_comm]; exact Nat.div_add_mod j k, hj] at hg
      rw [hF2, hu', Option.some.inj hg]
    · intro q hq
      obtain ⟨i, hi, rfl⟩ := List.mem_map.1 hq
      exact (hF i (List.mem_range.1 hi)).2
set_option maxRecDepth 100000 in
theorem one_raw {H : Type} {enc : TypeId × Value → H} {W : World} {base : Nat} {spare : Nat → Bool} {held : Bool} (n : Nat) (cs : List Value) (x : DataW H × List MemPlace) (hl : cs.length = 5) (h : DataW.trod enc Tryd.prog W base spare held n 75 cs = some x) : ∃ a : Ra7, cs = encR a ∧ PS W a.v a.l := by
  obtain ⟨y0, y1, y2, y3, m, rfl, _, g0, g1, g2, g3⟩ := Joins.trod_struct4 Tryd.underlying75 h
  have k1 : Tryd.prog.cellsOf 5 = 1 := by kernel_rfl
  have k2 : Tryd.prog.cellsOf 45 = 2 := by kernel_rfl
  have k3 : Tryd.prog.cellsOf 9 = 1 := by kernel_rfl
  have k4 : Tryd.prog.cellsOf 43 = 1 := by kernel_rfl
  match cs, hl with
  | [c0, c1, c2, c3, c4], _ =>
    rw [k1] at g0 g1
    rw [k2] at g2
    rw [k4] at g3
    obtain ⟨z0, z1, m', e, _, s0, s1⟩ := trod_struct2 Tryd.underlying45 g2
    rw [k3] at s0 s1
    obtain ⟨u0, e0⟩ := one_u8 Tryd.underlying5 g0
    obtain ⟨u1, e1⟩ := one_u8 Tryd.underlying5 g1
    obtain ⟨u2, e2, b2⟩ := one_str Tryd.underlying9 s0
    obtain ⟨u3, e3, b3⟩ := one_str Tryd.underlying9 s1
    obtain ⟨v, e4, l, hS, _⟩ := open_el2 encP (fun _ => rfl) (by decide) (fun _ => True) Tryd.underlying43 k2 (fun n cs x hc hx => by
      obtain ⟨z0, z1, m', e, _, s0, s1⟩ := trod_struct2 Tryd.underlying45 hx
      match cs, hc with
      | [c0, c1], _ =>
        rw [k3] at s0 s1
        obtain ⟨u2, e2, b2⟩ := one_str Tryd.underlying9 s0
        obtain ⟨u3, e3, b3⟩ := one_str Tryd.underlying9 s1
        refine ⟨(u2, u3), ?_, trivial⟩
        simp at e2 e3
        simp [encP, e2, e3]) g3
    refine ⟨⟨u0, u1, (u2, u3), v, l⟩, ?_, hS⟩
    simp at e0 e1 e2 e3 e4
    simp [encR, e0, e1, e2, e3, e4]
instance : Inhabited Ra7 := ⟨⟨0, 0, ([], []), .slice none 0 0, []⟩⟩
set_option maxRecDepth 100000 in
theorem open_raws {H : Type} {enc : TypeId × Value → H} {W : World} {base : Nat} {spare : Nat → Bool} {held : Bool} {v : Value} {d : DataW H} {p : List MemPlace} {r : Reach} {b0 : Nat} (hv : Value.okWide Tryd.prog W r b0 27 v) (h : DataW.Trod enc Tryd.prog W base spare held 27 v d p) :
    ∃ l : List Ra7, Sl W 5 v l.length (flatE encR l) ∧ ∀ a ∈ l, PS W a.v a.l :=
  open_el encR encR_len (by decide) (fun a => PS W a.v a.l) Tryd.underlying27 (by kernel_rfl) (fun n cs x hl hx => one_raw n cs x hl hx) hv h
set_option maxRecDepth 100000 in
theorem contract (H : Type) (enc : TypeId × Value → H) (W : World) (base : Nat) (args : Array Value) (ds gs : List (DataW H)) (before : List MemPlace)
    (hval : ∀ (j : Nat) t v, Tryd.f3.params[j]? = some t → args[j]? = some v → Value.okWide Tryd.prog W .any base t v)
    (hW : DataW.Whole enc Tryd.prog Tryd.f3.params.toList Rows.shapeRawSpec.vars false W args.toList ds gs before) (hL : laidMetH Tryd.prog Rows.shapeRawRow.laid W) :
    Calls Tryd.prog 3 args W fun e W' => ∃ v, e = .returned v ∧ Rows.shapeRawSpec.post enc Tryd.prog Tryd.f3 false true false false W args v W' := by
  have hW' := hW
  obtain ⟨p, q, hA0, hV, rfl, hfz, hnd⟩ := hW
  have hA : DataW.TrodAll enc Tryd.prog W 0 (fun _ => true) true Tryd.f3.params.toList args.toList ds p := hA0
  rw [Tryd.params3] at hA hval
  obtain ⟨v0, vs0, d0, ds0, p0, q0, hargs, rfl, rfl, h0, r0⟩ := trodAll_cons hA
  obtain ⟨v1, vs1, d1, ds1, p1, q1, rfl, rfl, rfl, h1, r1⟩ := trodAll_cons r0
  obtain ⟨rfl, rfl, rfl⟩ := trodAll_nil r1
  obtain rfl : args = #[v0, v1] := by cases args; simp_all
  obtain ⟨rfl, rfl⟩ := trodVars_none hV
  obtain ⟨a0, rfl, b0⟩ := open_hs (hval 0 _ v0 rfl rfl) h0
  obtain ⟨l1, k1, b1⟩ := open_raws (hval 1 _ v1 rfl rfl) h1
  clear hA0
  have hc : Calls Tryd.prog 3 #[hsV a0, v1] W fun e w' => e = .returned (.bool true) ∧ Ext W w' := by
    exact shapeRaw_c W a0 b0 v1 l1 k1 b1 (tab32 hL)
  refine hc.mono fun e W' ⟨he, bel⟩ => ?_
  subst he
  exact ⟨_, rfl, law_post laidOut (by kernel_rfl) rfl Tryd.underlying4 hW' rfl rfl rfl rfl bel⟩

/-- A world for the witness: the settled one, the table (block 0) holding what its initialiser lays. -/
noncomputable def laidWorld (os : Os) : World :=
  { World.holding Tryd.prog os ⟨#[], #[], []⟩ with heap := (World.holding Tryd.prog os ⟨#[], #[], []⟩).heap.modify 0 fun
      | .cells _ t frozen => .cells #[.int .u8 0, .int .u8 1, .int .u8 28, .int .u8 2, .int .u8 29, .int .u8 14, .int .u8 24, .int .u8 3, .int .u8 30, .int .u8 22, .int .u8 20, .int .u8 15, .int .u8 25, .int .u8 17, .int .u8 4, .int .u8 8, .int .u8 31, .int .u8 27, .int .u8 13, .int .u8 23, .int .u8 21, .int .u8 19, .int .u8 16, .int .u8 7, .int .u8 26, .int .u8 12, .int .u8 18, .int .u8 6, .int .u8 11, .int .u8 5, .int .u8 10, .int .u8 9] t frozen
      | o => o }
theorem laid_met (os : Os) : laidMet Tryd.prog Rows.shapeRawRow.laid ((laidWorld os).forCall (fun _ _ => 0) ⟨#[], #[.agg #[.int .u64 0, .int .u64 0, .int .u64 0], .slice none 0 0], []⟩).memory :=
  laidMet_of_run' 40 (by kernel_rfl) (by kernel_rfl)
theorem reads (os : Os) {H : Type} (enc : TypeId × Value → H) : ∃ places, DataW.whole enc Tryd.prog ((laidWorld os).forCall (fun _ _ => 0) ⟨#[], #[.agg #[.int .u64 0, .int .u64 0, .int .u64 0], .slice none 0 0], []⟩).memory Tryd.f3.params.toList Rows.shapeRawSpec.vars false (#[.agg #[.int .u64 0, .int .u64 0, .int .u64 0], .slice none 0 0] : Array Value).toList 8 = some ([.agg [.agg [.lit (.int .u64 0), .lit (.int .u64 0)], .lit (.int .u64 0)], .nil], [], places) :=
  ⟨[], by kernel_rfl⟩

set_option maxRecDepth 100000 in
theorem lifted (os : Os) (started : os.Started) (H : Type) (enc : TypeId × Value → H) (F : Stop.Interp) :
    ReturnsInHanded {} Tryd.checked os 3 .any ((OpenSpec.ofChange Rows.shapeRawSpec).preRow enc Tryd.prog Tryd.f3 Rows.shapeRawRow.domain false Rows.shapeRawRow.laid) (((OpenSpec.ofChange Rows.shapeRawSpec).at F).post enc Tryd.prog Tryd.f3 false true false false) := by
  obtain ⟨places, hx⟩ := reads os enc
  refine returnsInHanded_of_row (C := Tryd.checked) (s := OpenSpec.ofChange Rows.shapeRawSpec) own started (by kernel_rfl) Tryd.func3
    (witness_row_at (enc := enc) (C := Tryd.checked) false (laidWorld os) #[.agg #[.int .u64 0, .int .u64 0, .int .u64 0], .slice none 0 0] rfl (by kernel_rfl) (by kernel_rfl) (by kernel_rfl)
      (OpenSpec.preRow_of_cond 8 hx (by kernel_rfl) (fun k hk => by cases hk) (by kernel_rfl) (laid_met os))) ?_
  intro W base args ds gs before hval hW _ _ _ hL _ _
  exact contract H enc W base args ds gs before hval hW hL

theorem said : Rows.ShapeRawSaid :=
  OpenClaim.holds_of_cond 3 Tryd.f3 rfl rfl rfl rfl rfl rfl rfl ⟨rfl, rfl, rfl, rfl, rfl⟩ rfl rfl rfl rfl rfl (by kernel_rfl) Tryd.func3 (by kernel_rfl)
    (of_decide_eq_true (by kernel_rfl)) (by unfold Func.isWrapper; first | (rw [if_pos (by decide +kernel)]; kernel_rfl) | (rw [if_neg (by decide +kernel)]; exact ⟨rfl, rfl⟩))
    (fun os started H enc _ F => by rw [OpenClaim.pre_eq_preRow]; exact lifted os started H enc F)

/-- No parameter wants a stand-in; the program's own looks are off. -/
theorem plain (f : FuncId) (fn : Func) (hf : Tryd.pinned.checked.prog.funcNamed "quickset/quicksetlaw07.ShapeRaw" = some f) (hfn : Tryd.pinned.checked.prog.funcs[f]? = some fn) :
    false = Tryd.pinned.checked.prog.looks [] ∧ ∀ (j : Nat) t, fn.params[j]? = some t → Tryd.pinned.checked.prog.wantsStandIn t = false := by
  obtain rfl : f = 3 := Option.some.inj ((show Tryd.prog.funcNamed "quickset/quicksetlaw07.ShapeRaw" = some 3 by kernel_rfl).symm.trans hf) |>.symm
  obtain rfl : fn = Tryd.f3 := (Option.some.inj (Tryd.func3.symm.trans hfn)).symm
  refine ⟨by kernel_rfl, fun j t ht => ?_⟩
  rw [Tryd.params3] at ht
  have hall : (Tryd.f3.params.toList.all fun t => !Tryd.prog.wantsStandIn t) = true := by kernel_rfl
  have hm : t ∈ Tryd.f3.params.toList := by rw [Tryd.params3]; exact Array.mem_toList_iff.2 (Array.mem_of_getElem? ht)
  have := List.all_eq_true.1 hall t hm
  exact (show Tryd.prog.wantsStandIn t = false by simpa using this)

theorem proved : Rows.ShapeRawCardSaid :=
  Claim7.holds_tied_plain_at .later [] _ _ _ _ said (fun _ h => by cases h) (by kernel_rfl) (fun _ h => by cases h) shapeRaw_row_tie rfl ⟨rfl, rfl⟩ (by kernel_rfl) rfl plain (by kernel_rfl)
end Go.Proofs.YtclcgelbcbnekaaDoor.shapeRaw
