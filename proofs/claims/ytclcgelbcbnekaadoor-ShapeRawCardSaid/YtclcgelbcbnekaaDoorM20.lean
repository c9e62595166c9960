/- Texts joined. -/
import Derived.Test.YtclcgelbcbnekaaDoorM19
import Derived.Test.YtclcgelbcbnekaaDoorM11
import Derived.Deep.RegionHeld3
import Derived.Deep.DeepCutAuto
import Derived.IntWalk
import Derived.Laws.Rows
set_option linter.unusedVariables false
set_option linter.unusedSimpArgs false
/- Contract: the trie of two pairs of unlike keys. -/
namespace Go.Proofs.YtclcgelbcbnekaaDoor
open Go.RowKit Go.QS Go.QS.Nk
set_option linter.unusedVariables false
variable [Zero (Nat → Prop)]
set_option linter.unusedSectionVars false

abbrev WK : TypeId := 110
abbrev wkV (h : Hs) (key : List UInt8) (x : Nat) : Value := .agg #[.int .u64 h.k0, .int .u64 h.k1, .int .u64 h.mask, nil0, str key, .int .u64 x]
abbrev prV (p : Pr) : Value := .agg #[str p.1, str p.2]
def WkAt (w : World) (g : Nat) (h : Hs) (key : List UInt8) (x : Nat) : Prop := w.heap[g]? = some (.cells #[.int .u64 h.k0, .int .u64 h.k1, .int .u64 h.mask, nil0, str key, .int .u64 x] WK (0, 0))
def PrAt (w : World) (g : Nat) (p : Pr) : Prop := w.heap[g]? = some (.cells #[str p.1, str p.2] NP (0, 0))
theorem WkAt.ext {w w' : World} {g : Nat} {h : Hs} {k : List UInt8} {x : Nat} (H : WkAt w g h k x) (f : Ext w w') : WkAt w' g h k x := (f.block g (heap_lt H)).trans H
theorem PrAt.ext {w w' : World} {g : Nat} {p : Pr} (H : PrAt w g p) (f : Ext w w') : PrAt w' g p := (f.block g (heap_lt H)).trans H
theorem WkAt.new (w : World) (h : Hs) (k : List UInt8) (x : Nat) : WkAt (w.alloc (.cells #[.int .u64 h.k0, .int .u64 h.k1, .int .u64 h.mask, nil0, str k, .int .u64 x] WK)) w.heap.size h k x := heap_new w _
theorem PrAt.new (w : World) (p : Pr) : PrAt (w.alloc (.cells #[str p.1, str p.2] NP)) w.heap.size p := heap_new w _
theorem WkAt.cells {w : World} {g : Nat} {h : Hs} {k : List UInt8} {x : Nat} (H : WkAt w g h k x) : w.cell? ⟨g, 0, none⟩ = some (.int .u64 h.k0) ∧ w.cell? ⟨g, 1, none⟩ = some (.int .u64 h.k1) ∧ w.cell? ⟨g, 2, none⟩ = some (.int .u64 h.mask) ∧ w.cell? ⟨g, 3, none⟩ = some nil0 ∧ w.cell? ⟨g, 4, none⟩ = some (str k) ∧ w.cell? ⟨g, 5, none⟩ = some (.int .u64 x) := by
  unfold WkAt at H
  simp [World.cell?, H]
theorem PrAt.cells {w : World} {g : Nat} {p : Pr} (H : PrAt w g p) : w.cell? ⟨g, 0, none⟩ = some (str p.1) ∧ w.cell? ⟨g, 1, none⟩ = some (str p.2) := by
  unfold PrAt at H
  simp [World.cell?, H]
/-- What a region of 'both' reads. -/
abbrev B3 (w : World) (a b c : Nat) (h : Hs) (p q : Pr) (x : Nat) : Prop :=
  w.cell? ⟨a, 0, none⟩ = some (.int .u64 h.k0) ∧ w.cell? ⟨a, 1, none⟩ = some (.int .u64 h.k1) ∧ w.cell? ⟨a, 2, none⟩ = some (.int .u64 h.mask) ∧ w.cell? ⟨a, 3, none⟩ = some nil0 ∧ w.cell? ⟨a, 4, none⟩ = some (str q.1) ∧ w.cell? ⟨a, 5, none⟩ = some (.int .u64 x) ∧
  w.cell? ⟨b, 0, none⟩ = some (str p.1) ∧ w.cell? ⟨b, 1, none⟩ = some (str p.2) ∧ w.cell? ⟨c, 0, none⟩ = some (str q.1) ∧ w.cell? ⟨c, 1, none⟩ = some (str q.2)
theorem b3_of {w : World} {a b c : Nat} {h : Hs} {p q : Pr} {x : Nat} (H : WkAt w a h q.1 x ∧ PrAt w b p ∧ PrAt w c q) : B3 w a b c h p q x := by
  obtain ⟨h0, h1, h2, h3, h4, h5⟩ := H.1.cells
  obtain ⟨p0, p1⟩ := H.2.1.cells
  obtain ⟨q0, q1⟩ := H.2.2.cells
  exact ⟨h0, h1, h2, h3, h4, h5, p0, p1, q0, q1⟩
theorem b3_ext {w w' : World} {a b c : Nat} {h : Hs} {p q : Pr} {x : Nat} (H : WkAt w a h q.1 x ∧ PrAt w b p ∧ PrAt w c q) (f : Ext w w') : WkAt w' a h q.1 x ∧ PrAt w' b p ∧ PrAt w' c q := ⟨H.1.ext f, H.2.1.ext f, H.2.2.ext f⟩
theorem b3a {w : World} {a b c : Nat} {h : Hs} {p q : Pr} {x : Nat} (H : B3 w a b c h p q x) : w.cell? ⟨a, 3, none⟩ = some nil0 ∧ w.cell? ⟨b, 0, none⟩ = some (str p.1) ∧ w.cell? ⟨b, 1, none⟩ = some (str p.2) ∧ w.cell? ⟨c, 0, none⟩ = some (str q.1) ∧ w.cell? ⟨c, 1, none⟩ = some (str q.2) :=
  ⟨H.2.2.2.1, H.2.2.2.2.2.2.1, H.2.2.2.2.2.2.2.1, H.2.2.2.2.2.2.2.2.1, H.2.2.2.2.2.2.2.2.2⟩
theorem b3b {w : World} {a b c : Nat} {h : Hs} {p q : Pr} {x : Nat} (H : B3 w a b c h p q x) : w.cell? ⟨a, 0, none⟩ = some (.int .u64 h.k0) ∧ w.cell? ⟨a, 1, none⟩ = some (.int .u64 h.k1) ∧ w.cell? ⟨a, 2, none⟩ = some (.int .u64 h.mask) ∧ w.cell? ⟨b, 0, none⟩ = some (str p.1) ∧ w.cell? ⟨a, 5, none⟩ = some (.int .u64 x) :=
  ⟨H.1, H.2.1, H.2.2.1, H.2.2.2.2.2.2.1, H.2.2.2.2.2.1⟩
theorem TR.put {T : TypeId} {H : List UInt8 → Nat} {w w' : World} {f i g' : Nat} {sl : List (Slot Nat)} {s : Slot Nat} {l : List Pr} {p : Pr} (hr : Rise l) (hi : chk (H p.1) (12 - f) = i) (h2 : ∀ c s, sl[c]? = some s → SlotOk (TR T H w f) s (Go.QS.part H (12 - f) c l)) (hE : Ext w w') (hN : In T w' g' (sl.set i s)) (hs : SlotOk (TR T H w' f) s (rput (Go.QS.part H (12 - f) i l) p)) : TR T H w' (f + 1) g' (rput l p) := by
  refine TR.turn h2 hE hN ?_ fun c hc => part_put_off hr (fun e => hc (by rw [← e, hi]))
  subst hi
  rw [part_put hr]; exact hs
theorem TR.drop {T : TypeId} {H : List UInt8 → Nat} {w w' : World} {f i g' : Nat} {sl : List (Slot Nat)} {s : Slot Nat} {l : List Pr} {k : List UInt8} (hi : chk (H k) (12 - f) = i) (h2 : ∀ c s, sl[c]? = some s → SlotOk (TR T H w f) s (Go.QS.part H (12 - f) c l)) (hE : Ext w w') (hN : In T w' g' (sl.set i s)) (hs : SlotOk (TR T H w' f) s (rdrop (Go.QS.part H (12 - f) i l) k)) : TR T H w' (f + 1) g' (rdrop l k) := by
  refine TR.turn h2 hE hN ?_ fun c hc => part_drop_off (fun e => hc (by rw [← e, hi]))
  rw [part_drop]; exact hs
theorem sl0_ok {T : TypeId} {H : List UInt8 → Nat} {w : World} {f : Nat} : ∀ c s, (sl0 Nat)[c]? = some s → SlotOk (TR T H w f) s (Go.QS.part H (12 - f) c []) := fun c s hs => by
  have hc := get_lt hs
  rw [sl0_length] at hc
  rw [sl0_get hc] at hs
  cases hs
  exact part_nil
theorem part_one {H : List UInt8 → Nat} {lv : Nat} {p : Pr} : Go.QS.part H lv (chk (H p.1) lv) [p] = [p] := by simp [Go.QS.part]
theorem part_one_off {H : List UInt8 → Nat} {lv c : Nat} {p : Pr} (h : chk (H p.1) lv ≠ c) : Go.QS.part H lv c [p] = [] := by simp [Go.QS.part, h]
theorem rput_nil (p : Pr) : rput [] p = [p] := rfl

set_option maxRecDepth 100000 in
set_option maxHeartbeats 600000 in
theorem both_c (h : Hs) (hk : h.Ok) : ∀ (f : Nat) (w : World) (p q : Pr) (lv : Nat), (∀ k, w.heap.size ≤ k → S9 k) → lv + f = 13 → p.1 ≠ q.1 → p.1.length ≤ 1000000 → q.1.length ≤ 1000000 →
    Calls Tryd.prog 86 #[wkV h q.1 (h.hash q.1), prV p, prV q, .int .i64 lv] w fun e w' => ∃ g, e = .returned (ptr g) ∧ TR ND h.hash w' f g (rput [p] q) ∧ Ext w w' ∧ w.heap.size ≤ g := by
  intro f
  induction f with
  | zero =>
    intro w p q lv hnw hl hpq hp9 hq9
    have HNW : Hid (∀ W, Ext w W → ∀ k, W.heap.size ≤ k → S9 k) := Lib.hid (fun W f k hk => hnw k (Nat.le_trans f.size hk))
    clear hnw
    have d13 : ((lv : Int) == 13) = true := by simp; omega
    have d13' : (lv == 13) = true := by simp; omega
    have d13'' : decide ((lv : Int) = 13) = true := by simp; omega
    obtain ⟨x, hx⟩ : ∃ x, x = h.hash q.1 := ⟨_, rfl⟩
    rw [← hx]
    have HX := Lib.hid hx
    clear hx
    obtain ⟨a, ha⟩ : ∃ a, a = w.heap.size := ⟨_, rfl⟩
    obtain ⟨b, hb⟩ : ∃ b, b = a + 1 := ⟨_, rfl⟩
    obtain ⟨c, hc⟩ : ∃ c, c = b + 1 := ⟨_, rfl⟩
    go_enter Tryd.func86, Tryd.ntmps86
    repeat' (go_not_at_region 2; (first | go_skip | go_guarded | go_step))
    rw [← ha, ← hb, ← hc]
    refine wp_named (fun w' => (WkAt w' a h q.1 x ∧ PrAt w' b p ∧ PrAt w' c q) ∧ Ext w w') ⟨⟨?_, ?_, ?_⟩, (((Ext.refl w).alloc (Nat.le_refl _) _).alloc (by simp) _).alloc (by simp; omega) _⟩ ?_
    · rw [ha]; exact ((WkAt.new w h q.1 x).ext ((Ext.refl _).alloc (Nat.le_refl _) _)).ext ((Ext.refl _).alloc (Nat.le_refl _) _)
    · have := PrAt.new (w.alloc (.cells #[.int .u64 h.k0, .int .u64 h.k1, .int .u64 h.mask, nil0, str q.1, .int .u64 x] WK)) p
      rw [show b = (w.alloc (.cells #[.int .u64 h.k0, .int .u64 h.k1, .int .u64 h.mask, nil0, str q.1, .int .u64 x] WK)).heap.size by rw [hb, ha]; simp]
      exact this.ext ((Ext.refl _).alloc (Nat.le_refl _) _)
    · have := PrAt.new ((w.alloc (.cells #[.int .u64 h.k0, .int .u64 h.k1, .int .u64 h.mask, nil0, str q.1, .int .u64 x] WK)).alloc (.cells #[str p.1, str p.2] NP)) q
      rw [show c = ((w.alloc (.cells #[.int .u64 h.k0, .int .u64 h.k1, .int .u64 h.mask, nil0, str q.1, .int .u64 x] WK)).alloc (.cells #[str p.1, str p.2] NP)).heap.size by rw [hc, hb, ha]; simp]
      exact this
    clear ha hb hc
    intro wa HW
    have HB := Lib.hid (b3_of HW.out.1)
    obtain ⟨h0, h1, h2, h3, h4, h5, p0, p1, q0, q1⟩ := HB.out
    go_region_held3 (fun w' => w'.cell? ⟨a, 3, none⟩ = some nil0 ∧ w'.cell? ⟨b, 0, none⟩ = some (str p.1) ∧ w'.cell? ⟨b, 1, none⟩ = some (str p.2) ∧ w'.cell? ⟨c, 0, none⟩ = some (str q.1) ∧ w'.cell? ⟨c, 1, none⟩ = some (str q.2))
      (first | exact b3a <| b3_of (b3_ext HW.out.1 k3.out) | exact b3a <| b3_of (b3_ext HW.out.1 k2.out) | exact b3a <| b3_of (b3_ext HW.out.1 k1.out) | exact b3a <| b3_of (b3_ext HW.out.1 (below_drewN (Ext.refl _) 1)))
      (first
        | (go_at_call 27; refine (bucket0_c _ (HNW.out _ (HW.out.2.trans (below_drewN (Ext.refl _) 1)))).mono ?_; rintro e x1 ⟨g1, rfl, B1, f1, s1⟩; have k1 : Hid (Ext wa x1) := Lib.hid (Ext.trans (below_drewN (Ext.refl _) 1) f1); have K1 := Lib.hid B1; clear B1 f1)
        | (go_at_call 28; have mk2 := K2; refine (bput_c x2 g2 _ q K2.out (by simp [Rise, rput_nil]) (by simp [rput_nil])).mono ?_; rintro e x3 ⟨g3, rfl, B3, f3, s3⟩; have k3 : Hid (Ext wa x3) := Lib.hid (Ext.trans k2.out f3); have K3 := Lib.hid (And.intro B3 s3); clear B3 f3)
        | (go_at_call 28; refine (bput_c x1 g1 [] p K1.out rise_nil (by simp)).mono ?_; rintro e x2 ⟨g2, rfl, B2, f2, s2⟩; have k2 : Hid (Ext wa x2) := Lib.hid (Ext.trans k1.out f2); have K2 := Lib.hid B2; clear B2 f2))
    repeat' (first | go_skip | go_guarded | go_step)
    go_ret
    refine ⟨g3, rfl, K3.out.1, HW.out.2.trans k3.out, ?_⟩
    have := HW.out.2.size
    have := k2.out.size
    have := K3.out.2
    omega
  | succ f ih =>
    intro w p q lv hnw hl hpq hp9 hq9
    have HNW : Hid (∀ W, Ext w W → ∀ k, W.heap.size ≤ k → S9 k) := Lib.hid (fun W f k hk => hnw k (Nat.le_trans f.size hk))
    clear hnw
    have d13 : ((lv : Int) == 13) = false := by rw [beq_eq_false_iff_ne]; omega
    have d13' : (lv == 13) = false := by rw [beq_eq_false_iff_ne]; omega
    have d13'' : decide ((lv : Int) = 13) = false := by rw [decide_eq_false_iff_not]; omega
    have IH := Lib.hid ih
    have HL := Lib.hid hl
    have hlv : lv < 13 := by omega
    clear ih hl
    have hp64 := Hs.hash_lt hk p.1
    have hq64 := Hs.hash_lt hk q.1
    obtain ⟨i, hi⟩ : ∃ i, i = chk (h.hash p.1) lv := ⟨_, rfl⟩
    obtain ⟨j, hj⟩ : ∃ j, j = chk (h.hash q.1) lv := ⟨_, rfl⟩
    have hi32 : i < 32 := by rw [hi]; exact chk_lt _ _
    have hj32 : j < 32 := by rw [hj]; exact chk_lt _ _
    have HH := Lib.hid (fun W => hash_c W h p.1 hk (by omega))
    have HI := Lib.hid (fun W => at_c W (h.hash p.1) lv hp64 hlv)
    have HJ0 := fun W => at_c W (h.hash q.1) lv hq64 hlv
    rw [← hi] at HI
    rw [← hj] at HJ0
    have HJ := Lib.hid HJ0
    clear HJ0
    have HC := Lib.hid (And.intro hi hj)
    clear hi hj hp64 hq64
    obtain ⟨y, hy⟩ : ∃ y, y = h.hash p.1 := ⟨_, rfl⟩
    rw [← hy] at HH HI
    clear hy
    obtain ⟨x, hx⟩ : ∃ x, x = h.hash q.1 := ⟨_, rfl⟩
    rw [← hx] at HJ ⊢
    have HX := Lib.hid hx
    clear hx
    obtain ⟨a, ha⟩ : ∃ a, a = w.heap.size := ⟨_, rfl⟩
    obtain ⟨b, hb⟩ : ∃ b, b = a + 1 := ⟨_, rfl⟩
    obtain ⟨c, hc⟩ : ∃ c, c = b + 1 := ⟨_, rfl⟩
    go_enter Tryd.func86, Tryd.ntmps86
    repeat' (go_not_at_region 3; (first | go_skip | go_guarded | go_step))
    rw [← ha, ← hb, ← hc]
    refine wp_named (fun w' => (WkAt w' a h q.1 x ∧ PrAt w' b p ∧ PrAt w' c q) ∧ Ext w w') ⟨⟨?_, ?_, ?_⟩, (((Ext.refl w).alloc (Nat.le_refl _) _).alloc (by simp) _).alloc (by simp; omega) _⟩ ?_
    · rw [ha]; exact ((WkAt.new w h q.1 x).ext ((Ext.refl _).alloc (Nat.le_refl _) _)).ext ((Ext.refl _).alloc (Nat.le_refl _) _)
    · have := PrAt.new (w.alloc (.cells #[.int .u64 h.k0, .int .u64 h.k1, .int .u64 h.mask, nil0, str q.1, .int .u64 x] WK)) p
      rw [show b = (w.alloc (.cells #[.int .u64 h.k0, .int .u64 h.k1, .int .u64 h.mask, nil0, str q.1, .int .u64 x] WK)).heap.size by rw [hb, ha]; simp]
      exact this.ext ((Ext.refl _).alloc (Nat.le_refl _) _)
    · have := PrAt.new ((w.alloc (.cells #[.int .u64 h.k0, .int .u64 h.k1, .int .u64 h.mask, nil0, str q.1, .int .u64 x] WK)).alloc (.cells #[str p.1, str p.2] NP)) q
      rw [show c = ((w.alloc (.cells #[.int .u64 h.k0, .int .u64 h.k1, .int .u64 h.mask, nil0, str q.1, .int .u64 x] WK)).alloc (.cells #[str p.1, str p.2] NP)).heap.size by rw [hc, hb, ha]; simp]
      exact this
    clear ha hb hc
    intro wa HW
    have HB := Lib.hid (b3_of HW.out.1)
    obtain ⟨h0, h1, h2, h3, h4, h5, p0, p1, q0, q1⟩ := HB.out
    go_region_held3 (fun w' => w'.cell? ⟨a, 0, none⟩ = some (.int .u64 h.k0) ∧ w'.cell? ⟨a, 1, none⟩ = some (.int .u64 h.k1) ∧ w'.cell? ⟨a, 2, none⟩ = some (.int .u64 h.mask) ∧ w'.cell? ⟨b, 0, none⟩ = some (str p.1) ∧ w'.cell? ⟨a, 5, none⟩ = some (.int .u64 x))
      (first | exact b3b <| b3_of (b3_ext HW.out.1 k3.out) | exact b3b <| b3_of (b3_ext HW.out.1 k2.out) | exact b3b <| b3_of (b3_ext HW.out.1 k1.out) | exact b3b <| b3_of (b3_ext HW.out.1 (below_drewN (Ext.refl _) 1)))
      (first
        | (go_at_call 47; refine (HH.out _).mono ?_; rintro e x1 ⟨rfl, f1⟩; have k1 : Hid (Ext wa x1) := Lib.hid (Ext.trans (below_drewN (Ext.refl _) 1) f1); clear f1)
        | (go_at_call 85; have mk2 := mkI; refine (HJ.out _).mono ?_; rintro e x3 ⟨rfl, rfl⟩)
        | (go_at_call 85; refine (HI.out _).mono ?_; rintro e x2 ⟨rfl, rfl⟩; have mkI := Lib.hid True.intro))
    have HW1 : Hid ((WkAt x1 a h q.1 x ∧ PrAt x1 b p ∧ PrAt x1 c q) ∧ Ext w x1) := Lib.hid ⟨b3_ext HW.out.1 k1.out, HW.out.2.trans k1.out⟩
    clear h0 h1 h2 h3 h4 h5 p0 p1 q0 q1 k1 HW HB mkI
    obtain ⟨h0, h1, h2, h3, h4, h5, p0, p1, q0, q1⟩ := b3_of HW1.out.1
    by_cases hij : i = j
    · subst hij
      have dij : ((i : Int) == (i : Int)) = true := by simp
      obtain ⟨l1, hl1⟩ : ∃ l1, l1 = lv + 1 := ⟨_, rfl⟩
      have e1 : (lv : Int) + 1 = (l1 : Int) := by omega
      have e2 : IntKind.i64.wrap (l1 : Int) = (l1 : Int) := IntWalk.i64_in _ (by omega)
      have HL1 := Lib.hid hl1
      clear hl1
      repeat' (go_not_at_region 5; (first | go_skip | go_guarded | go_step))
      go_region_held3 (fun w' => w'.cell? ⟨a, 0, none⟩ = some (.int .u64 h.k0) ∧ w'.cell? ⟨a, 1, none⟩ = some (.int .u64 h.k1) ∧ w'.cell? ⟨a, 2, none⟩ = some (.int .u64 h.mask) ∧ w'.cell? ⟨a, 3, none⟩ = some nil0 ∧ w'.cell? ⟨a, 4, none⟩ = some (str q.1) ∧ w'.cell? ⟨a, 5, none⟩ = some (.int .u64 x) ∧ w'.cell? ⟨b, 0, none⟩ = some (str p.1) ∧ w'.cell? ⟨b, 1, none⟩ = some (str p.2) ∧ w'.cell? ⟨c, 0, none⟩ = some (str q.1) ∧ w'.cell? ⟨c, 1, none⟩ = some (str q.2))
        (first | exact b3_of (b3_ext HW1.out.1 k4.out) | exact b3_of (b3_ext HW1.out.1 k3.out) | exact b3_of (b3_ext HW1.out.1 k2.out) | exact b3_of (b3_ext HW1.out.1 (below_drewN (Ext.refl _) 1)))
        (first
          | (go_at_call 20; refine (inner0_c _ (HNW.out _ (HW1.out.2.trans (below_drewN (Ext.refl _) 1)))).mono ?_; rintro e x2 ⟨g1, rfl, N1, f1, s1⟩; have k2 : Hid (Ext x1 x2) := Lib.hid (Ext.trans (below_drewN (Ext.refl _) 1) f1); have K1 := Lib.hid N1; clear N1 f1)
          | (go_at_call 86; rw [HX.out]; refine (IH.out x2 p q l1 (HNW.out x2 (HW1.out.2.trans k2.out)) (by have := HL.out; have := HL1.out; omega) hpq hp9 hq9).mono ?_; rintro e x3 ⟨g2, rfl, N2, f2, s2⟩; have k3 : Hid (Ext x1 x3) := Lib.hid (Ext.trans k2.out f2); have K2 := Lib.hid (And.intro N2 f2); clear N2 f2)
          | (go_at_call 19; refine (setKid_c x3 g1 i g2 _ (K1.out.ext K2.out.2) hi32).mono ?_; rintro e x4 ⟨g3, rfl, N3, f3, s3⟩; have k4 : Hid (Ext x1 x4) := Lib.hid (Ext.trans k3.out f3); have K3 := Lib.hid (And.intro N3 (And.intro f3 s3)); clear N3 f3))
      repeat' (first | go_skip | go_guarded | go_step)
      go_ret
      have hl12 : 12 - f = lv := by have := HL.out; omega
      have ei : chk (h.hash q.1) (12 - f) = i := by rw [hl12]; exact HC.out.2.symm
      have ei2 : Go.QS.part h.hash (12 - f) i [p] = [p] := by rw [hl12, HC.out.1]; exact part_one
      have hs1 : ∀ c s, (sl0 Nat)[c]? = some s → SlotOk (TR ND h.hash x4 f) s (Go.QS.part h.hash (12 - f) c []) := sl0_ok
      refine ⟨g3, rfl, ?_, HW1.out.2.trans k4.out, ?_⟩
      · refine TR.turn (l := []) hs1 (Ext.refl _) K3.out.1 ?_ fun c hc => ?_
        · rw [← ei, part_put (by simp [Rise]), ei, ei2]
          exact ⟨by rw [(two_rise (fun e => hpq e.symm)).2.1]; exact Nat.le_refl _, TR.ext K3.out.2.1 f K2.out.1⟩
        · rw [part_put_off (by simp [Rise]) (fun e => hc (by rw [← e, ei]))]
          refine part_one_off (fun e => hc ?_)
          rw [← e, hl12]; exact HC.out.1.symm
      · have := HW1.out.2.size
        have := k3.out.size
        have := K3.out.2.2
        omega
    · have dij : ((i : Int) == (j : Int)) = false := by rw [beq_eq_false_iff_ne]; omega
      have dij2 : (i == j) = false := by rw [beq_eq_false_iff_ne]; exact hij
      repeat' (go_not_at_region 6; (first | go_skip | go_guarded | go_step))
      go_region_held3 (fun w' => w'.cell? ⟨a, 3, none⟩ = some nil0 ∧ w'.cell? ⟨b, 0, none⟩ = some (str p.1) ∧ w'.cell? ⟨b, 1, none⟩ = some (str p.2) ∧ w'.cell? ⟨c, 0, none⟩ = some (str q.1) ∧ w'.cell? ⟨c, 1, none⟩ = some (str q.2))
        (first | exact b3a <| b3_of (b3_ext HW1.out.1 k4.out) | exact b3a <| b3_of (b3_ext HW1.out.1 k3.out) | exact b3a <| b3_of (b3_ext HW1.out.1 k2.out) | exact b3a <| b3_of (b3_ext HW1.out.1 (below_drewN (Ext.refl _) 1)))
        (first
          | (go_at_call 20; refine (inner0_c _ (HNW.out _ (HW1.out.2.trans (below_drewN (Ext.refl _) 1)))).mono ?_; rintro e x2 ⟨g1, rfl, N1, f1, s1⟩; have k2 : Hid (Ext x1 x2) := Lib.hid (Ext.trans (below_drewN (Ext.refl _) 1) f1); have K1 := Lib.hid N1; clear N1 f1)
          | (go_at_call 17; have mk2 := K2; refine (setPair_c x3 g2 j _ q K2.out.1 hj32).mono ?_; rintro e x4 ⟨g3, rfl, N3, f3, s3⟩; have k4 : Hid (Ext x1 x4) := Lib.hid (Ext.trans k3.out f3); have K3 := Lib.hid (And.intro N3 (And.intro f3 s3)); clear N3 f3)
          | (go_at_call 17; refine (setPair_c x2 g1 i _ p K1.out hi32).mono ?_; rintro e x3 ⟨g2, rfl, N2, f2, s2⟩; have k3 : Hid (Ext x1 x3) := Lib.hid (Ext.trans k2.out f2); have K2 := Lib.hid (And.intro N2 f2); clear N2 f2))
      repeat' (first | go_skip | go_guarded | go_step)
      go_ret
      have hl12 : 12 - f = lv := by have := HL.out; omega
      have ei : chk (h.hash p.1) (12 - f) = i := by rw [hl12]; exact HC.out.1.symm
      have ej : chk (h.hash q.1) (12 - f) = j := by rw [hl12]; exact HC.out.2.symm
      have hs1 : ∀ c s, (sl0 Nat)[c]? = some s → SlotOk (TR ND h.hash x4 f) s (Go.QS.part h.hash (12 - f) c []) := sl0_ok
      have hs2 : ∀ c s, ((sl0 Nat).set i (.pr p))[c]? = some s → SlotOk (TR ND h.hash x4 f) s (Go.QS.part h.hash (12 - f) c [p]) := fun c s hc => by
        by_cases e : c = i
        · subst e
          rw [List.getElem?_set] at hc
          simp only [if_pos] at hc
          split at hc
          · cases hc
            show Go.QS.part h.hash (12 - f) c [p] = [p]
            rw [← ei]; exact part_one
          · cases hc
        · rw [List.getElem?_set_ne (fun h => e h.symm)] at hc
          rw [part_one_off (fun e2 => e (by rw [← e2, ei]))]
          exact hs1 c s hc
      refine ⟨g3, rfl, ?_, HW1.out.2.trans k4.out, ?_⟩
      · refine TR.put (l := [p]) (by simp [Rise]) ej hs2 (Ext.refl _) K3.out.1 ?_
        show rput (Go.QS.part h.hash (12 - f) j [p]) q = [q]
        rw [part_one_off (fun e2 => hij (by rw [← e2, ei]))]
        rfl
      · have := HW1.out.2.size
        have := k3.out.size
        have := K3.out.2.2
        omega
end Go.Proofs.YtclcgelbcbnekaaDoor
/- Contracts: champ's put, case by case. -/
namespace Go.Proofs.YtclcgelbcbnekaaDoor
open Go.RowKit Go.QS Go.QS.Nk
set_option linter.unusedVariables false
variable [Zero (Nat → Prop)]
set_option linter.unusedSectionVars false

theorem calls_named {P : Program} {f : Nat} {args : Array Value} {Q : Ending → World → Prop} {W : World} (R : World → Prop) (hR : R W) (h : ∀ w', Hid (R w') → Calls P f args w' Q) : Calls P f args W Q := h W (Lib.hid hR)
theorem eqPr (w : World) (p q : Pr) : (binOp .eql 45 (.agg #[str p.1, str p.2]) (.agg #[str q.1, str q.2])).run Tryd.prog w = .ok (.bool (decide (p = q))) w := by
  obtain ⟨a, b⟩ := p
  obtain ⟨c, d⟩ := q
  simp only [go_sem]
  by_cases h1 : a = c <;> by_cases h2 : b = d <;> simp [h1, h2, go_sem]
/-- What put owes. -/
def PutOk (h : Hs) (f : Nat) (w : World) (g : Nat) (l : List Pr) (p : Pr) (lv : Nat) : Prop :=
  Calls Tryd.prog 48 #[wkV h p.1 (h.hash p.1), ptr g, prV p, .int .i64 lv] w fun e w' => ∃ g' ch, e = .returned (.tuple #[ptr g', .bool (!hasK l p.1), .bool ch]) ∧ TR ND h.hash w' f g' (rput l p) ∧ Ext w w' ∧ (p ∈ l → g' = g) ∧ (ch = false ↔ p ∈ l)
theorem boxes2 (w : World) (h : Hs) (p : Pr) (k : List UInt8) (x : Nat) {a b : Nat} (ha : a = w.heap.size) (hb : b = a + 1) : (WkAt ((w.alloc (.cells #[.int .u64 h.k0, .int .u64 h.k1, .int .u64 h.mask, nil0, str k, .int .u64 x] WK)).alloc (.cells #[str p.1, str p.2] NP)) a h k x ∧ PrAt ((w.alloc (.cells #[.int .u64 h.k0, .int .u64 h.k1, .int .u64 h.mask, nil0, str k, .int .u64 x] WK)).alloc (.cells #[str p.1, str p.2] NP)) b p) ∧ Ext w ((w.alloc (.cells #[.int .u64 h.k0, .int .u64 h.k1, .int .u64 h.mask, nil0, str k, .int .u64 x] WK)).alloc (.cells #[str p.1, str p.2] NP)) := by
  refine ⟨⟨?_, ?_⟩, ((Ext.refl w).alloc (Nat.le_refl _) _).alloc (by simp) _⟩
  · rw [ha]; exact (WkAt.new w h k x).ext ((Ext.refl _).alloc (Nat.le_refl _) _)
  · have := PrAt.new (w.alloc (.cells #[.int .u64 h.k0, .int .u64 h.k1, .int .u64 h.mask, nil0, str k, .int .u64 x] WK)) p
    rw [show b = (w.alloc (.cells #[.int .u64 h.k0, .int .u64 h.k1, .int .u64 h.mask, nil0, str k, .int .u64 x] WK)).heap.size by rw [hb, ha]; simp]
    exact this
theorem mem_get {l : List Pr} {p : Pr} (h : Rise l) : p ∈ l ↔ (hasK l p.1 = true ∧ (getL p.1 l).getD [] = p.2) := by
  rw [← getL_has h p.1]
  constructor
  · intro hp
    have e : getL p.1 l = some p.2 := (getL_iff h).2 hp
    rw [e]; exact ⟨rfl, rfl⟩
  · rintro ⟨h1, h2⟩
    obtain ⟨v, hv⟩ := Option.isSome_iff_exists.1 h1
    rw [hv] at h2
    have := (getL_iff h).1 hv
    have e : v = p.2 := h2
    rw [e] at this
    exact this
theorem isb_cell {w : World} {g : Nat} {l : List Pr} (h : Bk ND w g l) : w.cell? ⟨g, 4, none⟩ = some (.bool true) := by
  obtain ⟨_, _, _, nd⟩ := h
  exact nd.node.cells.2.2.2.2.1
theorem isn_cell {w : World} {g : Nat} {sl : List (Slot Nat)} (h : In ND w g sl) : w.cell? ⟨g, 4, none⟩ = some (.bool false) := by
  obtain ⟨_, _, _, _, nd⟩ := h
  exact nd.node.cells.2.2.2.2.1

set_option maxRecDepth 100000 in
set_option maxHeartbeats 1000000 in
theorem put_bk (h : Hs) (hk : h.Ok) (w : World) (g : Nat) (l : List Pr) (p : Pr) (lv : Nat) (hT : Bk ND w g l) (hr : Rise l) (h9 : l.length ≤ 400000000) : PutOk h 0 w g l p lv := by
  unfold PutOk
  obtain ⟨x, hx⟩ : ∃ x, x = h.hash p.1 := ⟨_, rfl⟩
  rw [← hx]
  have hx64 : x < 18446744073709551616 := by rw [hx]; exact Hs.hash_lt hk p.1
  have HX := Lib.hid hx
  clear hx
  have HT := Lib.hid hT
  have HR := Lib.hid hr
  have HS : Hid (p ∈ l ↔ (hasK l p.1 = true ∧ (getL p.1 l).getD [] = p.2)) := Lib.hid (mem_get hr)
  obtain ⟨th, hth⟩ : ∃ th, th = hasK l p.1 := ⟨_, rfl⟩
  obtain ⟨u, hu⟩ : ∃ u, u = (getL p.1 l).getD [] := ⟨_, rfl⟩
  rw [← hth]
  rw [← hth, ← hu] at HS
  have HTU := Lib.hid (And.intro hth hu)
  clear hT hr hth hu
  obtain ⟨a, ha⟩ : ∃ a, a = w.heap.size := ⟨_, rfl⟩
  obtain ⟨b, hb⟩ : ∃ b, b = a + 1 := ⟨_, rfl⟩
  have HAB := Lib.hid (boxes2 w h p p.1 x ha hb)
  go_enter Tryd.func48, Tryd.ntmps48
  repeat' (first | go_at_call 52 | go_skip | go_guarded | go_step)
  rw [← ha, ← hb]
  clear ha hb
  refine calls_named (fun w' => (WkAt w' a h p.1 x ∧ PrAt w' b p) ∧ Ext w w') HAB.out ?_
  intro wa HW
  clear HAB
  refine (isb_c wa g true (isb_cell (HT.out.ext HW.out.2))).mono ?_
  rintro e w1 ⟨rfl, f1⟩
  have H1 : Hid ((WkAt w1 a h p.1 x ∧ PrAt w1 b p) ∧ Ext w w1) := Lib.hid ⟨⟨HW.out.1.1.ext f1, HW.out.1.2.ext f1⟩, HW.out.2.trans f1⟩
  clear f1 HW
  obtain ⟨h0, h1, h2, h3, h4, h5⟩ := H1.out.1.1.cells
  obtain ⟨p0, p1⟩ := H1.out.1.2.cells
  go_simp
  repeat' (first | go_at_call 84 | go_skip | go_guarded | go_step)
  have HIN := Lib.hid (in_c w1 g l p.1 (HT.out.ext H1.out.2) HR.out h9)
  rw [← HTU.out.1, ← HTU.out.2] at HIN
  refine HIN.out.mono ?_
  rintro e w2 ⟨rfl, f2⟩
  have H2 : Hid ((WkAt w2 a h p.1 x ∧ PrAt w2 b p) ∧ Ext w w2) := Lib.hid ⟨⟨H1.out.1.1.ext f2, H1.out.1.2.ext f2⟩, H1.out.2.trans f2⟩
  clear f2 H1 h0 h1 h2 h3 h4 h5 p0 p1 HIN
  obtain ⟨h0, h1, h2, h3, h4, h5⟩ := H2.out.1.1.cells
  obtain ⟨p0, p1⟩ := H2.out.1.2.cells
  go_simp
  by_cases hs : th = true ∧ u = p.2
  · obtain ⟨rfl, hup⟩ := hs
    subst hup
    repeat' (first | go_skip | go_guarded | go_step)
    go_ret3
    have hm : p ∈ l := HS.out.2 ⟨rfl, rfl⟩
    exact ⟨g, false, rfl, by rw [rput_self HR.out hm]; exact HT.out.ext H2.out.2, H2.out.2, fun _ => rfl, ⟨fun _ => hm, fun _ => rfl⟩⟩
  · have hm : ¬ p ∈ l := fun e => hs (HS.out.1 e)
    have HB := Lib.hid (bput_c w2 g l p (HT.out.ext H2.out.2) HR.out h9)
    cases th with
    | true =>
      have hup : (u == p.2) = false := by rw [beq_eq_false_iff_ne]; exact fun e => hs ⟨rfl, e⟩
      have hup2 : decide (bs u = bs p.2) = false := by rw [decide_eq_false_iff_not]; intro e; exact hs ⟨rfl, bs_inj e⟩
      repeat' (first | go_at_call 28 | go_skip | go_guarded | go_step)
      refine HB.out.mono ?_
      rintro e w3 ⟨g3, rfl, B3, f3, s3⟩
      have H3 := Lib.hid (And.intro B3 f3)
      clear B3 f3
      go_simp
      repeat' (first | go_skip | go_guarded | go_step)
      go_ret3
      exact ⟨g3, true, rfl, H3.out.1, H2.out.2.trans H3.out.2, fun e => absurd e hm, ⟨fun e => (by cases e), fun e => absurd e hm⟩⟩
    | false =>
      repeat' (first | go_at_call 28 | go_skip | go_guarded | go_step)
      refine HB.out.mono ?_
      rintro e w3 ⟨g3, rfl, B3, f3, s3⟩
      have H3 := Lib.hid (And.intro B3 f3)
      clear B3 f3
      go_simp
      repeat' (first | go_skip | go_guarded | go_step)
      go_ret3
      exact ⟨g3, true, rfl, H3.out.1, H2.out.2.trans H3.out.2, fun e => absurd e hm, ⟨fun e => (by cases e), fun e => absurd e hm⟩⟩
end Go.Proofs.YtclcgelbcbnekaaDoor
/- Contracts: champ's alone, drop. -/
namespace Go.Proofs.YtclcgelbcbnekaaDoor
open Go.RowKit Go.QS Go.QS.Nk
set_option linter.unusedVariables false
variable [Zero (Nat → Prop)]
set_option linter.unusedSectionVars false

/-- What a node has alone. -/
def aloneP (l : List Pr) : Pr := if l.length = 1 then l.headD ([], []) else ([], [])
abbrev aloneV (l : List Pr) : Value := .tuple #[.agg #[str (aloneP l).1, str (aloneP l).2], .bool (decide (l.length = 1))]
/-- .. by what it says of itself. -/
def Says (w : World) (g : Nat) (d : Nat) (ps : List Pr) (ks : List Nat) : Prop := ∃ n bk ow pv kv, Nd ND w g n d ps ks bk ow pv kv ∧ d < 4294967296
theorem says_ext {w w' : World} {g d : Nat} {ps : List Pr} {ks : List Nat} (h : Says w g d ps ks) (f : Ext w w') : Says w' g d ps ks := by
  obtain ⟨n, bk, ow, pv, kv, nd, h2⟩ := h
  exact ⟨n, bk, ow, pv, kv, nd.ext f, h2⟩
theorem nodes_zero {sl : List (Slot Nat)} : nodesOf sl = 0 ↔ kdsOf sl = [] := by
  constructor
  · intro h
    cases hk : kdsOf sl with
    | nil => rfl
    | cons k r =>
      exfalso
      have hm : k ∈ kdsOf sl := by rw [hk]; simp
      obtain ⟨s, hs, hg⟩ := List.mem_filterMap.1 hm
      obtain ⟨i, hi⟩ := List.mem_iff_getElem?.1 hs
      have := bit_at Slot.isK hi
      have h' : bitsOf Slot.isK sl = 0 := h
      rw [h'] at this
      cases s with
      | no => simp at hg
      | pr q => simp at hg
      | kid q => simp at this
  · intro h
    apply Nat.eq_of_testBit_eq
    intro j
    show (bitsOf Slot.isK sl).testBit j = _
    rw [bitsOf_bit]
    cases hj : sl[j]? with
    | none => simp
    | some s =>
      cases s with
      | no => simp
      | pr q => simp
      | kid q =>
        have : q ∈ kdsOf sl := List.mem_filterMap.2 ⟨_, List.mem_of_getElem? hj, rfl⟩
        rw [h] at this; simp at this
theorem tr_says {h : Hs} {w : World} {f g : Nat} {l : List Pr} (hT : TR ND h.hash w f g l) : ∃ d ps ks, Says w g d ps ks ∧ (l.length = 1 → ps = l ∧ ks = [] ∧ d = 0) ∧ (2 ≤ l.length → ¬ (d = 0 ∧ ps.length + ks.length = 1)) ∧ ps.length ≤ l.length + 32 ∧ ks.length ≤ 32 := by
  cases f with
  | zero =>
    obtain ⟨ow, pv, kv, nd⟩ := hT
    exact ⟨0, l, [], ⟨0, true, ow, pv, kv, nd, by decide⟩, fun _ => ⟨rfl, rfl, rfl⟩, fun h2 h3 => by simp at h3; omega, by omega, by simp⟩
  | succ f =>
    obtain ⟨sl, hN, hs⟩ := hT
    have hz := in_sizes hN
    have h32 := hN.1
    have hp := prsOf_len sl
    have hkl := kdsOf_len sl
    obtain ⟨h0, ow, pv, kv, nd⟩ := id hN
    refine ⟨_, _, _, ⟨_, false, ow, pv, kv, nd, hz.2⟩, fun h1 => ?_, fun h2 h3 => ?_, by omega, by omega⟩
    · obtain ⟨p, rfl⟩ := List.length_eq_one_iff.1 h1
      have := TR.alone hN hs
      exact ⟨this.1, this.2, nodes_zero.2 this.2⟩
    · have hk := nodes_zero.1 h3.1
      refine TR.many hN hs h2 ⟨hk, ?_⟩
      rw [hk] at h3; simpa using h3.2
end Go.Proofs.YtclcgelbcbnekaaDoor
