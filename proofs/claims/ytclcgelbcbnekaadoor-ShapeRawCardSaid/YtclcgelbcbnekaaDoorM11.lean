/- Texts joined. -/
import Derived.Test.YtclcgelbcbnekaaDoorM10
import Derived.BigQuiet
import Derived.Deep.QuietTactic
import Derived.Test.YtclcgelbcbnekaaDoorM07
import Derived.Deep.RegionHeld3
import Derived.IntWalk
import Derived.Test.YtclcgelbcbnekaaDoorM09
import Derived.Deep.DeepCutAuto
set_option linter.unusedVariables false
set_option linter.unusedSimpArgs false
/- Contracts: the hash of bytes; a hasher's. -/
namespace Go.Proofs.YtclcgelbcbnekaaDoor
open Go.RowKit Go.QS
set_option linter.unusedVariables false

theorem StAt.new {w : World} {g : Nat} (hg : g = w.heap.size) (a b c d : Nat) : StAt (w.alloc (.cells #[.int .u64 a, .int .u64 b, .int .u64 c, .int .u64 d] ST)) g ⟨a, b, c, d⟩ := by
  subst hg; simp only [StAt, World.alloc]; simp
theorem key_cells {w : World} {g : Nat} {a b : Value} {t : TypeId} {f : Nat × Nat} (h : w.heap[g]? = some (.cells #[a, b] t f)) : w.cell? ⟨g, 0, none⟩ = some a ∧ w.cell? ⟨g, 1, none⟩ = some b := by
  simp [World.cell?, h]
theorem wp_named {P : Program} {c : Code} {Q : Exit → Act → World → Prop} {a : Act} {W : World} (R : World → Prop) (hR : R W) (h : ∀ w', Hid (R w') → c.wp P Q a w') : c.wp P Q a W := h W (Lib.hid hR)
theorem last_law (n : Nat) (t : List UInt8) (ht : t.length ≤ 7) (hn : n ≤ 9223372036854775807) : bits BinOp.or IntKind.u64 ((leN t : Nat) : Int) (IntKind.u64.wrap ((n : Int) * 72057594037927936)) = ((leN t + n % 256 * 72057594037927936 : Nat) : Int) := by
  have h7 := leN_lt7 ht
  obtain ⟨x, hx⟩ : ∃ x, x = leN t := ⟨_, rfl⟩
  rw [← hx] at h7 ⊢
  have e2 : IntKind.u64.wrap ((n : Int) * 72057594037927936) = ((n % 256 * 72057594037927936 : Nat) : Int) := by
    rw [IntKind.wrap_u64]; omega
  have h1 : x < 18446744073709551616 := by omega
  have h2 : n % 256 * 72057594037927936 < 18446744073709551616 := by omega
  rw [e2, bits_or_u64_nat x _ h1 h2]
  congr 1
  have h3 := Nat.two_pow_add_eq_or_of_lt (i := 56) (b := x) (by omega) (n % 256)
  rw [Nat.or_comm, show n % 256 * 72057594037927936 = 2 ^ 56 * (n % 256) by omega, ← h3]
  omega
set_option maxRecDepth 100000 in
set_option maxHeartbeats 2000000 in
theorem sum_c (w : World) (k0 k1 : Nat) (s : List UInt8) (h0 : k0 < 18446744073709551616) (h1 : k1 < 18446744073709551616) (hs : s.length ≤ 9223372036854775807) :
    Calls Tryd.prog 83 #[.agg #[.int .u64 k0, .int .u64 k1], str s] w fun e w' => e = .returned (.int .u64 (sipN k0 k1 s)) ∧ Ext w w' := by
  have hok := sip0_ok h0 h1
  have x0 : bits BinOp.xor IntKind.u64 (k0 : Int) 8317987319222330741 = (((sip0 k0 k1).a : Nat) : Int) := xor_law k0 8317987319222330741 h0 (by decide)
  have x1 : bits BinOp.xor IntKind.u64 (k1 : Int) 7237128888997146477 = (((sip0 k0 k1).b : Nat) : Int) := xor_law k1 7237128888997146477 h1 (by decide)
  have x2 : bits BinOp.xor IntKind.u64 (k0 : Int) 7816392313619706465 = (((sip0 k0 k1).c : Nat) : Int) := xor_law k0 7816392313619706465 h0 (by decide)
  have x3 : bits BinOp.xor IntKind.u64 (k1 : Int) 8387220255154660723 = (((sip0 k0 k1).d : Nat) : Int) := xor_law k1 8387220255154660723 h1 (by decide)
  obtain ⟨g, hg⟩ : ∃ g, g = w.heap.size + 1 := ⟨_, rfl⟩
  obtain ⟨A, hA⟩ : ∃ A, A = absorb s.length (s.length / 8) (sip0 k0 k1) s := ⟨_, rfl⟩
  have hAf : sipN k0 k1 s = fin A := by rw [hA]; rfl
  have HA := Lib.hid (And.intro hA hAf)
  have HG := Lib.hid hg
  clear hA hAf
  go_enter Tryd.func83, Tryd.ntmps83
  repeat' (go_not_at_region 3; (first | go_skip | go_guarded | go_step))
  rw [← hg]
  refine wp_named (fun w' => StAt w' g (sip0 k0 k1) ∧ Ext w w') ⟨?_, ((Ext.refl w).alloc (Nat.le_refl _) _).alloc (by simp) _⟩ ?_
  · exact StAt.new (by rw [hg]; simp) _ _ _ _
  clear x0 x1 x2 x3 hg
  intro wa HW
  have hsn : s.length ≤ s.length := Nat.le_refl _
  go_loopg [1] s.length (fun gk v1 wr => ∃ (t : List UInt8) (u : V4), v1 = str t ∧ t.length ≤ gk ∧ t.length ≤ s.length ∧ u.Ok ∧ Hid (absorb s.length (t.length / 8) u t = A ∧ StAt wr g u ∧ Ext w wr))
  case atStart => exact ⟨s, sip0 k0 k1, rfl, hsn, hsn, hok, Lib.hid ⟨HA.out.1.symm, HW.out.1, HW.out.2⟩⟩
  case round =>
    obtain ⟨t, u, rfl, hgk, htn, hu, HI⟩ := hrel
    have hgw : w.heap.size ≤ g := by have := HG.out; omega
    rcases Nat.lt_or_ge t.length 8 with hlt | hge
    · have d1 : decide (8 ≤ t.length) = false := by simp; omega
      have hlast := last_law s.length t (by omega) (by omega)
      have hl9 : leN t + s.length % 256 * 72057594037927936 < 18446744073709551616 := by
        have := leN_lt7 (s := t) (by omega); omega
      have hAe : tk u (leN t + s.length % 256 * 72057594037927936) = A := by
        rw [← HI.out.1, show t.length / 8 = 0 by omega]; rfl
      have hAo : A.Ok := by rw [← hAe]; exact tk_ok hu hl9
      obtain ⟨m, hm⟩ : ∃ m, m = leN t + s.length % 256 * 72057594037927936 := ⟨_, rfl⟩
      rw [← hm] at hlast hl9 hAe
      have HL := Lib.hid hlast
      clear hlast hm
      repeat' (first | go_at_call 97 | go_skip | go_guarded | go_step)
      refine (word_c wr t (by omega)).mono ?_
      rintro e w1 ⟨rfl, rfl⟩
      go_simp
      repeat' (first | go_at_call 96 | go_skip | go_guarded | go_step)
      rw [HL.out]
      refine (take_c wr g m u HI.out.2.1 hu hl9).mono ?_
      rintro e w2 ⟨rfl, s2, o2⟩
      rw [hAe] at s2
      obtain ⟨A0, A1, A2, A3⟩ := A
      obtain ⟨l0, l1, l2, l3⟩ := hAo
      simp only at l0 l1 l2 l3
      have H2 : Hid (StAt w2 g ⟨A0, A1, A2, A3⟩ ∧ Ext w w2) := Lib.hid ⟨s2, Below.trans HI.out.2.2 (o2.below HI.out.2.2.size (fun i hi => hi ▸ hgw))⟩
      clear s2 o2
      obtain ⟨q0, q1, q2, q3, qf⟩ := H2.out.1.cells
      simp only at q0 q1 q2 q3
      have x5 := xor_law A2 255 l2 (by decide)
      have l5 : A2 ^^^ 255 < 18446744073709551616 := xor_lt l2 (by decide)
      obtain ⟨B2, hB2⟩ : ∃ B, B = A2 ^^^ 255 := ⟨_, rfl⟩
      rw [← hB2] at x5 l5
      have HB := Lib.hid hB2
      have HX := Lib.hid x5
      clear hB2 x5
      go_simp
      repeat' (first | go_at_call 98 | go_skip | go_guarded | go_step)
      have hS : ∀ x : Int, x = (B2 : Int) → StAt (w2.setCell ⟨g, 2, none⟩ (.int .u64 x)) g ⟨A0, A1, B2, A3⟩ := fun x e => by subst e; exact heap_set H2.out.1 2 _
      refine (rounds_c _ g 4 ⟨A0, A1, B2, A3⟩ (hS _ HX.out) ⟨l0, l1, l5, l3⟩ (by decide)).mono ?_
      rintro e w3 ⟨rfl, s3, o3⟩
      have hok4 := rnds_ok 4 (v := ⟨A0, A1, B2, A3⟩) ⟨l0, l1, l5, l3⟩
      have hfin : fin ⟨A0, A1, A2, A3⟩ = (rnds 4 ⟨A0, A1, B2, A3⟩).a ^^^ (rnds 4 ⟨A0, A1, B2, A3⟩).b ^^^ (rnds 4 ⟨A0, A1, B2, A3⟩).c ^^^ (rnds 4 ⟨A0, A1, B2, A3⟩).d := by rw [HB.out]; rfl
      have hres := HA.out.2.trans hfin
      obtain ⟨U, hU⟩ : ∃ U, U = rnds 4 ⟨A0, A1, B2, A3⟩ := ⟨_, rfl⟩
      rw [← hU] at hok4 hres s3
      obtain ⟨U0, U1, U2, U3⟩ := U
      obtain ⟨m0, m1, m2, m3⟩ := hok4
      simp only at m0 m1 m2 m3 hres
      have hE3 : Ext w w3 := Below.trans (H2.out.2.setCell hgw _) (o3.below (by have := H2.out.2.size; simpa [World.setCell] using this) (fun i hi => hi ▸ hgw))
      have H3 : Hid (StAt w3 g ⟨U0, U1, U2, U3⟩ ∧ Ext w w3 ∧ sipN k0 k1 s = U0 ^^^ U1 ^^^ U2 ^^^ U3) := Lib.hid ⟨s3, hE3, hres⟩
      clear s3 o3 hfin hres hU hE3 q0 q1 q2 q3 qf hS
      obtain ⟨q0, q1, q2, q3, qf⟩ := H3.out.1.cells
      simp only at q0 q1 q2 q3
      have y1 := xor_law U0 U1 m0 m1
      have y2 := xor_law _ U2 (xor_lt m0 m1) m2
      have y3 := xor_law _ U3 (xor_lt (xor_lt m0 m1) m2) m3
      go_simp
      repeat' (first | go_skip | go_guarded | go_step)
      go_ret
      exact ⟨by rw [H3.out.2.2]; rfl, H3.out.2.1⟩
    · have d1 : decide (8 ≤ t.length) = true := by simp; omega
      have b1 : (8 : Int) ≤ (t.length : Int) := by omega
      have hl8 : leN (t.take 8) < 18446744073709551616 := leN_lt8 (by simp; omega)
      have htk : (t.take 8).length ≤ 8 := by simp; omega
      obtain ⟨t8, ht8⟩ : ∃ x, x = t.take 8 := ⟨_, rfl⟩
      repeat' (first | go_at_call 97 | go_skip | go_guarded | go_step)
      refine (word_c wr (t.take 8) htk).mono ?_
      rintro e w1 ⟨rfl, rfl⟩
      go_simp
      repeat' (first | go_at_call 96 | go_skip | go_guarded | go_step)
      refine (take_c wr g _ u HI.out.2.1 hu hl8).mono ?_
      rintro e w2 ⟨rfl, s2, o2⟩
      have H2 : Hid (StAt w2 g (tk u (leN (t.take 8))) ∧ Ext w w2) := Lib.hid ⟨s2, Below.trans HI.out.2.2 (o2.below HI.out.2.2.size (fun i hi => hi ▸ hgw))⟩
      clear s2 o2
      have b2 : (8 : Int) ≤ (t.length : Int) := by omega
      go_simp
      repeat' (first | go_skip | go_guarded | go_step)
      go_roundg (t.length - 8)
      case measure => omega
      case rel => exact ⟨t.drop 8, tk u (leN (t.take 8)), by rw [List.take_of_length_le (by simp)], by simp, by simp; omega, tk_ok hu hl8, Lib.hid ⟨by
        rw [← HI.out.1, List.length_drop, show t.length / 8 = (t.length - 8) / 8 + 1 by omega]; rfl, H2.out⟩⟩
end Go.Proofs.YtclcgelbcbnekaaDoor
/- Contracts: a hasher's hash; five bits of a hash, both ways. -/
namespace Go.Proofs.YtclcgelbcbnekaaDoor
open Go.RowKit Go.QS
set_option linter.unusedVariables false
variable [Zero (Nat → Prop)]
set_option linter.unusedSectionVars false

/-- A hasher. -/
structure Hs where
  k0 : Nat
  k1 : Nat
  mask : Nat
def Hs.Ok (h : Hs) : Prop := h.k0 < 18446744073709551616 ∧ h.k1 < 18446744073709551616 ∧ h.mask < 18446744073709551616
def Hs.hash (h : Hs) (s : List UInt8) : Nat := sipN h.k0 h.k1 s &&& h.mask
theorem Hs.hash_lt {h : Hs} (hk : h.Ok) (s : List UInt8) : h.hash s < 18446744073709551616 := Nat.and_lt_two_pow (n := 64) _ hk.2.2
abbrev hsV (h : Hs) : Value := .agg #[.int .u64 h.k0, .int .u64 h.k1, .int .u64 h.mask]
theorem keep3h {w w' : World} {a1 a2 a3 : Addr} {u1 u2 u3 : Value} (f : Ext w w') (h : w.cell? a1 = some u1 ∧ w.cell? a2 = some u2 ∧ w.cell? a3 = some u3) : w'.cell? a1 = some u1 ∧ w'.cell? a2 = some u2 ∧ w'.cell? a3 = some u3 :=
  ⟨(f.cell (World.block_lt_of_cell? w _ h.1)).trans h.1, (f.cell (World.block_lt_of_cell? w _ h.2.1)).trans h.2.1, (f.cell (World.block_lt_of_cell? w _ h.2.2)).trans h.2.2⟩
set_option maxRecDepth 100000 in
set_option maxHeartbeats 1000000 in
theorem hash_c (w : World) (h : Hs) (s : List UInt8) (hk : h.Ok) (hs : s.length ≤ 9223372036854775807) :
    Calls Tryd.prog 47 #[hsV h, str s] w fun e w' => e = .returned (.int .u64 (h.hash s)) ∧ Ext w w' := by
  obtain ⟨k0, k1, mk⟩ := h
  obtain ⟨l0, l1, l2⟩ := hk
  simp only at l0 l1 l2
  have hA := bits_and_u64_nat (sipN k0 k1 s) mk (sipN_lt l0 l1 s) l2
  have HC := Lib.hid (fun W => sum_c W k0 k1 s l0 l1 hs)
  obtain ⟨x, hx⟩ : ∃ x, x = sipN k0 k1 s := ⟨_, rfl⟩
  have HX := Lib.hid hx
  rw [← hx] at hA HC
  clear hx
  go_enter Tryd.func47, Tryd.ntmps47
  repeat' (go_not_at_region 1; (first | go_skip | go_guarded | go_step))
  obtain ⟨g, hg⟩ : ∃ g, g = w.heap.size := ⟨_, rfl⟩
  have hgw : w.heap.size ≤ g := by omega
  rw [← hg]
  refine wp_named (fun w' => w'.cell? ⟨g, 0, none⟩ = some (.int .u64 k0) ∧ w'.cell? ⟨g, 1, none⟩ = some (.int .u64 k1) ∧ w'.cell? ⟨g, 2, none⟩ = some (.int .u64 mk) ∧ Ext w w') ⟨?_, ?_, ?_, (Ext.refl w).alloc (Nat.le_refl _) _⟩ ?_
  · rw [World.cell?_alloc_at _ _ _ _ (by simp [hg])]; rfl
  · rw [World.cell?_alloc_at _ _ _ _ (by simp [hg])]; rfl
  · rw [World.cell?_alloc_at _ _ _ _ (by simp [hg])]; rfl
  clear hg
  intro wa HW
  obtain ⟨q0, q1, q2, qe⟩ := HW.out
  have HK : Hid (_ ∧ _ ∧ _) := Lib.hid ⟨q0, q1, q2⟩
  clear qe
  go_region_held3 (fun w' => w'.cell? ⟨g, 0, none⟩ = some (.int .u64 k0) ∧ w'.cell? ⟨g, 1, none⟩ = some (.int .u64 k1) ∧ w'.cell? ⟨g, 2, none⟩ = some (.int .u64 mk))
    (first | exact keep3h e1.out HK.out | exact keep3h (below_drewN (Ext.refl _) 1) HK.out)
    ((go_at_call 83; refine (HC.out _).mono ?_; rintro e x1 ⟨rfl, f1⟩; have e1 : Hid (Ext wa x1) := Lib.hid (Ext.trans (below_drewN (Ext.refl _) 1) f1); clear f1))
  repeat' (first | go_skip | go_guarded | go_step)
  go_ret
  exact ⟨by rw [show Hs.hash ⟨k0, k1, mk⟩ s = x &&& mk by rw [HX.out]; rfl]; rfl, HW.out.2.2.2.trans e1.out⟩
theorem pow32 (lv : Nat) : (2 : Nat) ^ (5 * lv) = 32 ^ lv := by rw [Nat.pow_mul]
theorem at_law (x lv : Nat) (hx : x < 18446744073709551616) : bits BinOp.and IntKind.u64 ((x : Int) / 2 ^ (5 * lv)) 31 = ((chk x lv : Nat) : Int) := by
  have e : (x : Int) / 2 ^ (5 * lv) = ((x / 32 ^ lv : Nat) : Int) := by rw [← pow32]; simp
  have h1 : x / 32 ^ lv < 18446744073709551616 := Nat.lt_of_le_of_lt (Nat.div_le_self _ _) hx
  have h2 := bits_and_u64_nat (x / 32 ^ lv) 31 h1 (by decide)
  rw [e]
  refine h2.trans ?_
  congr 1
  rw [show (31 : Nat) = 2 ^ 5 - 1 from rfl, Nat.and_two_pow_sub_one_eq_mod]
  rfl
set_option maxRecDepth 100000 in
set_option maxHeartbeats 1000000 in
theorem at_c (w : World) (x lv : Nat) (hx : x < 18446744073709551616) (hl : lv < 13) :
    Calls Tryd.prog 85 #[.int .u64 x, .int .i64 lv] w fun e w' => e = .returned (.int .i64 (chk x lv)) ∧ w = w' := by
  have hA := at_law x lv hx
  have hc := chk_lt x lv
  have d0 : decide ((lv : Int) < 0) = false := by simp
  have d1 : decide ((13 : Int) ≤ (lv : Int)) = false := by simp; omega
  have d2 : decide (13 ≤ lv) = false := by simp; omega
  obtain ⟨m, hm⟩ : ∃ m, m = 5 * lv := ⟨_, rfl⟩
  have e5 : (5 * (lv : Int)) = (m : Int) := by omega
  have h5 : m < 64 := by omega
  have h6 : (m : Int) < 64 := by omega
  rw [← hm] at hA
  have hm9 : IntKind.i64.wrap (m : Int) = (m : Int) := IntWalk.i64_in _ (by omega)
  clear hm
  go_enter Tryd.func85, Tryd.ntmps85
  repeat' (go_not_at_region 3; (first | go_skip | go_guarded | go_step))
  repeat' (first | go_skip | go_guarded | go_step)
  go_ret
  exact ⟨rfl, rfl⟩
set_option maxRecDepth 100000 in
theorem rat_c (w : World) (x lv : Nat) (hx : x < 18446744073709551616) (hl : lv < 13) :
    Calls Tryd.prog 70 #[.int .u64 x, .int .i64 lv] w fun e w' => e = .returned (.int .i64 (chk x lv)) ∧ w = w' := by
  have d0 : decide ((lv : Int) < 0) = false := by simp
  have d1 : decide ((12 : Int) < (lv : Int)) = false := by simp; omega
  have d2 : decide (12 < lv) = false := by simp; omega
  go_enter Tryd.func70, Tryd.ntmps70
  repeat' (first | go_skip | go_guarded | go_step)
  go_loopg [5, 0] lv (fun gk v5 v0 wr => ∃ i y : Nat, v5 = .int .i64 i ∧ v0 = .int .u64 y ∧ i ≤ lv ∧ lv - i ≤ gk ∧ y < 18446744073709551616 ∧ Hid (y = x / 32 ^ i) ∧ wr = w)
  case atStart => exact ⟨0, x, rfl, rfl, Nat.zero_le _, by omega, hx, Lib.hid (by simp), rfl⟩
  case round =>
    obtain ⟨i, y, rfl, rfl, hik, hgk, hy, HT, rfl⟩ := hrel
    rcases Nat.lt_or_ge i lv with hlt | hge
    · have d1 : decide (i < lv) = true := by simp [hlt]
      repeat' (first | go_skip | go_guarded | go_step)
      go_roundg (lv - (i + 1))
      case measure => omega
      case rel => exact ⟨i + 1, y / 32, by go_num, by go_num, by omega, Nat.le_refl _, by omega, Lib.hid (by rw [HT.out, Nat.div_div_eq_div_mul, Nat.pow_succ]), rfl⟩
    · obtain rfl : i = lv := by omega
      have d1 : decide (i < i) = false := by simp
      have e3 : y % 32 = chk x i := by rw [HT.out]; rfl
      have hc := chk_lt x i
      have HE := Lib.hid e3
      clear e3
      repeat' (first | go_skip | go_guarded | go_step)
      go_ret
      refine ⟨?_, rfl⟩
      rw [← HE.out]; rfl
end Go.Proofs.YtclcgelbcbnekaaDoor
/- Contract: shape.leads. -/
namespace Go.QS
open Go.RowKit Go.QS.Nk
variable [Zero (Nat → Prop)]
set_option linter.unusedSectionVars false
/-- A way, as cells. -/
def wayV (l : List Nat) : List Value := l.map fun (c : Nat) => .int .i64 (c : Int)
theorem wayV_length (l : List Nat) : (wayV l).length = l.length := by simp [wayV]
theorem wayV_get {l : List Nat} {i c : Nat} (h : l[i]? = some c) : (wayV l)[i]? = some (.int .i64 (c : Int)) := by simp [wayV, h]
theorem wayV_snoc (l : List Nat) (c : Nat) : wayV (l ++ [c]) = wayV l ++ [.int .i64 (c : Int)] := by simp [wayV]
end Go.QS
namespace Go.Proofs.YtclcgelbcbnekaaDoor
open Go.RowKit Go.QS Go.QS.Nk
set_option linter.unusedVariables false
variable [Zero (Nat → Prop)]
set_option linter.unusedSectionVars false

set_option maxRecDepth 100000 in
set_option maxHeartbeats 1000000 in
theorem leads_c (w : World) (x : Nat) (hx : x < 18446744073709551616) (v : Value) (way : List Nat) (hw : Sl w 1 v way.length (wayV way)) (hl : way.length ≤ 13) :
    Calls Tryd.prog 65 #[.int .u64 (x : Int), v] w fun e w' => ((Leads x way ∧ e = .returned (.bool true)) ∨ (¬ Leads x way ∧ e = .returned (.bool false))) ∧ w' = w := by
  obtain ⟨A, C, rfl, _, hn, hc, hs⟩ := hw
  obtain ⟨n, hn2⟩ : ∃ n, n = way.length := ⟨_, rfl⟩
  rw [← hn2] at hn hl ⊢
  have HH := Lib.hid (And.intro hs hn2)
  clear hs hn2
  go_enter Tryd.func65, Tryd.ntmps65
  repeat' (go_not_at_region 2; (first | go_skip | go_guarded | go_step))
  go_loopg [5, 6, 9] n (fun gk v5 v6 v9 wr => ∃ i : Nat, v9 = .int .i64 i ∧ i ≤ n ∧ n - i ≤ gk ∧ wr = w ∧ Hid (∀ j c, j < i → way[j]? = some c → chk x j = c))
  case atStart => exact ⟨0, rfl, Nat.zero_le _, Nat.le_refl _, rfl, Lib.hid (fun j c h => absurd h (Nat.not_lt_zero _))⟩
  case round =>
    obtain ⟨i, rfl, hin, hgk, rfl, HI⟩ := hrel
    rcases Nat.lt_or_ge i n with hlt | hge
    · have d1 : decide (i < n) = true := by simp [hlt]
      have hi1 : (i : Int) < (n : Int) := by omega
      obtain ⟨c, hc0⟩ := get_of_lt way (show i < way.length by have := HH.out.2; omega)
      obtain ⟨b, o, rfl, hcell⟩ := HH.out.1 (fun e => by have := wayV_get hc0; rw [e] at this; simp at this)
      have q1 := hcell i _ (wayV_get hc0)
      have HC := Lib.hid hc0
      have hi13 : i < 13 := by omega
      clear hcell hc0
      repeat' (first | go_at_call 85 | go_skip | go_guarded | go_step)
      refine (at_c wr x i hx hi13).mono ?_
      rintro e w1 ⟨rfl, rfl⟩
      by_cases he : chk x i = c
      · have hne : (((chk x i : Nat) : Int) != (c : Int)) = false := by rw [he]; simp
        have HI2 : Hid (∀ j c, j < i + 1 → way[j]? = some c → chk x j = c) := Lib.hid (fun j d hj hd => by
          rcases Nat.lt_or_ge j i with h | h
          · exact HI.out j d h hd
          · obtain rfl : j = i := by omega
            rw [HC.out] at hd; cases hd; exact he)
        clear he
        go_simp
        repeat' (first | go_skip | go_guarded | go_step)
        go_roundg (n - (i + 1))
        case measure => omega
        case rel => exact ⟨i + 1, by go_num, by omega, Nat.le_refl _, rfl, HI2⟩
      · have hne : (((chk x i : Nat) : Int) != (c : Int)) = true := by simp; omega
        have HN : Hid (¬ Leads x way) := Lib.hid (fun h => he (h i c HC.out))
        clear he
        go_simp
        repeat' (first | go_skip | go_guarded | go_step)
        go_ret
        exact ⟨.inr ⟨HN.out, rfl⟩, rfl⟩
    · obtain rfl : i = n := by omega
      have d1 : decide (i < i) = false := by simp
      repeat' (first | go_skip | go_guarded | go_step)
      go_ret
      exact ⟨.inl ⟨fun j c hj => HI.out j c (by have := (List.getElem?_eq_some_iff.1 hj).1; have := HH.out.2; omega) hj, rfl⟩, rfl⟩
end Go.Proofs.YtclcgelbcbnekaaDoor
