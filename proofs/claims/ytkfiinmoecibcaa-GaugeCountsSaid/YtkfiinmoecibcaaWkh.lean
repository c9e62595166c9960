/- Contracts: rows of numbers alike; chapter 9's awake; the law's hasher. -/
import Derived.Test.YtkfiinmoecibcaaM23
import Derived.Test.YtkfiinmoecibcaaM24
import Derived.Deep.QuietTactic
set_option linter.unusedVariables false
set_option linter.unusedSimpArgs false
namespace Go.QS
open Go.RowKit Go.QS.Nk
def pa9 : Pr := ([97], [])
def pb9 : Pr := ([98], [])
theorem st_example : stT (trieOf (fun _ => 0) 13 [pa9, pb9]) 1 ⟨0, 0, 0, 0, 0⟩ = ⟨14, 1, 2, 14, 2⟩ := by
  have h1 : cntT (trieOf (fun _ => 0) 13 [pa9, pb9]) = 14 := by decide +kernel
  have h2 : bksT (trieOf (fun _ => 0) 13 [pa9, pb9]) = 1 := by decide +kernel
  have h3 : prsT (trieOf (fun _ => 0) 13 [pa9, pb9]) = 2 := by decide +kernel
  have h4 : htT (trieOf (fun _ => 0) 13 [pa9, pb9]) = 14 := by decide +kernel
  have h5 : mostT (trieOf (fun _ => 0) 13 [pa9, pb9]) = 2 := by decide +kernel
  simp [stT, h1, h2, h3, h4, h5]
theorem put_ab9 : rput [pa9] pb9 = [pa9, pb9] := by decide +kernel
theorem put_a9 : rput [] pa9 = [pa9] := by decide +kernel
end Go.QS
namespace Go.Proofs.Ytkfiinmoecibcaa
open Go.RowKit Go.QS Go.QS.Nk
set_option linter.unusedVariables false

abbrev hs0 : Hs := ⟨0, 0, 0⟩
theorem hs0_ok : hs0.Ok := ⟨by decide, by decide, by decide⟩
theorem hs0_hash : hs0.hash = fun _ => 0 := by funext s; simp [Hs.hash]
def ints (l : List Int) : List Value := l.map fun n => .int .i64 n
theorem ints_get {l : List Int} {i : Nat} {n : Int} (h : l[i]? = some n) : (ints l)[i]? = some (.int .i64 n) := by simp [ints, h]
theorem lens_ints (t : WT) (n : Nat) : lens t n = ints ((List.range n).map fun j => (((lay j [t]).length : Nat) : Int)) := by simp [lens, ints]
set_option maxRecDepth 100000 in
set_option maxHeartbeats 1000000 in
theorem eqI_c (w : World) (va vb : Value) (l : List Int) (n : Nat) (hnl : n = l.length) (ha : Sl w 1 va n (ints l)) (hb : Sl w 1 vb n (ints l)) (h9 : n ≤ 1000000000) :
    Calls Try.prog 31 #[va, vb] w fun e w' => e = .returned (.bool true) ∧ Ext w w' := by
  obtain ⟨A, c, rfl, hl, hn, hc, hs⟩ := ha
  obtain ⟨A', c', rfl, hl', hn', hc', hs'⟩ := hb
  have HL := Lib.hid hnl
  have HS := Lib.hid (And.intro hs hs')
  clear hl hl' hs hs' hnl
  have hd : ((n : Int) != (n : Int)) = false := by simp
  go_enter Try.func31, Try.ntmps31
  repeat' (go_not_at_region 4; (first | go_skip | go_guarded | go_step))
  go_loopg [5, 13] n (fun gk v5 v13 wr => ∃ i : Nat, v13 = .int .i64 i ∧ i ≤ n ∧ n - i ≤ gk ∧ Hid (Ext w wr))
  case atStart => exact ⟨0, rfl, Nat.zero_le _, by omega, Lib.hid (Ext.refl _)⟩
  case round =>
    obtain ⟨i, rfl, hi, hgk, HI⟩ := hrel
    rcases Nat.lt_or_ge i n with hlt | hge
    · have d1 : decide (i < n) = true := by simp [hlt]
      have hi1 : (i : Int) < (n : Int) := by omega
      obtain ⟨x, hx⟩ := get_of_lt l (show i < l.length by have := HL.out; omega)
      obtain ⟨b, o, rfl, hc1⟩ := (HS.out.1.below HI.out) (fun e => by have := ints_get hx; rw [e] at this; simp at this)
      obtain ⟨b', o', rfl, hc2⟩ := (HS.out.2.below HI.out) (fun e => by have := ints_get hx; rw [e] at this; simp at this)
      have q1 := hc1 i _ (ints_get hx)
      have q2 := hc2 i _ (ints_get hx)
      clear hc1 hc2 hx
      repeat' (go_not_at_region 6; (first | go_skip | go_guarded | go_step))
      go_quiet (fail)
      repeat' (first | go_skip | go_guarded | go_step)
      go_roundg (n - (i + 1))
      case measure => omega
      case rel => exact ⟨i + 1, by go_num, by omega, Nat.le_refl _, Lib.hid (below_drewN HI.out _)⟩
    · obtain rfl : i = n := by omega
      have d1 : decide (i < i) = false := by simp
      repeat' (first | go_skip | go_guarded | go_step)
      go_ret
      exact ⟨rfl, HI.out⟩

set_option maxRecDepth 100000 in
set_option maxHeartbeats 1000000 in
theorem awake09_c (w : World) : Calls Try.prog 26 #[] w fun e w' => e = .returned (.bool true) ∧ Ext w w' := by
  have hp1 := cput_c hs0 hs0_ok w nil0 [] pa9 (Rot.nil _ _) rise_nil (by simp) (by simp) (by decide)
  rw [put_a9] at hp1
  have HP1 := Lib.hid hp1
  clear hp1
  go_enter Try.func26, Try.ntmps26
  repeat' (first | go_at_call 14 | go_skip | go_guarded | go_step)
  refine HP1.out.mono ?_
  rintro e w1 ⟨g1, rfl, t1, f1, _⟩
  have hp2 := cput_c hs0 hs0_ok w1 (ptr g1) [pa9] pb9 (Rot.of t1) (by simp [Rise]) (by simp) (by simp [pa9]) (by decide)
  rw [put_ab9] at hp2
  have HP2 := Lib.hid hp2
  have H1 := Lib.hid f1
  clear hp2 t1 f1 HP1
  go_simp
  repeat' (first | go_at_call 14 | go_skip | go_guarded | go_step)
  refine HP2.out.mono ?_
  rintro e w2 ⟨g2, rfl, t2, f2, _⟩
  have H2 := Lib.hid (Ext.trans H1.out f2)
  have hR := TR.rep 13 t2 (by simp)
  rw [hs0_hash] at hR
  have e1 := congrArg St5.n st_example
  have e2 := congrArg St5.k st_example
  have e3 := congrArg St5.p st_example
  have e4 := congrArg St5.d st_example
  simp only [stT, Nat.zero_add] at e1 e2 e3 e4
  have hg := gof_c w2 g2 _ hR (by omega) (by omega) (by omega) (by have := ht_trie (fun _ => 0) 13 [pa9, pb9]; omega)
  rw [st_example] at hg
  have HG := Lib.hid hg
  clear hg hR t2 f2 e1 e2 e3 e4 HP2
  go_simp
  repeat' (first | go_at_call 33 | go_skip | go_guarded | go_step)
  refine HG.out.mono ?_
  rintro e w3 ⟨rfl, f3⟩
  have H3 := Lib.hid (Ext.trans H2.out f3)
  clear f3 HG
  go_simp
  repeat' (first | go_skip | go_guarded | go_step)
  go_ret
  exact ⟨rfl, H3.out⟩
end Go.Proofs.Ytkfiinmoecibcaa
