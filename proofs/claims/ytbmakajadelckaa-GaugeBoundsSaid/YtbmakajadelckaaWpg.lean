/- Contract: the document's Fold. -/
import Derived.Test.YtbmakajadelckaaWpf
import Derived.Test.YtbmakajadelckaaM22
import Derived.Deep.LoopGhost
import Derived.Deep.RegionHeld3
set_option linter.unusedVariables false
set_option linter.unusedSimpArgs false
namespace Go.Proofs.Ytbmakajadelckaa
open Go.RowKit Go.QS Go.QS.Nk
set_option linter.unusedVariables false

theorem foldP_take {L : List Pr} {i : Nat} {p : Pr} (k : Nat) (h : L[i]? = some p) : foldP k (L.take (i + 1)) = stp k (foldP k (L.take i)) p := by rw [take_snoc h, foldP_snoc]
theorem foldR_in {op k : Nat} (L : List Pr) (hk : k = op) (h : op ≤ 5) : foldR (op : Int) L = .tuple #[.int .u64 (foldP k L : Nat), .bool true] := by
  unfold foldR foldN
  have h1 : 0 ≤ (op : Int) ∧ (op : Int) ≤ 5 := by omega
  rw [if_pos h1, decide_eq_true h1, hk]
  rfl
set_option maxRecDepth 100000 in
theorem rfoldn_c (w : World) (op : Int) (v : Value) (L : List Pr) (h : ¬(0 ≤ op ∧ op ≤ 5)) : Calls Try.prog 26 #[.int .i64 op, v] w fun e w' => e = .returned (foldR op L) ∧ Ext w w' := by
  have HO := Lib.hid h
  by_cases h1 : op < 0
  · have d1 : decide (op < 0) = true := by simp [h1]
    clear h
    go_enter Try.func26, Try.ntmps26
    repeat' (first | go_skip | go_guarded | go_step)
    go_ret2
    unfold foldR foldN
    rw [if_neg HO.out, decide_eq_false HO.out]
    exact ⟨rfl, Ext.refl _⟩
  · have d1 : decide (op < 0) = false := by simp; omega
    have h2 : 5 < op := by omega
    have d2 : decide (5 < op) = true := by simp [h2]
    clear h
    go_enter Try.func26, Try.ntmps26
    repeat' (first | go_skip | go_guarded | go_step)
    go_ret2
    unfold foldR foldN
    rw [if_neg HO.out, decide_eq_false HO.out]
    exact ⟨rfl, Ext.refl _⟩

set_option maxRecDepth 100000 in
set_option maxHeartbeats 2000000 in
theorem rfold0_c (w : World) (v : Value) (L : List Pr) (hP : PS w v L) (h9 : L.length ≤ 1000) (hk : ∀ p ∈ L, p.1.length ≤ 1000 ∧ p.2.length ≤ 1000) : Calls Try.prog 26 #[.int .i64 0, v] w fun e w' => e = .returned (foldR 0 L) ∧ Ext w w' := by
  obtain ⟨A, C, rfl, _, hnC, hC9, hs⟩ := hP
  obtain ⟨n, hn⟩ : ∃ n, n = L.length := ⟨_, rfl⟩
  rw [← hn] at hnC ⊢
  have hn9 : n ≤ 1000 := by omega
  have HH := Lib.hid (And.intro hs (And.intro hn hk))
  clear hs hn hk h9
  go_enter Try.func26, Try.ntmps26
  repeat' (go_not_at_region 5; (first | go_skip | go_guarded | go_step))
  go_loopg [6, 8, 9, 10, 19] n (fun gk v6 v8 v9 v10 v19 wr => ∃ (i : Nat) (f : Nat), v6 = .int .u64 (f : Int) ∧ v19 = .int .i64 i ∧ i ≤ n ∧ n - i ≤ gk ∧ f < 18446744073709551616 ∧ Hid (f = foldP 0 (L.take i) ∧ Ext w wr))
  case atStart => exact ⟨0, 0, rfl, rfl, Nat.zero_le _, by omega, by decide, Lib.hid ⟨rfl, Ext.refl _⟩⟩
  case round =>
    obtain ⟨i, f, rfl, rfl, hin, hgk, hf9, HI⟩ := hrel
    rcases Nat.lt_or_ge i n with hlt | hge
    · have e1 : decide (i < n) = true := by simp [hlt]
      have hi1 : (i : Int) < (n : Int) := by omega
      obtain ⟨p, hp⟩ := get_of_lt L (show i < L.length by have := HH.out.2.1; omega)
      obtain ⟨b, o, rfl, q0, q1⟩ := seg_pair (HH.out.1.below HI.out.2) hp
      obtain ⟨hp1, hp2⟩ := HH.out.2.2 p (List.mem_of_getElem? hp)
      have hfn := foldP_take 0 hp
      rw [← HI.out.1] at hfn
      have hlt' : stp 0 f p < 18446744073709551616 := stp_lt 0 f p hf9 (by omega) (by omega)
      have HFN := Lib.hid (And.intro hfn hlt')
      clear hp hfn hlt'
      repeat' (go_not_at_region 7; (first | go_skip | go_guarded | go_step))
      obtain ⟨gp, hgp⟩ : ∃ g, g = wr.heap.size := ⟨_, rfl⟩
      rw [← hgp]
      refine wp_nameW (fun w' => w'.cell? ⟨gp, 0, none⟩ = some (str p.1) ∧ w'.cell? ⟨gp, 1, none⟩ = some (str p.2) ∧ Ext w w') ⟨by rw [World.cell?_alloc_at _ _ _ _ hgp]; rfl, by rw [World.cell?_alloc_at _ _ _ _ hgp]; rfl, HI.out.2.alloc HI.out.2.size _⟩ ?_
      clear hgp q0 q1
      intro w1 H1
      obtain ⟨b0, b1, _⟩ := id H1.out
      go_quiet (fail)
      have E2 := Lib.hid (Ext.trans H1.out.2.2 (below_drewN (Ext.refl w1) nq))
      have H2 : Hid ((w1.drewN nq).cell? ⟨gp, 0, none⟩ = some (str p.1) ∧ (w1.drewN nq).cell? ⟨gp, 1, none⟩ = some (str p.2)) := Lib.hid ⟨Ext.cell' (below_drewN (Ext.refl w1) nq) H1.out.1, Ext.cell' (below_drewN (Ext.refl w1) nq) H1.out.2.1⟩
      generalize w1.drewN nq = w2 at E2 H2 ⊢
      clear b0 b1 H1
      obtain ⟨b0, b1⟩ := id H2.out
      have hst : (stp 0 f p : Int) = IntKind.u64.wrap ((f : Int) + 1) := by rw [stp_0, IntKind.wrap_u64]; omega
      repeat' (first | go_skip | go_guarded | go_step)
      go_roundg (n - (i + 1))
      case measure => omega
      case rel => exact ⟨i + 1, stp 0 f p, by rw [hst], by go_num, by omega, Nat.le_refl _, HFN.out.2, Lib.hid ⟨HFN.out.1.symm, E2.out⟩⟩
    · obtain rfl : i = n := by omega
      have e1 : decide (i < i) = false := by simp
      have hfL : f = foldP 0 L := by rw [HI.out.1, List.take_of_length_le (by have := HH.out.2.1; omega)]
      repeat' (first | go_skip | go_guarded | go_step)
      (try simp only [Exit.inBlock, Exit.then])
      go_ret2
      refine ⟨?_, HI.out.2⟩
      rw [show ((0 : Int)) = ((0 : Nat) : Int) from rfl, foldR_in (k := 0) L rfl (by decide), ← hfL]
      rfl

set_option maxRecDepth 100000 in
set_option maxHeartbeats 2000000 in
theorem rfold1_c (w : World) (v : Value) (L : List Pr) (hP : PS w v L) (h9 : L.length ≤ 1000) (hk : ∀ p ∈ L, p.1.length ≤ 1000 ∧ p.2.length ≤ 1000) : Calls Try.prog 26 #[.int .i64 1, v] w fun e w' => e = .returned (foldR 1 L) ∧ Ext w w' := by
  obtain ⟨A, C, rfl, _, hnC, hC9, hs⟩ := hP
  obtain ⟨n, hn⟩ : ∃ n, n = L.length := ⟨_, rfl⟩
  rw [← hn] at hnC ⊢
  have hn9 : n ≤ 1000 := by omega
  have HH := Lib.hid (And.intro hs (And.intro hn hk))
  clear hs hn hk h9
  go_enter Try.func26, Try.ntmps26
  repeat' (go_not_at_region 5; (first | go_skip | go_guarded | go_step))
  go_loopg [6, 8, 9, 10, 19] n (fun gk v6 v8 v9 v10 v19 wr => ∃ (i : Nat) (f : Nat), v6 = .int .u64 (f : Int) ∧ v19 = .int .i64 i ∧ i ≤ n ∧ n - i ≤ gk ∧ f < 18446744073709551616 ∧ Hid (f = foldP 1 (L.take i) ∧ Ext w wr))
  case atStart => exact ⟨0, 0, rfl, rfl, Nat.zero_le _, by omega, by decide, Lib.hid ⟨rfl, Ext.refl _⟩⟩
  case round =>
    obtain ⟨i, f, rfl, rfl, hin, hgk, hf9, HI⟩ := hrel
    rcases Nat.lt_or_ge i n with hlt | hge
    · have e1 : decide (i < n) = true := by simp [hlt]
      have hi1 : (i : Int) < (n : Int) := by omega
      obtain ⟨p, hp⟩ := get_of_lt L (show i < L.length by have := HH.out.2.1; omega)
      obtain ⟨b, o, rfl, q0, q1⟩ := seg_pair (HH.out.1.below HI.out.2) hp
      obtain ⟨hp1, hp2⟩ := HH.out.2.2 p (List.mem_of_getElem? hp)
      have hfn := foldP_take 1 hp
      rw [← HI.out.1] at hfn
      have hlt' : stp 1 f p < 18446744073709551616 := stp_lt 1 f p hf9 (by omega) (by omega)
      have HFN := Lib.hid (And.intro hfn hlt')
      clear hp hfn hlt'
      repeat' (go_not_at_region 7; (first | go_skip | go_guarded | go_step))
      obtain ⟨gp, hgp⟩ : ∃ g, g = wr.heap.size := ⟨_, rfl⟩
      rw [← hgp]
      refine wp_nameW (fun w' => w'.cell? ⟨gp, 0, none⟩ = some (str p.1) ∧ w'.cell? ⟨gp, 1, none⟩ = some (str p.2) ∧ Ext w w') ⟨by rw [World.cell?_alloc_at _ _ _ _ hgp]; rfl, by rw [World.cell?_alloc_at _ _ _ _ hgp]; rfl, HI.out.2.alloc HI.out.2.size _⟩ ?_
      clear hgp q0 q1
      intro w1 H1
      obtain ⟨b0, b1, _⟩ := id H1.out
      go_quiet (fail)
      have E2 := Lib.hid (Ext.trans H1.out.2.2 (below_drewN (Ext.refl w1) nq))
      have H2 : Hid ((w1.drewN nq).cell? ⟨gp, 0, none⟩ = some (str p.1) ∧ (w1.drewN nq).cell? ⟨gp, 1, none⟩ = some (str p.2)) := Lib.hid ⟨Ext.cell' (below_drewN (Ext.refl w1) nq) H1.out.1, Ext.cell' (below_drewN (Ext.refl w1) nq) H1.out.2.1⟩
      generalize w1.drewN nq = w2 at E2 H2 ⊢
      clear b0 b1 H1
      obtain ⟨b0, b1⟩ := id H2.out
      have hst : (stp 1 f p : Int) = IntKind.u64.wrap ((f : Int) + (p.1.length : Int)) := by rw [stp_1, IntKind.wrap_u64]; omega
      repeat' (first | go_skip | go_guarded | go_step)
      go_roundg (n - (i + 1))
      case measure => omega
      case rel => exact ⟨i + 1, stp 1 f p, by rw [hst], by go_num, by omega, Nat.le_refl _, HFN.out.2, Lib.hid ⟨HFN.out.1.symm, E2.out⟩⟩
    · obtain rfl : i = n := by omega
      have e1 : decide (i < i) = false := by simp
      have hfL : f = foldP 1 L := by rw [HI.out.1, List.take_of_length_le (by have := HH.out.2.1; omega)]
      repeat' (first | go_skip | go_guarded | go_step)
      (try simp only [Exit.inBlock, Exit.then])
      go_ret2
      refine ⟨?_, HI.out.2⟩
      rw [show ((1 : Int)) = ((1 : Nat) : Int) from rfl, foldR_in (k := 1) L rfl (by decide), ← hfL]
      rfl

set_option maxRecDepth 100000 in
set_option maxHeartbeats 2000000 in
theorem rfold2_c (w : World) (v : Value) (L : List Pr) (hP : PS w v L) (h9 : L.length ≤ 1000) (hk : ∀ p ∈ L, p.1.length ≤ 1000 ∧ p.2.length ≤ 1000) : Calls Try.prog 26 #[.int .i64 2, v] w fun e w' => e = .returned (foldR 2 L) ∧ Ext w w' := by
  obtain ⟨A, C, rfl, _, hnC, hC9, hs⟩ := hP
  obtain ⟨n, hn⟩ : ∃ n, n = L.length := ⟨_, rfl⟩
  rw [← hn] at hnC ⊢
  have hn9 : n ≤ 1000 := by omega
  have HH := Lib.hid (And.intro hs (And.intro hn hk))
  clear hs hn hk h9
  go_enter Try.func26, Try.ntmps26
  repeat' (go_not_at_region 5; (first | go_skip | go_guarded | go_step))
  go_loopg [6, 8, 9, 10, 19] n (fun gk v6 v8 v9 v10 v19 wr => ∃ (i : Nat) (f : Nat), v6 = .int .u64 (f : Int) ∧ v19 = .int .i64 i ∧ i ≤ n ∧ n - i ≤ gk ∧ f < 18446744073709551616 ∧ Hid (f = foldP 2 (L.take i) ∧ Ext w wr))
  case atStart => exact ⟨0, 0, rfl, rfl, Nat.zero_le _, by omega, by decide, Lib.hid ⟨rfl, Ext.refl _⟩⟩
  case round =>
    obtain ⟨i, f, rfl, rfl, hin, hgk, hf9, HI⟩ := hrel
    rcases Nat.lt_or_ge i n with hlt | hge
    · have e1 : decide (i < n) = true := by simp [hlt]
      have hi1 : (i : Int) < (n : Int) := by omega
      obtain ⟨p, hp⟩ := get_of_lt L (show i < L.length by have := HH.out.2.1; omega)
      obtain ⟨b, o, rfl, q0, q1⟩ := seg_pair (HH.out.1.below HI.out.2) hp
      obtain ⟨hp1, hp2⟩ := HH.out.2.2 p (List.mem_of_getElem? hp)
      have hfn := foldP_take 2 hp
      rw [← HI.out.1] at hfn
      have hlt' : stp 2 f p < 18446744073709551616 := stp_lt 2 f p hf9 (by omega) (by omega)
      have HFN := Lib.hid (And.intro hfn hlt')
      clear hp hfn hlt'
      repeat' (go_not_at_region 7; (first | go_skip | go_guarded | go_step))
      obtain ⟨gp, hgp⟩ : ∃ g, g = wr.heap.size := ⟨_, rfl⟩
      rw [← hgp]
      refine wp_nameW (fun w' => w'.cell? ⟨gp, 0, none⟩ = some (str p.1) ∧ w'.cell? ⟨gp, 1, none⟩ = some (str p.2) ∧ Ext w w') ⟨by rw [World.cell?_alloc_at _ _ _ _ hgp]; rfl, by rw [World.cell?_alloc_at _ _ _ _ hgp]; rfl, HI.out.2.alloc HI.out.2.size _⟩ ?_
      clear hgp q0 q1
      intro w1 H1
      obtain ⟨b0, b1, _⟩ := id H1.out
      go_quiet (fail)
      have E2 := Lib.hid (Ext.trans H1.out.2.2 (below_drewN (Ext.refl w1) nq))
      have H2 : Hid ((w1.drewN nq).cell? ⟨gp, 0, none⟩ = some (str p.1) ∧ (w1.drewN nq).cell? ⟨gp, 1, none⟩ = some (str p.2)) := Lib.hid ⟨Ext.cell' (below_drewN (Ext.refl w1) nq) H1.out.1, Ext.cell' (below_drewN (Ext.refl w1) nq) H1.out.2.1⟩
      generalize w1.drewN nq = w2 at E2 H2 ⊢
      clear b0 b1 H1
      obtain ⟨b0, b1⟩ := id H2.out
      have hst : (stp 2 f p : Int) = IntKind.u64.wrap ((f : Int) + (p.2.length : Int)) := by rw [stp_2, IntKind.wrap_u64]; omega
      repeat' (first | go_skip | go_guarded | go_step)
      go_roundg (n - (i + 1))
      case measure => omega
      case rel => exact ⟨i + 1, stp 2 f p, by rw [hst], by go_num, by omega, Nat.le_refl _, HFN.out.2, Lib.hid ⟨HFN.out.1.symm, E2.out⟩⟩
    · obtain rfl : i = n := by omega
      have e1 : decide (i < i) = false := by simp
      have hfL : f = foldP 2 L := by rw [HI.out.1, List.take_of_length_le (by have := HH.out.2.1; omega)]
      repeat' (first | go_skip | go_guarded | go_step)
      (try simp only [Exit.inBlock, Exit.then])
      go_ret2
      refine ⟨?_, HI.out.2⟩
      rw [show ((2 : Int)) = ((2 : Nat) : Int) from rfl, foldR_in (k := 2) L rfl (by decide), ← hfL]
      rfl

set_option maxRecDepth 100000 in
set_option maxHeartbeats 2000000 in
theorem rfold3_c (w : World) (v : Value) (L : List Pr) (hP : PS w v L) (h9 : L.length ≤ 1000) (hk : ∀ p ∈ L, p.1.length ≤ 1000 ∧ p.2.length ≤ 1000) : Calls Try.prog 26 #[.int .i64 3, v] w fun e w' => e = .returned (foldR 3 L) ∧ Ext w w' := by
  obtain ⟨A, C, rfl, _, hnC, hC9, hs⟩ := hP
  obtain ⟨n, hn⟩ : ∃ n, n = L.length := ⟨_, rfl⟩
  rw [← hn] at hnC ⊢
  have hn9 : n ≤ 1000 := by omega
  have HH := Lib.hid (And.intro hs (And.intro hn hk))
  clear hs hn hk h9
  go_enter Try.func26, Try.ntmps26
  repeat' (go_not_at_region 5; (first | go_skip | go_guarded | go_step))
  go_loopg [6, 8, 9, 10, 19] n (fun gk v6 v8 v9 v10 v19 wr => ∃ (i : Nat) (f : Nat), v6 = .int .u64 (f : Int) ∧ v19 = .int .i64 i ∧ i ≤ n ∧ n - i ≤ gk ∧ f < 18446744073709551616 ∧ Hid (f = foldP 3 (L.take i) ∧ Ext w wr))
  case atStart => exact ⟨0, 0, rfl, rfl, Nat.zero_le _, by omega, by decide, Lib.hid ⟨rfl, Ext.refl _⟩⟩
  case round =>
    obtain ⟨i, f, rfl, rfl, hin, hgk, hf9, HI⟩ := hrel
    rcases Nat.lt_or_ge i n with hlt | hge
    · have e1 : decide (i < n) = true := by simp [hlt]
      have hi1 : (i : Int) < (n : Int) := by omega
      obtain ⟨p, hp⟩ := get_of_lt L (show i < L.length by have := HH.out.2.1; omega)
      obtain ⟨b, o, rfl, q0, q1⟩ := seg_pair (HH.out.1.below HI.out.2) hp
      obtain ⟨hp1, hp2⟩ := HH.out.2.2 p (List.mem_of_getElem? hp)
      have hfn := foldP_take 3 hp
      rw [← HI.out.1] at hfn
      have hlt' : stp 3 f p < 18446744073709551616 := stp_lt 3 f p hf9 (by omega) (by omega)
      have HFN := Lib.hid (And.intro hfn hlt')
      clear hp hfn hlt'
      repeat' (go_not_at_region 7; (first | go_skip | go_guarded | go_step))
      obtain ⟨gp, hgp⟩ : ∃ g, g = wr.heap.size := ⟨_, rfl⟩
      rw [← hgp]
      refine wp_nameW (fun w' => w'.cell? ⟨gp, 0, none⟩ = some (str p.1) ∧ w'.cell? ⟨gp, 1, none⟩ = some (str p.2) ∧ Ext w w') ⟨by rw [World.cell?_alloc_at _ _ _ _ hgp]; rfl, by rw [World.cell?_alloc_at _ _ _ _ hgp]; rfl, HI.out.2.alloc HI.out.2.size _⟩ ?_
      clear hgp q0 q1
      intro w1 H1
      obtain ⟨b0, b1, _⟩ := id H1.out
      go_quiet (fail)
      have E2 := Lib.hid (Ext.trans H1.out.2.2 (below_drewN (Ext.refl w1) nq))
      have H2 : Hid ((w1.drewN nq).cell? ⟨gp, 0, none⟩ = some (str p.1) ∧ (w1.drewN nq).cell? ⟨gp, 1, none⟩ = some (str p.2)) := Lib.hid ⟨Ext.cell' (below_drewN (Ext.refl w1) nq) H1.out.1, Ext.cell' (below_drewN (Ext.refl w1) nq) H1.out.2.1⟩
      generalize w1.drewN nq = w2 at E2 H2 ⊢
      clear b0 b1 H1
      obtain ⟨b0, b1⟩ := id H2.out
      by_cases hm : p.1.length > f
      · have hm1 : (f : Int) < (p.1.length : Int) := by omega
        have hst : stp 3 f p = p.1.length := by rw [stp_3, if_pos hm]
        repeat' (first | go_skip | go_guarded | go_step)
        go_roundg (n - (i + 1))
        case measure => omega
        case rel => exact ⟨i + 1, stp 3 f p, by rw [hst], by go_num, by omega, Nat.le_refl _, HFN.out.2, Lib.hid ⟨HFN.out.1.symm, E2.out⟩⟩
      · have hm1 : ¬ ((f : Int) < (p.1.length : Int)) := by omega
        have hst : stp 3 f p = f := by rw [stp_3, if_neg hm]
        repeat' (first | go_skip | go_guarded | go_step)
        go_roundg (n - (i + 1))
        case measure => omega
        case rel => exact ⟨i + 1, stp 3 f p, by rw [hst], by go_num, by omega, Nat.le_refl _, HFN.out.2, Lib.hid ⟨HFN.out.1.symm, E2.out⟩⟩
    · obtain rfl : i = n := by omega
      have e1 : decide (i < i) = false := by simp
      have hfL : f = foldP 3 L := by rw [HI.out.1, List.take_of_length_le (by have := HH.out.2.1; omega)]
      repeat' (first | go_skip | go_guarded | go_step)
      (try simp only [Exit.inBlock, Exit.then])
      go_ret2
      refine ⟨?_, HI.out.2⟩
      rw [show ((3 : Int)) = ((3 : Nat) : Int) from rfl, foldR_in (k := 3) L rfl (by decide), ← hfL]
      rfl

set_option maxRecDepth 100000 in
set_option maxHeartbeats 2000000 in
theorem rfold4_c (w : World) (v : Value) (L : List Pr) (hP : PS w v L) (h9 : L.length ≤ 1000) (hk : ∀ p ∈ L, p.1.length ≤ 1000 ∧ p.2.length ≤ 1000) : Calls Try.prog 26 #[.int .i64 4, v] w fun e w' => e = .returned (foldR 4 L) ∧ Ext w w' := by
  obtain ⟨A, C, rfl, _, hnC, hC9, hs⟩ := hP
  obtain ⟨n, hn⟩ : ∃ n, n = L.length := ⟨_, rfl⟩
  rw [← hn] at hnC ⊢
  have hn9 : n ≤ 1000 := by omega
  have HH := Lib.hid (And.intro hs (And.intro hn hk))
  clear hs hn hk h9
  go_enter Try.func26, Try.ntmps26
  repeat' (go_not_at_region 5; (first | go_skip | go_guarded | go_step))
  go_loopg [6, 8, 9, 10, 19] n (fun gk v6 v8 v9 v10 v19 wr => ∃ (i : Nat) (f : Nat), v6 = .int .u64 (f : Int) ∧ v19 = .int .i64 i ∧ i ≤ n ∧ n - i ≤ gk ∧ f < 18446744073709551616 ∧ Hid (f = foldP 4 (L.take i) ∧ Ext w wr))
  case atStart => exact ⟨0, 0, rfl, rfl, Nat.zero_le _, by omega, by decide, Lib.hid ⟨rfl, Ext.refl _⟩⟩
  case round =>
    obtain ⟨i, f, rfl, rfl, hin, hgk, hf9, HI⟩ := hrel
    rcases Nat.lt_or_ge i n with hlt | hge
    · have e1 : decide (i < n) = true := by simp [hlt]
      have hi1 : (i : Int) < (n : Int) := by omega
      obtain ⟨p, hp⟩ := get_of_lt L (show i < L.length by have := HH.out.2.1; omega)
      obtain ⟨b, o, rfl, q0, q1⟩ := seg_pair (HH.out.1.below HI.out.2) hp
      obtain ⟨hp1, hp2⟩ := HH.out.2.2 p (List.mem_of_getElem? hp)
      have hfn := foldP_take 4 hp
      rw [← HI.out.1] at hfn
      have hlt' : stp 4 f p < 18446744073709551616 := stp_lt 4 f p hf9 (by omega) (by omega)
      have HFN := Lib.hid (And.intro hfn hlt')
      clear hp hfn hlt'
      repeat' (go_not_at_region 7; (first | go_skip | go_guarded | go_step))
      obtain ⟨gp, hgp⟩ : ∃ g, g = wr.heap.size := ⟨_, rfl⟩
      rw [← hgp]
      refine wp_nameW (fun w' => w'.cell? ⟨gp, 0, none⟩ = some (str p.1) ∧ w'.cell? ⟨gp, 1, none⟩ = some (str p.2) ∧ Ext w w') ⟨by rw [World.cell?_alloc_at _ _ _ _ hgp]; rfl, by rw [World.cell?_alloc_at _ _ _ _ hgp]; rfl, HI.out.2.alloc HI.out.2.size _⟩ ?_
      clear hgp q0 q1
      intro w1 H1
      obtain ⟨b0, b1, _⟩ := id H1.out
      go_quiet (fail)
      have E2 := Lib.hid (Ext.trans H1.out.2.2 (below_drewN (Ext.refl w1) nq))
      have H2 : Hid ((w1.drewN nq).cell? ⟨gp, 0, none⟩ = some (str p.1) ∧ (w1.drewN nq).cell? ⟨gp, 1, none⟩ = some (str p.2)) := Lib.hid ⟨Ext.cell' (below_drewN (Ext.refl w1) nq) H1.out.1, Ext.cell' (below_drewN (Ext.refl w1) nq) H1.out.2.1⟩
      generalize w1.drewN nq = w2 at E2 H2 ⊢
      clear b0 b1 H1
      obtain ⟨b0, b1⟩ := id H2.out
      by_cases hm : p.2.length > f
      · have hm1 : (f : Int) < (p.2.length : Int) := by omega
        have hst : stp 4 f p = p.2.length := by rw [stp_4, if_pos hm]
        repeat' (first | go_skip | go_guarded | go_step)
        go_roundg (n - (i + 1))
        case measure => omega
        case rel => exact ⟨i + 1, stp 4 f p, by rw [hst], by go_num, by omega, Nat.le_refl _, HFN.out.2, Lib.hid ⟨HFN.out.1.symm, E2.out⟩⟩
      · have hm1 : ¬ ((f : Int) < (p.2.length : Int)) := by omega
        have hst : stp 4 f p = f := by rw [stp_4, if_neg hm]
        repeat' (first | go_skip | go_guarded | go_step)
        go_roundg (n - (i + 1))
        case measure => omega
        case rel => exact ⟨i + 1, stp 4 f p, by rw [hst], by go_num, by omega, Nat.le_refl _, HFN.out.2, Lib.hid ⟨HFN.out.1.symm, E2.out⟩⟩
    · obtain rfl : i = n := by omega
      have e1 : decide (i < i) = false := by simp
      have hfL : f = foldP 4 L := by rw [HI.out.1, List.take_of_length_le (by have := HH.out.2.1; omega)]
      repeat' (first | go_skip | go_guarded | go_step)
      (try simp only [Exit.inBlock, Exit.then])
      go_ret2
      refine ⟨?_, HI.out.2⟩
      rw [show ((4 : Int)) = ((4 : Nat) : Int) from rfl, foldR_in (k := 4) L rfl (by decide), ← hfL]
      rfl

set_option maxRecDepth 100000 in
set_option maxHeartbeats 2000000 in
theorem rfold5_c (w : World) (v : Value) (L : List Pr) (hP : PS w v L) (h9 : L.length ≤ 1000) (hk : ∀ p ∈ L, p.1.length ≤ 1000 ∧ p.2.length ≤ 1000) : Calls Try.prog 26 #[.int .i64 5, v] w fun e w' => e = .returned (foldR 5 L) ∧ Ext w w' := by
  obtain ⟨A, C, rfl, _, hnC, hC9, hs⟩ := hP
  obtain ⟨n, hn⟩ : ∃ n, n = L.length := ⟨_, rfl⟩
  rw [← hn] at hnC ⊢
  have hn9 : n ≤ 1000 := by omega
  have HH := Lib.hid (And.intro hs (And.intro hn hk))
  clear hs hn hk h9
  go_enter Try.func26, Try.ntmps26
  repeat' (go_not_at_region 5; (first | go_skip | go_guarded | go_step))
  go_loopg [6, 8, 9, 10, 19] n (fun gk v6 v8 v9 v10 v19 wr => ∃ (i : Nat) (f : Nat), v6 = .int .u64 (f : Int) ∧ v19 = .int .i64 i ∧ i ≤ n ∧ n - i ≤ gk ∧ f < 18446744073709551616 ∧ Hid (f = foldP 5 (L.take i) ∧ Ext w wr))
  case atStart => exact ⟨0, 0, rfl, rfl, Nat.zero_le _, by omega, by decide, Lib.hid ⟨rfl, Ext.refl _⟩⟩
  case round =>
    obtain ⟨i, f, rfl, rfl, hin, hgk, hf9, HI⟩ := hrel
    rcases Nat.lt_or_ge i n with hlt | hge
    · have e1 : decide (i < n) = true := by simp [hlt]
      have hi1 : (i : Int) < (n : Int) := by omega
      obtain ⟨p, hp⟩ := get_of_lt L (show i < L.length by have := HH.out.2.1; omega)
      obtain ⟨b, o, rfl, q0, q1⟩ := seg_pair (HH.out.1.below HI.out.2) hp
      obtain ⟨hp1, hp2⟩ := HH.out.2.2 p (List.mem_of_getElem? hp)
      have hfn := foldP_take 5 hp
      rw [← HI.out.1] at hfn
      have hlt' : stp 5 f p < 18446744073709551616 := stp_lt 5 f p hf9 (by omega) (by omega)
      have HFN := Lib.hid (And.intro hfn hlt')
      clear hp hfn hlt'
      repeat' (go_not_at_region 7; (first | go_skip | go_guarded | go_step))
      obtain ⟨gp, hgp⟩ : ∃ g, g = wr.heap.size := ⟨_, rfl⟩
      rw [← hgp]
      refine wp_nameW (fun w' => w'.cell? ⟨gp, 0, none⟩ = some (str p.1) ∧ w'.cell? ⟨gp, 1, none⟩ = some (str p.2) ∧ Ext w w') ⟨by rw [World.cell?_alloc_at _ _ _ _ hgp]; rfl, by rw [World.cell?_alloc_at _ _ _ _ hgp]; rfl, HI.out.2.alloc HI.out.2.size _⟩ ?_
      clear hgp q0 q1
      intro w1 H1
      obtain ⟨b0, b1, _⟩ := id H1.out
      go_quiet (fail)
      have E2 := Lib.hid (Ext.trans H1.out.2.2 (below_drewN (Ext.refl w1) nq))
      have H2 : Hid ((w1.drewN nq).cell? ⟨gp, 0, none⟩ = some (str p.1) ∧ (w1.drewN nq).cell? ⟨gp, 1, none⟩ = some (str p.2)) := Lib.hid ⟨Ext.cell' (below_drewN (Ext.refl w1) nq) H1.out.1, Ext.cell' (below_drewN (Ext.refl w1) nq) H1.out.2.1⟩
      generalize w1.drewN nq = w2 at E2 H2 ⊢
      clear b0 b1 H1
      obtain ⟨b0, b1⟩ := id H2.out
      have ha9 : sipN 0 0 p.1 < 18446744073709551616 := sipN_lt (by decide) (by decide) _
      have hb9 : sipN 0 0 p.2 < 18446744073709551616 := sipN_lt (by decide) (by decide) _
      have HA : Hid (∀ (W : World) (s : List UInt8), s = p.1 ∨ s = p.2 → Calls Try.prog 62 #[.int .u64 0, .int .u64 0, str s] W fun e w' => e = .returned (.int .u64 (sipN 0 0 s)) ∧ Ext W w') := Lib.hid (fun W s hs => rsum_c W 0 0 s (by decide) (by decide) (by rcases hs with rfl | rfl <;> omega))
      have HC : Hid (∀ W, Ext w2 W → W.cell? ⟨gp, 0, none⟩ = some (str p.1) ∧ W.cell? ⟨gp, 1, none⟩ = some (str p.2)) := Lib.hid (fun W f => ⟨Ext.cell' f H2.out.1, Ext.cell' f H2.out.2⟩)
      repeat' (first | (go_not_at_region 10; (first | go_at_call 62 | go_skip | go_guarded | go_step)))
      refine (HA.out _ _ (Or.inr rfl)).mono ?_
      rintro e w3 ⟨rfl, f3⟩
      have F3 := Lib.hid f3
      clear b0 b1 f3
      obtain ⟨b0, b1⟩ := HC.out w3 F3.out
      go_simp
      repeat' (first | (go_not_at_region 10; (first | go_skip | go_guarded | go_step)))
      repeat' (first | go_at_call 62 | go_skip | go_guarded | go_step)
      refine (HA.out _ _ (Or.inl rfl)).mono ?_
      rintro e w4 ⟨rfl, f4⟩
      have F4 := Lib.hid f4
      clear b0 b1 f4
      go_simp
      repeat' (first | go_skip | go_guarded | go_step)
      go_roundg (n - (i + 1))
      case measure => omega
      case rel => exact ⟨i + 1, stp 5 f p, by rw [stp_5 0 f p]; refine congrArg (fun z => Value.int .u64 z) ?_; simp only [IntKind.wrap_u64]; omega, by go_num, by omega, Nat.le_refl _, HFN.out.2, Lib.hid ⟨HFN.out.1.symm, Ext.trans E2.out (Ext.trans F3.out F4.out)⟩⟩
    · obtain rfl : i = n := by omega
      have e1 : decide (i < i) = false := by simp
      have hfL : f = foldP 5 L := by rw [HI.out.1, List.take_of_length_le (by have := HH.out.2.1; omega)]
      repeat' (first | go_skip | go_guarded | go_step)
      (try simp only [Exit.inBlock, Exit.then])
      go_ret2
      refine ⟨?_, HI.out.2⟩
      rw [show ((5 : Int)) = ((5 : Nat) : Int) from rfl, foldR_in (k := 5) L rfl (by decide), ← hfL]
      rfl
theorem rfold_c (w : World) (op : Int) (v : Value) (L : List Pr) (hP : PS w v L) (h9 : L.length ≤ 1000) (hk : ∀ p ∈ L, p.1.length ≤ 1000 ∧ p.2.length ≤ 1000) : Calls Try.prog 26 #[.int .i64 op, v] w fun e w' => e = .returned (foldR op L) ∧ Ext w w' := by
  by_cases h : 0 ≤ op ∧ op ≤ 5
  · obtain ⟨n, rfl⟩ : ∃ n : Nat, op = n := ⟨op.toNat, by omega⟩
    match n, h with
    | 0, _ => exact rfold0_c w v L hP h9 hk
    | 1, _ => exact rfold1_c w v L hP h9 hk
    | 2, _ => exact rfold2_c w v L hP h9 hk
    | 3, _ => exact rfold3_c w v L hP h9 hk
    | 4, _ => exact rfold4_c w v L hP h9 hk
    | 5, _ => exact rfold5_c w v L hP h9 hk
    | n + 6, h => omega
  · exact rfoldn_c w op v L h
end Go.Proofs.Ytbmakajadelckaa
