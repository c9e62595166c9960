/- Contract: where a kid is, or would be. -/
import Derived.Test.YtbplddiopajocaaRd
import Derived.Test.YtbplddiopajocaaMc
import Derived.Test.YtbplddiopajocaaMa
import Derived.Deep.LoopGhost
set_option linter.unusedVariables false
set_option linter.unusedSimpArgs false
namespace Go.Proofs.Ytbplddiopajocaa
open Go.RowKit Go.QS
set_option linter.unusedVariables false

abbrev fndV : Value := .func (.func 86) #[] #[]

theorem hd_cons {x : UInt8} {l : List UInt8} {k : RT} (h : k.lab = x :: l) : k.hd = x.toNat := by simp [RT.hd, h]
theorem hd_lt (k : RT) : k.hd < 256 := UInt8.toNat_lt _

set_option maxRecDepth 100000 in
theorem fnd1_c (w : World) (p c : Nat) (k : RT) (hc : c < 256) (h : w.cell? ⟨p, 0, none⟩ = some (str k.lab)) (hne : k.lab ≠ []) :
    Calls Try.prog 86 #[ptr p, .int .u8 c] w fun e w' => e = .returned (.int .i64 ((k.hd : Int) - (c : Int))) ∧ w = w' := by
  obtain ⟨x, l, hl⟩ := List.exists_cons_of_ne_nil hne
  have hx := hd_cons hl
  have hx9 := hd_lt k
  rw [hl] at h
  have hidx := idx_str Try.underlying9 (a := x :: l) (k := 0) (x := x) rfl
  rw [← hx] at hidx
  have HX : Hid (_ ∧ _) := Lib.hid ⟨hx, hl⟩
  have hw : IntKind.i64.wrap ((k.hd : Int) - (c : Int)) = (k.hd : Int) - (c : Int) := IntWalk.i64_in _ (by omega)
  obtain ⟨y, hy⟩ : ∃ y, y = k.hd := ⟨_, rfl⟩
  rw [← hy] at hidx hw hx9 ⊢
  have HY := Lib.hid hy
  clear hx hne hl hy
  go_enter Try.func86, Try.ntmps86
  repeat' (first | go_skip | go_guarded | go_step)
  go_ret
  refine ⟨?_, rfl⟩
  have e : ((((bs (x :: l))[0]'(by simp)).toNat : Nat) : Int) = (y : Int) := by
    have : (bs (x :: l))[0]'(by simp) = x := rfl
    rw [this, HY.out, ← HX.out.1]
  show Ending.returned (.int .i64 (wrap64 (wrap64 ((((bs (x :: l))[0]'(by simp)).toNat : Nat) : Int) - (c : Int)))) = _
  rw [e, IntWalk.wrap64_in (y : Int) (by omega), IntWalk.wrap64_in _ (by omega)]

set_option maxRecDepth 100000 in
set_option maxHeartbeats 400000 in
theorem bsk_c (w : World) (v : Value) (ps : List Nat) (ks : List RT) (c : Nat) (hc : c < 256) (h : Sl w 1 v ps.length (ptrs ps)) (hr : Reps NT w ps ks) (hne : ∀ k ∈ ks, k.lab ≠ []) (hs : Heads ks) (h9 : ps.length ≤ 1000000000) :
    Calls Try.prog 85 #[v, .int .u8 c, fndV] w fun e w' => e = .returned (.tuple #[.int .i64 (fI ks c), .bool (fH ks c)]) ∧ w = w' := by
  obtain ⟨A, cap, rfl, hl, hn, hcap, hsg⟩ := h
  obtain ⟨n, hn2⟩ : ∃ n, n = ps.length := ⟨_, rfl⟩
  rw [← hn2] at h9 hn ⊢
  have Hn : Hid (n = ps.length ∧ Heads ks ∧ ps.length = ks.length) := Lib.hid ⟨hn2, hs, hr.1⟩
  have one : ∀ m, m < n → ∃ p k b o, A = some ⟨b, o, none⟩ ∧ w.cell? ⟨b, o + m, none⟩ = some (ptr p) ∧ ks[m]? = some k ∧ w.cell? ⟨p, 0, none⟩ = some (str k.lab) ∧ k.lab ≠ [] := by
    intro m hm
    obtain ⟨p, hp⟩ := get_of_lt ps (show m < ps.length by omega)
    obtain ⟨k, hk⟩ := get_of_lt ks (show m < ks.length by have := hr.1; omega)
    obtain ⟨b, o, hA, hcl⟩ := hsg (fun e => by have := ptrs_get hp; rw [e] at this; simp at this)
    obtain ⟨kv, ow, qs, nd, _, _⟩ := (hr.2 m p k hp hk).open
    exact ⟨p, k, b, o, hA, hcl m _ (ptrs_get hp), hk, nd.cells.1, hne k (List.mem_of_getElem? hk)⟩
  have ONE := Lib.hid one
  clear one hn2 hl hr hsg hne hs
  go_enter Try.func85, Try.ntmps85
  repeat' go_step
  go_loopg [9, 10] n (fun gk vi vj wr => ∃ i j : Nat, vi = .int .i64 i ∧ vj = .int .i64 j ∧ i ≤ j ∧ j ≤ n ∧ j - i ≤ gk ∧ w = wr ∧ Hid (∀ t q, ks[t]? = some q → (t < i → q.hd < c) ∧ (j ≤ t → ¬ q.hd < c)))
  case atStart => exact ⟨0, n, rfl, rfl, Nat.zero_le _, Nat.le_refl _, by omega, rfl, Lib.hid fun t q hq => ⟨fun h => by omega, fun h => by have := (List.getElem?_eq_some_iff.1 hq).1; have := Hn.out; omega⟩⟩
  case round =>
    obtain ⟨i, j, rfl, rfl, hij, hjn, hgk, rfl, HI⟩ := hrel
    rcases Nat.lt_or_ge i j with hlt | hge
    · have d1 : decide (i < j) = true := by simp [hlt]
      obtain ⟨m, hm⟩ : ∃ m, m = (i + j) / 2 := ⟨_, rfl⟩
      have hm1 : ((i : Int) + (j : Int)) / 2 = (m : Int) := by omega
      have him : i ≤ m := by omega
      have hmj : m < j := by omega
      obtain ⟨p, q, b, o, rfl, hq1, hq, hq2, hq3⟩ := ONE.out m (by omega)
      have hi1 : (m : Int) < (n : Int) := by omega
      have HH : Hid (_ ∧ _ ∧ _) := Lib.hid ⟨hq, hq2, hq3⟩
      have hx9 := hd_lt q
      clear hm hq hq2 hq3
      repeat' go_step
      refine (fnd1_c _ p c q hc HH.out.2.1 HH.out.2.2).mono ?_
      rintro e w1 ⟨rfl, rfl⟩
      by_cases hlt : q.hd < c
      · have hcd : decide ((q.hd : Int) - (c : Int) < 0) = true := by simp; omega
        have HL := Lib.hid hlt
        clear hlt
        go_simp
        repeat' go_step
        go_roundg (j - (m + 1))
        case measure => omega
        case rel =>
          refine ⟨m + 1, j, by go_num, rfl, by omega, by omega, Nat.le_refl _, rfl, Lib.hid fun t r hp => ⟨fun ht => ?_, fun ht => (HI.out t r hp).2 ht⟩⟩
          rcases Nat.lt_or_eq_of_le (Nat.le_of_lt_succ ht) with h | rfl
          · obtain ⟨e1, rfl⟩ := List.getElem?_eq_some_iff.1 hp
            obtain ⟨e2, rfl⟩ := List.getElem?_eq_some_iff.1 HH.out.1
            exact Nat.lt_trans (List.pairwise_iff_getElem.1 Hn.out.2.1 _ _ e1 e2 h) HL.out
          · rw [HH.out.1] at hp; cases hp; exact HL.out
      · have hcd : decide ((q.hd : Int) - (c : Int) < 0) = false := by simp; omega
        have HL := Lib.hid hlt
        clear hlt
        go_simp
        repeat' go_step
        go_roundg (m - i)
        case measure => omega
        case rel =>
          refine ⟨i, m, rfl, rfl, by omega, by omega, Nat.le_refl _, rfl, Lib.hid fun t r hp => ⟨fun ht => (HI.out t r hp).1 ht, fun ht => ?_⟩⟩
          rcases Nat.lt_or_eq_of_le ht with h | rfl
          · obtain ⟨e1, rfl⟩ := List.getElem?_eq_some_iff.1 hp
            obtain ⟨e2, rfl⟩ := List.getElem?_eq_some_iff.1 HH.out.1
            exact fun hx => HL.out (Nat.lt_trans (List.pairwise_iff_getElem.1 Hn.out.2.1 _ _ e2 e1 h) hx)
          · rw [HH.out.1] at hp; cases hp; exact HL.out
    · obtain rfl : i = j := by omega
      have d1 : decide (i < i) = false := by simp
      have hfi : i = fI ks c := fI_first (by have := Hn.out; omega) (fun t q ht hq => (HI.out t q hq).1 ht) (fun q hq => (HI.out i q hq).2 (Nat.le_refl _))
      have hha := fH_at (c := c) Hn.out.2.1
      rw [← hfi] at hha
      have HF := Lib.hid hfi
      clear hfi
      rcases Nat.lt_or_ge i n with hlt | hge
      · have d2 : decide (i < n) = true := by simp [hlt]
        obtain ⟨p, q, b, o, rfl, hq1, hq, hq2, hq3⟩ := ONE.out i hlt
        have hi1 : (i : Int) < (n : Int) := by omega
        rw [hq] at hha
        have HH : Hid (_ ∧ _ ∧ _ ∧ _) := Lib.hid ⟨hq, hha, hq2, hq3⟩
        clear hq hha hq2 hq3
        repeat' (first | go_skip | go_guarded | go_step)
        refine (fnd1_c _ p c q hc HH.out.2.2.1 HH.out.2.2.2).mono ?_
        rintro e w1 ⟨rfl, rfl⟩
        have hz : ((q.hd : Int) - (c : Int) == 0) = (q.hd == c) := by
          rw [Bool.eq_iff_iff]
          simp; omega
        go_simp
        repeat' (first | go_skip | go_guarded | go_step)
        go_ret2
        refine ⟨?_, rfl⟩
        rw [← HF.out, HH.out.2.1]
        first | rfl | simp
      · have d2 : decide (i < n) = false := by simp; omega
        have hno : ks[i]? = none := List.getElem?_eq_none (by have := Hn.out; omega)
        rw [hno] at hha
        have HH := Lib.hid hha
        clear hha hno
        repeat' (first | go_skip | go_guarded | go_step)
        go_ret2
        refine ⟨?_, rfl⟩
        rw [← HF.out, HH.out]
        rfl

set_option maxRecDepth 100000 in
theorem findk_c (w : World) (g : Nat) (t : RT) (c : Nat) (hc : c < 256) (h : Rep NT w g t) (hne : ∀ k ∈ t.kids, k.lab ≠ []) (hs : Heads t.kids) (h9 : t.kids.length ≤ 1000000000) :
    Calls Try.prog 66 #[ptr g, .int .u8 c] w fun e w' => e = .returned (.tuple #[.int .i64 (fI t.kids c), .bool (fH t.kids c)]) ∧ w = w' := by
  obtain ⟨kv, ow, ps, nd, sl, rp⟩ := h.open
  have HC := Lib.hid (bsk_c w kv ps t.kids c hc sl rp hne hs (by have := rp.1; omega))
  have c3 := nd.cells.2.2.2.1
  have hsl : ∃ A n c, kv = .slice A n c := by obtain ⟨A, c, rfl, _⟩ := sl; exact ⟨_, _, _, rfl⟩
  obtain ⟨A, n, cap, rfl⟩ := hsl
  clear h hne hs h9 nd sl rp
  go_enter Try.func66, Try.ntmps66
  repeat' (first | go_skip | go_guarded | go_step)
  refine HC.out.mono ?_
  rintro e w1 ⟨rfl, rfl⟩
  go_simp
  repeat' (first | go_skip | go_guarded | go_step)
  go_ret2
  exact ⟨rfl, rfl⟩
end Go.Proofs.Ytbplddiopajocaa
