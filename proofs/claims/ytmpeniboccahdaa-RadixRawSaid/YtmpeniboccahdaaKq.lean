/- Contract: the document's Rises. -/
import Derived.Test.YtmpeniboccahdaaLs
import Derived.Test.YtmpeniboccahdaaMa
import Derived.Deep.LoopGhost
import Derived.StillTailTactics
namespace Go.Proofs.Ytmpeniboccahdaa.Pch
open Go.RowKit Go.QS
set_option linter.unusedVariables false

set_option maxRecDepth 100000 in
theorem rrises_c (w : World) (v : Value) (l : List Pr) (h : PS w v l) (h9 : l.length ≤ 1000000000) (hk9 : ∀ p ∈ l, p.1.length ≤ 9223372036854775807) :
    Calls Try.prog 56 #[v] w fun e w' => e = .returned (.bool (riseB l)) ∧ Ext w w' := by
  obtain ⟨A, c, rfl, hl, hn, hc, hs⟩ := h
  obtain ⟨n, hn2⟩ : ∃ n, n = l.length := ⟨_, rfl⟩
  rw [← hn2] at h9 hn ⊢
  have Hn := Lib.hid hn2
  have H9 := Lib.hid hk9
  clear hn2 hl hk9
  go_enter Try.func56, Try.ntmps56
  repeat' go_step
  go_loopg [3] n (fun gk vk wr => ∃ k : Nat, vk = .int .i64 k ∧ n - k ≤ gk ∧ k ≤ 1000000000 ∧ Ext w wr ∧ Hid (∀ i p q, i < k → l[i]? = some p → l[i + 1]? = some q → p.1 < q.1))
  case atStart => exact ⟨0, rfl, by omega, by omega, Ext.refl _, Lib.hid fun i p q h => by omega⟩
  case round =>
    obtain ⟨k, rfl, hgk, hk9, hb, HI⟩ := hrel
    obtain ⟨k1, hk1⟩ : ∃ k1, k1 = k + 1 := ⟨_, rfl⟩
    have hs0 : (k : Int) + 1 = (k1 : Int) := by omega
    have hkk : k < k1 ∧ k1 ≤ 1000000001 := by omega
    obtain ⟨hkk1, hkk2⟩ := hkk
    by_cases hlt : k1 < n
    · have d1 : decide (k1 < n) = true := by simp [hlt]
      obtain ⟨q, hq⟩ := get_of_lt l (show k1 < l.length by have := Hn.out; omega)
      obtain ⟨p, hp⟩ := get_of_lt l (show k < l.length by have := Hn.out; omega)
      obtain ⟨b, o, rfl, hq1, hq2⟩ := seg_pair (hs.below hb) hq
      obtain ⟨b', o', hA, hp1, hp2⟩ := seg_pair (hs.below hb) hp
      simp only [Option.some.injEq, Addr.mk.injEq, and_true] at hA
      obtain ⟨rfl, rfl⟩ := hA
      have hs1 : IntKind.i64.wrap (k1 : Int) = (k1 : Int) := IntWalk.i64_in _ (by omega)
      have hi1 : (k : Int) < (n : Int) := by omega
      have hi2 : (k1 : Int) < (n : Int) := by omega
      have hpl := H9.out p (List.mem_of_getElem? hp)
      have HK : Hid (_ ∧ _ ∧ _) := Lib.hid ⟨hk1, hq, hp⟩
      clear hk1 hq hp
      repeat' go_step
      go_still_tail 11, (by kernel_rfl)
      change wpList _ _ _ _ _ wr.drew
      repeat' (first | go_skip | go_guarded | go_step)
      refine (less_c' _ p.1 q.1 hpl).mono ?_
      rintro e w1 ⟨rfl, hb1⟩
      have hE1 : Ext w w1 := hb.drew.trans (hb1.mono hb.size)
      by_cases hpq : p.1 < q.1
      · have hd : decide (p.1 < q.1) = true := by simp [hpq]
        have Hp := Lib.hid hpq
        clear hpq
        go_simp
        repeat' go_step
        go_roundg (n - k1)
        case measure => omega
        case rel =>
          refine ⟨k1, rfl, Nat.le_refl _, by omega, hE1, Lib.hid fun i p' q' h h1 h2 => ?_⟩
          obtain ⟨hk1, hq, hp⟩ := HK.out
          by_cases hi : i < k
          · exact HI.out i p' q' hi h1 h2
          · have : i = k := by omega
            subst this
            rw [hp] at h1; rw [← hk1, hq] at h2
            cases h1; cases h2
            exact Hp.out
      · have hd : decide (p.1 < q.1) = false := by simp [hpq]
        have Hp := Lib.hid hpq
        clear hpq
        go_simp
        repeat' go_step
        go_ret
        refine ⟨?_, hE1⟩
        have : riseB l = false := by
          rw [Bool.eq_false_iff]
          intro hh
          obtain ⟨hk1, hq, hp⟩ := HK.out
          exact Hp.out ((riseB_idx l).1 hh k p q hp (by rw [← hk1]; exact hq))
        rw [this]; rfl
    · have d1 : decide (k1 < n) = false := by simp; omega
      have HK := Lib.hid hk1
      clear hk1
      repeat' go_step
      go_ret
      refine ⟨?_, hb⟩
      have : riseB l = true := (riseB_idx l).2 fun i p q hp hq => HI.out i p q (by have := (List.getElem?_eq_some_iff.1 hq).1; have := Hn.out; have := HK.out; omega) hp hq
      rw [this]; rfl
end Go.Proofs.Ytmpeniboccahdaa.Pch