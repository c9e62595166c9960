/- Contracts: the document's Find and Get; plain laws of neighbours. -/
import Derived.Test.YtaehdkgmkjhmgaaZe
namespace Go.Proofs.Ytaehdkgmkjhmgaa
open Go.RowKit Go.QS
set_option linter.unusedVariables false

set_option maxRecDepth 100000 in
set_option maxHeartbeats 400000 in
theorem rfind_c (w : World) (v : Value) (l : List Pr) (key : List UInt8) (h : PS w v l) (hr : Rise l) (h9 : l.length ≤ 1000000000) (hk9 : ∀ p ∈ l, p.1.length ≤ 9223372036854775807) :
    Calls Try.prog 76 #[v, str key] w fun e w' => e = .returned (.tuple #[.int .i64 (fndI l key), .bool (hasK l key)]) ∧ Ext w w' := by
  obtain ⟨A, c, rfl, hl, hn, hc, hs⟩ := h
  obtain ⟨n, hn2⟩ : ∃ n, n = l.length := ⟨_, rfl⟩
  rw [← hn2] at h9 hn ⊢
  have Hn : Hid (_ ∧ _ ∧ _) := Lib.hid ⟨hn2, hr, hk9⟩
  clear hn2 hl hr hk9
  go_enter Try.func76, Try.ntmps76
  repeat' go_step
  go_loopg [6] n (fun gk vi wr => ∃ i : Nat, vi = .int .i64 i ∧ i ≤ n ∧ n - i ≤ gk ∧ Ext w wr ∧ Hid (∀ t q, t < i → l[t]? = some q → q.1 < key))
  case atStart => exact ⟨0, rfl, Nat.zero_le _, by omega, Ext.refl _, Lib.hid fun t q h => by omega⟩
  case round =>
    obtain ⟨i, rfl, hin, hgk, hE, HI⟩ := hrel
    rcases Nat.lt_or_ge i n with hlt | hge
    · have d1 : decide (i < n) = true := by simp [hlt]
      obtain ⟨q, hq⟩ := get_of_lt l (show i < l.length by have := Hn.out.1; omega)
      obtain ⟨b, o, rfl, hq1, hq2⟩ := seg_pair (hs.below hE) hq
      have hi1 : (i : Int) < (n : Int) := by omega
      have hql := Hn.out.2.2 q (List.mem_of_getElem? hq)
      have HQ := Lib.hid hq
      clear hq
      repeat' (first | go_skip | go_guarded | go_step)
      refine (less_c' _ q.1 key hql).mono ?_
      rintro e w1 ⟨rfl, hb1⟩
      have hE1 : Ext w w1 := Ext.trans hE hb1
      by_cases hlt2 : q.1 < key
      · have hd : decide (q.1 < key) = true := by simp [hlt2]
        have HL := Lib.hid hlt2
        clear hlt2
        go_simp
        repeat' (first | go_skip | go_guarded | go_step)
        go_roundg (n - (i + 1))
        case measure => omega
        case rel =>
          refine ⟨i + 1, by go_num, by omega, Nat.le_refl _, hE1, Lib.hid fun t p ht hp => ?_⟩
          rcases Nat.lt_or_eq_of_le (Nat.le_of_lt_succ ht) with h | rfl
          · exact HI.out t p h hp
          · rw [HQ.out] at hp; cases hp; exact HL.out
      · have hd : decide (q.1 < key) = false := by simp [hlt2]
        have hfi : i = fndI l key := fnd_first (by have := Hn.out.1; omega) (fun t q ht hq => HI.out t q ht hq) (fun q' hq' => by rw [HQ.out] at hq'; cases hq'; exact hlt2)
        have hha := hasK_at (k := key) Hn.out.2.1
        rw [← hfi, HQ.out] at hha
        have HF : Hid (_ ∧ _) := Lib.hid ⟨hfi, hha⟩
        obtain ⟨b1, b2⟩ := seg_pair (hs.below hE1) HQ.out
        clear hfi hha hlt2
        obtain ⟨_, hbo, c1, c2⟩ := b2
        cases hbo
        go_simp
        repeat' (first | go_skip | go_guarded | go_step)
        go_quiet (fail)
        repeat' go_step
        go_ret2
        refine ⟨?_, below_drewN hE1 _⟩
        rw [← HF.out.1, HF.out.2]
        first | rfl | simp
    · obtain rfl : i = n := by omega
      have d1 : decide (i < i) = false := by simp
      have hno : l[i]? = none := List.getElem?_eq_none (by have := Hn.out.1; omega)
      have hfi : i = fndI l key := fnd_first (by have := Hn.out.1; omega) (fun t q ht hq => HI.out t q ht hq) (fun q' hq' => by rw [hno] at hq'; cases hq')
      have hha := hasK_at (k := key) Hn.out.2.1
      rw [← hfi, hno] at hha
      have HF : Hid (_ ∧ _) := Lib.hid ⟨hfi, hha⟩
      clear hfi hha hno
      repeat' (first | go_skip | go_guarded | go_step)
      go_quiet (fail)
      repeat' go_step
      go_ret2
      refine ⟨?_, below_drewN hE _⟩
      rw [← HF.out.1, HF.out.2]
      rfl

set_option maxRecDepth 100000 in
theorem rgetN_c (w : World) (v : Value) (l : List Pr) (key : List UInt8) (h : PS w v l) (hr : Rise l) (h9 : l.length ≤ 1000) (hk9 : ∀ p ∈ l, p.1.length ≤ 1000) :
    Calls Try.prog 48 #[v, str key] w fun e w' => (∃ u, e = .returned (.tuple #[str u, .bool (hasK l key)])) ∧ Ext w w' := by
  have hha := hasK_at (k := key) hr
  have HF := Lib.hid (rfind_c w v l key h hr (by omega) (fun p hp => by have := hk9 p hp; omega))
  obtain ⟨A, c, rfl, hl, hn, hc, hs⟩ := h
  obtain ⟨n, hn2⟩ : ∃ n, n = l.length := ⟨_, rfl⟩
  rw [← hn2] at h9 hn HF ⊢
  have Hn := Lib.hid hn2
  obtain ⟨f, hf⟩ : ∃ f, f = fndI l key := ⟨_, rfl⟩
  rw [← hf] at hha HF
  have HS := Lib.hid hs
  clear hn2 hl hr hk9 hf hs
  cases hb : hasK l key with
  | false =>
    rw [hb] at HF
    clear hb hha
    go_enter Try.func48, Try.ntmps48
    repeat' (first | go_at_call 76 | go_skip | go_guarded | go_step)
    refine HF.out.mono ?_
    rintro e w1 ⟨rfl, f1⟩
    have F1 := Lib.hid f1
    clear f1
    go_simp
    repeat' (first | go_skip | go_guarded | go_step)
    go_ret2
    exact ⟨⟨_, rfl⟩, F1.out⟩
  | true =>
    rw [hb] at HF hha
    have hlt : f < l.length := by
      rcases Nat.lt_or_ge f l.length with h | h
      · exact h
      · rw [List.getElem?_eq_none_iff.2 h] at hha; cases hha
    obtain ⟨q, hq⟩ := get_of_lt l hlt
    obtain ⟨b, o, rfl, hq1, hq2⟩ := seg_pair HS.out hq
    have hi1 : (f : Int) < (n : Int) := by have := Hn.out; omega
    have hbl : b < w.heap.size := World.block_lt_of_cell? w _ hq1
    have HQ := Lib.hid hq2
    clear hb hha hq hlt hq1 hq2
    go_enter Try.func48, Try.ntmps48
    repeat' (first | go_at_call 76 | go_skip | go_guarded | go_step)
    refine HF.out.mono ?_
    rintro e w1 ⟨rfl, f1⟩
    have F1 := Lib.hid f1
    have hq2 := (f1.cell (p := ⟨b, o + f * 2 + 1, none⟩) hbl).trans HQ.out
    clear f1
    go_simp
    repeat' (first | go_skip | go_guarded | go_step)
    go_ret2
    exact ⟨⟨_, rfl⟩, F1.out⟩

/-! ### Neighbours -/
theorem hasK_here {x : List Pr} (h : Rise x) (key : List UInt8) : hasK x key = hereB x key := by
  rw [Bool.eq_iff_iff, hasK_iff]
  constructor
  · rintro ⟨q, hq, rfl⟩
    obtain ⟨i, hi⟩ := List.getElem?_of_mem hq
    exact (rank_at h hi).2
  · intro hh
    unfold hereB at hh
    cases hx : x[rankL key x]? with
    | none => rw [hx] at hh; cases hh
    | some q => rw [hx] at hh; exact ⟨q, List.mem_of_getElem? hx, by simpa using hh⟩
theorem here_at {x : List Pr} {key : List UInt8} (h : hereB x key = true) : ∃ v, x[rankL key x]? = some (key, v) := by
  unfold hereB at h
  cases hx : x[rankL key x]? with
  | none => rw [hx] at h; cases h
  | some q => rw [hx] at h; obtain ⟨a, b⟩ := q; simp at h; subst h; exact ⟨b, rfl⟩
theorem rise_last {F : List Pr} (h : Rise F) {p q : Pr} (hp : F.getLast? = some p) (hq : q ∈ F) : ¬ p.1 < q.1 := by
  obtain ⟨i, hi⟩ := List.getElem?_of_mem hq
  obtain ⟨h1, h2⟩ := List.getElem?_eq_some_iff.1 hi
  rw [List.getLast?_eq_getElem?] at hp
  obtain ⟨h3, h4⟩ := List.getElem?_eq_some_iff.1 hp
  rcases Nat.lt_or_eq_of_le (show i ≤ F.length - 1 by omega) with h5 | h5
  · have := List.pairwise_iff_getElem.1 h i _ h1 h3 h5
    rw [h2, h4] at this
    exact k_asymm this
  · subst h5
    rw [h2] at h4
    rw [h4]
    exact k_irrefl _
theorem rise_first {F : List Pr} (h : Rise F) {p q : Pr} (hp : F.head? = some p) (hq : q ∈ F) : ¬ q.1 < p.1 := by
  cases F with
  | nil => cases hq
  | cons x F =>
    cases hp
    rcases List.mem_cons.1 hq with rfl | hq
    · exact k_irrefl _
    · exact k_asymm ((rise_cons.1 h).1 q hq)
theorem below_most {x : List Pr} (h : Rise x) {key : List UInt8} {p q : Pr} (hp : nearL true false key x = some p) (hq : q ∈ x) : ¬ (p.1 < q.1 ∧ q.1 < key) := by
  rintro ⟨h1, h2⟩
  unfold nearL pick at hp
  rw [if_pos rfl] at hp
  exact rise_last (List.Pairwise.filter _ h) hp (List.mem_filter.2 ⟨hq, by simp [prd, h2]⟩) h1
theorem above_least {x : List Pr} (h : Rise x) {key : List UInt8} {p q : Pr} (hp : nearL false false key x = some p) (hq : q ∈ x) : ¬ (key < q.1 ∧ q.1 < p.1) := by
  rintro ⟨h1, h2⟩
  unfold nearL pick at hp
  rw [if_neg (by simp)] at hp
  exact rise_first (List.Pairwise.filter _ h) hp (List.mem_filter.2 ⟨hq, by simp [prd, h1]⟩) h2
end Go.Proofs.Ytaehdkgmkjhmgaa
