/- Texts joined. -/
import Derived.Test.YtmpeniboccahdaaUj
import Derived.Test.YtmpeniboccahdaaLs
/- Contracts: Put, Drop, Get of a tree that is as it must be, told by its list. -/
namespace Go.QS
theorem getL_has {l : List Pr} (h : Rise l) (k : List UInt8) : (getL k l).isSome = hasK l k := by
  rw [Bool.eq_iff_iff, Option.isSome_iff_exists, hasK_iff]
  constructor
  · rintro ⟨v, hv⟩
    exact ⟨_, (getL_iff h).1 hv, rfl⟩
  · rintro ⟨q, hq, rfl⟩
    exact ⟨q.2, (getL_iff h).2 hq⟩
end Go.QS
namespace Go.Proofs.Ytmpeniboccahdaa
open Go.RowKit Go.QS
set_option linter.unusedVariables false

theorem Ok.nil : Ok (RT.node [] none []) [] := ⟨rfl, .nil 40, rfl, fun q hq => by cases hq⟩
theorem Ok.put {t : RT} {l : List Pr} (h : Ok t l) {p : Pr} (hp : p.1.length ≤ 40 ∧ p.2.length ≤ 40) : Ok (tput p.1.length t p.1 p.2).1 (rput l p) := by
  have hk := tput_ok p.1.length 40 t p.1 p.2 (Nat.le_refl _) h.kd hp.1
  refine ⟨hk.lab.trans h.lab, hk.kd, ?_, fun q hq => ?_⟩
  · have := tput_prs (v := p.2) (Nat.le_refl _) h.kd hp.1
    rw [this, h.prs]
  · rcases mem_rput.1 hq with rfl | ⟨hq, _⟩
    · exact hp
    · exact h.short q hq
theorem Ok.drop {t : RT} {l : List Pr} (h : Ok t l) (key : List UInt8) : Ok (tdrop key.length t key).1 (rdrop l key) := by
  have hk := tdrop_ok key.length 40 t key (Nat.le_refl _) h.kd
  refine ⟨hk.lab.trans h.lab, hk.kd, ?_, fun q hq => h.short q (mem_rdrop.1 hq).1⟩
  rw [tdrop_prs (Nat.le_refl _) h.kd, h.prs]
theorem Ok.gone {t : RT} {l : List Pr} (h : Ok t l) (key : List UInt8) : (tdrop key.length t key).2 = hasK l key := by
  have hk := tdrop_ok key.length 40 t key (Nat.le_refl _) h.kd
  rw [Bool.eq_iff_iff, hk.gone, hasK_iff, h.prs]
  constructor
  · rintro ⟨u, hu⟩; exact ⟨_, hu, rfl⟩
  · rintro ⟨q, hq, rfl⟩; exact ⟨q.2, hq⟩

theorem putO_c (w : World) (g : Nat) (t : RT) (l : List Pr) (p : Pr) (h : Rep NT w g t) (ho : Ok t l) (hp : p.1.length ≤ 40 ∧ p.2.length ≤ 40) :
    Calls Try.prog 13 #[.pointer none, ptr g, .agg #[str p.1, str p.2]] w fun e w' => ∃ g' t', e = .returned (.tuple #[ptr g', .bool (!hasK l p.1)]) ∧ Ext w w' ∧ Rep NT w' g' t' ∧ Ok t' (rput l p) ∧ (p ∈ l → g' = g) := by
  refine (putR_c w 40 g t p h ho.kd hp.1 (by decide)).mono ?_
  rintro e w' ⟨g', rfl, f, r, hs, _⟩
  have hk := tput_ok p.1.length 40 t p.1 p.2 (Nat.le_refl _) ho.kd hp.1
  refine ⟨g', _, ?_, f, r, ho.put hp, fun hm => hs ?_⟩
  · rw [tput_add (Nat.le_refl _) ho.kd hp.1, ho.prs]
  · rw [Bool.eq_false_iff]
    intro e
    have := hk.ch.1 e
    rw [ho.prs] at this
    exact this hm

theorem putZ_c (w : World) (p : Pr) (hp : p.1.length ≤ 40 ∧ p.2.length ≤ 40) :
    Calls Try.prog 13 #[.pointer none, .pointer none, .agg #[str p.1, str p.2]] w fun e w' => ∃ g' t', e = .returned (.tuple #[ptr g', .bool true]) ∧ Ext w w' ∧ Rep NT w' g' t' ∧ Ok t' [p] := by
  refine (putV_c w _ 40 _ p (Root.nil w) (.nil 40) hp.1 (by decide)).mono ?_
  rintro e w' ⟨g', rfl, f, r⟩
  refine ⟨g', _, ?_, f, r, Ok.nil.put hp⟩
  rw [tput_add (Nat.le_refl _) (.nil 40) hp.1]; rfl

theorem dropO_c (w : World) (g : Nat) (t : RT) (l : List Pr) (key : List UInt8) (h : Rep NT w g t) (ho : Ok t l) (hk : key.length ≤ 40) :
    Calls Try.prog 16 #[.pointer none, ptr g, str key] w fun e w' => ∃ g' t', e = .returned (.tuple #[ptr g', .bool (hasK l key)]) ∧ Ext w w' ∧ Rep NT w' g' t' ∧ Ok t' (rdrop l key) ∧ (hasK l key = false → g' = g) := by
  refine (dropR_c w 40 g t key h ho.kd (by omega) (by decide)).mono ?_
  rintro e w' ⟨g', rfl, f, r, hs⟩
  refine ⟨g', _, ?_, f, r, ho.drop key, fun e => hs ?_⟩
  · rw [ho.gone]
  · rw [ho.gone]; exact e

theorem dropZ_c (w : World) (key : List UInt8) (hk : key.length ≤ 40) :
    Calls Try.prog 16 #[.pointer none, .pointer none, str key] w fun e w' => ∃ g', e = .returned (.tuple #[ptr g', .bool false]) ∧ Ext w w' := by
  refine (dropV_c w _ 40 _ key (Root.nil w) (.nil 40) (by omega) (by decide)).mono ?_
  rintro e w' ⟨g', rfl, f, r⟩
  refine ⟨g', ?_, f⟩
  rw [Ok.nil.gone]; rfl

theorem getO_c (w : World) (v : Value) (t : RT) (l : List Pr) (key : List UInt8) (h : Root w v t) (ho : Ok t l) (hk : key.length ≤ 40) :
    Calls Try.prog 29 #[v, str key] w fun e w' => e = .returned (.tuple #[str ((getL key l).getD []), .bool (hasK l key)]) ∧ Ext w w' := by
  refine (get_c w v 40 t key h ho.kd (by decide) (by omega)).mono ?_
  rintro e w' ⟨rfl, f⟩
  rw [ho.prs, getL_has ho.rise]
  exact ⟨rfl, f⟩
end Go.Proofs.Ytmpeniboccahdaa
/- Contracts: the document's Find and Get. -/
namespace Go.Proofs.Ytmpeniboccahdaa
open Go.RowKit Go.QS
set_option linter.unusedVariables false

set_option maxRecDepth 100000 in
set_option maxHeartbeats 400000 in
theorem rfind_c (w : World) (v : Value) (l : List Pr) (key : List UInt8) (h : PS w v l) (hr : Rise l) (h9 : l.length ≤ 1000000000) (hk9 : ∀ p ∈ l, p.1.length ≤ 9223372036854775807) :
    Calls Try.prog 47 #[v, str key] w fun e w' => e = .returned (.tuple #[.int .i64 (fndI l key), .bool (hasK l key)]) ∧ Ext w w' := by
  obtain ⟨A, c, rfl, hl, hn, hc, hs⟩ := h
  obtain ⟨n, hn2⟩ : ∃ n, n = l.length := ⟨_, rfl⟩
  rw [← hn2] at h9 hn ⊢
  have Hn : Hid (_ ∧ _ ∧ _) := Lib.hid ⟨hn2, hr, hk9⟩
  clear hn2 hl hr hk9
  go_enter Try.func47, Try.ntmps47
  repeat' go_step
  go_loopg [6] n (fun gk vi wr => ∃ i : Nat, vi = .int .i64 i ∧ i ≤ n ∧ n - i ≤ gk ∧ Ext w wr ∧ Hid (∀ t q, t < i → l[t]? = some q → q.1 < key))
  case atStart => exact ⟨0, rfl, Nat.zero_le _, by omega, Ext.refl _, Lib.hid fun t q h => by omega⟩
  case round =>
    obtain ⟨i, rfl, hin, hgk, hE, HI⟩ := hrel
    rcases Nat.lt_or_ge i n with hlt | hge
    · have d1 : decide (i < n) = true := by simp [hlt]
      obtain ⟨q, hq⟩ := get_of_lt l (show i < l.length by have := Hn.out.1; omega)
      obtain ⟨b, o, rfl, hq1, hq2⟩ := seg_pair (hs.below hE) hq
      have hi1 : (i : Int) < (n : Int) := by omega
      have hql := Hn.out.2.2 q (List.mem_of_getElem? hq)
      have HQ := Lib.hid hq
      clear hq
      repeat' (first | go_skip | go_guarded | go_step)
      refine (less_c' _ q.1 key hql).mono ?_
      rintro e w1 ⟨rfl, hb1⟩
      have hE1 : Ext w w1 := Ext.trans hE hb1
      by_cases hlt2 : q.1 < key
      · have hd : decide (q.1 < key) = true := by simp [hlt2]
        have HL := Lib.hid hlt2
        clear hlt2
        go_simp
        repeat' (first | go_skip | go_guarded | go_step)
        go_roundg (n - (i + 1))
        case measure => omega
        case rel =>
          refine ⟨i + 1, by go_num, by omega, Nat.le_refl _, hE1, Lib.hid fun t p ht hp => ?_⟩
          rcases Nat.lt_or_eq_of_le (Nat.le_of_lt_succ ht) with h | rfl
          · exact HI.out t p h hp
          · rw [HQ.out] at hp; cases hp; exact HL.out
      · have hd : decide (q.1 < key) = false := by simp [hlt2]
        have hfi : i = fndI l key := fnd_first (by have := Hn.out.1; omega) (fun t q ht hq => HI.out t q ht hq) (fun q' hq' => by rw [HQ.out] at hq'; cases hq'; exact hlt2)
        have hha := hasK_at (k := key) Hn.out.2.1
        rw [← hfi, HQ.out] at hha
        have HF : Hid (_ ∧ _) := Lib.hid ⟨hfi, hha⟩
        obtain ⟨b1, b2⟩ := seg_pair (hs.below hE1) HQ.out
        clear hfi hha hlt2
        obtain ⟨_, hbo, c1, c2⟩ := b2
        cases hbo
        go_simp
        repeat' (first | go_skip | go_guarded | go_step)
        go_quiet (fail)
        repeat' go_step
        go_ret2
        refine ⟨?_, below_drewN hE1 _⟩
        rw [← HF.out.1, HF.out.2]
        first | rfl | simp
    · obtain rfl : i = n := by omega
      have d1 : decide (i < i) = false := by simp
      have hno : l[i]? = none := List.getElem?_eq_none (by have := Hn.out.1; omega)
      have hfi : i = fndI l key := fnd_first (by have := Hn.out.1; omega) (fun t q ht hq => HI.out t q ht hq) (fun q' hq' => by rw [hno] at hq'; cases hq')
      have hha := hasK_at (k := key) Hn.out.2.1
      rw [← hfi, hno] at hha
      have HF : Hid (_ ∧ _) := Lib.hid ⟨hfi, hha⟩
      clear hfi hha hno
      repeat' (first | go_skip | go_guarded | go_step)
      go_quiet (fail)
      repeat' go_step
      go_ret2
      refine ⟨?_, below_drewN hE _⟩
      rw [← HF.out.1, HF.out.2]
      rfl

set_option maxRecDepth 100000 in
theorem rget_c (w : World) (v : Value) (l : List Pr) (key : List UInt8) (h : PS w v l) (hr : Rise l) (h9 : l.length ≤ 1000) (hk9 : ∀ p ∈ l, p.1.length ≤ 1000) :
    Calls Try.prog 18 #[v, str key] w fun e w' => e = .returned (.tuple #[str ((getL key l).getD []), .bool (hasK l key)]) ∧ Ext w w' := by
  have hha := hasK_at (k := key) hr
  have hgl : ∀ v, getL key l = some v ↔ (key, v) ∈ l := fun v => getL_iff hr
  have hgh := getL_has hr key
  have HF := Lib.hid (rfind_c w v l key h hr (by omega) (fun p hp => by have := hk9 p hp; omega))
  obtain ⟨A, c, rfl, hl, hn, hc, hs⟩ := h
  obtain ⟨n, hn2⟩ : ∃ n, n = l.length := ⟨_, rfl⟩
  rw [← hn2] at h9 hn HF ⊢
  have Hn := Lib.hid hn2
  obtain ⟨f, hf⟩ : ∃ f, f = fndI l key := ⟨_, rfl⟩
  rw [← hf] at hha HF
  have HS := Lib.hid hs
  clear hn2 hl hr hk9 hf hs
  cases hb : hasK l key with
  | false =>
    rw [hb] at HF
    have hgn : getL key l = none := by rw [hb] at hgh; cases hg : getL key l with | none => rfl | some v => rw [hg] at hgh; cases hgh
    rw [hgn]
    clear hb hha hgl hgh hgn
    go_enter Try.func18, Try.ntmps18
    repeat' (first | go_at_call 47 | go_skip | go_guarded | go_step)
    refine HF.out.mono ?_
    rintro e w1 ⟨rfl, f1⟩
    have F1 := Lib.hid f1
    clear f1
    go_simp
    repeat' (first | go_skip | go_guarded | go_step)
    go_ret2
    exact ⟨rfl, F1.out⟩
  | true =>
    rw [hb] at HF hha
    have hlt : f < l.length := by
      rcases Nat.lt_or_ge f l.length with h | h
      · exact h
      · rw [List.getElem?_eq_none_iff.2 h] at hha; cases hha
    obtain ⟨q, hq⟩ := get_of_lt l hlt
    obtain ⟨b, o, rfl, hq1, hq2⟩ := seg_pair HS.out hq
    have hi1 : (f : Int) < (n : Int) := by have := Hn.out; omega
    have hbl : b < w.heap.size := World.block_lt_of_cell? w _ hq1
    have HQ := Lib.hid hq2
    have hgs : getL key l = some q.2 := by
      rw [hq] at hha
      have e : q.1 = key := by simpa using hha.symm
      exact (hgl q.2).2 (by rw [← e]; exact List.mem_of_getElem? hq)
    rw [hgs]
    clear hb hha hq hlt hq1 hq2 hgl hgh hgs
    go_enter Try.func18, Try.ntmps18
    repeat' (first | go_at_call 47 | go_skip | go_guarded | go_step)
    refine HF.out.mono ?_
    rintro e w1 ⟨rfl, f1⟩
    have F1 := Lib.hid f1
    have hq2 := (f1.cell (p := ⟨b, o + f * 2 + 1, none⟩) hbl).trans HQ.out
    clear f1
    go_simp
    repeat' (first | go_skip | go_guarded | go_step)
    go_ret2
    exact ⟨rfl, F1.out⟩

end Go.Proofs.Ytmpeniboccahdaa
/- Contracts: of a nil node there is nothing. -/
namespace Go.Proofs.Ytmpeniboccahdaa
open Go.RowKit Go.QS
set_option linter.unusedVariables false

set_option maxRecDepth 100000 in
theorem valueZ_c (w : World) : Calls Try.prog 30 #[.pointer none] w fun e w' => e = .returned (.tuple #[str [], .bool false]) ∧ w = w' := by
  go_enter Try.func30, Try.ntmps30
  repeat' (first | go_skip | go_guarded | go_step)
  go_ret2
  exact ⟨rfl, rfl⟩
set_option maxRecDepth 100000 in
theorem labelZ_c (w : World) : Calls Try.prog 32 #[.pointer none] w fun e w' => e = .returned (str []) ∧ w = w' := by
  go_enter Try.func32, Try.ntmps32
  repeat' (first | go_skip | go_guarded | go_step)
  go_ret
  exact ⟨rfl, rfl⟩
set_option maxRecDepth 100000 in
theorem kidsZ_c (w : World) : Calls Try.prog 33 #[.pointer none] w fun e w' => e = .returned (.slice none 0 0) ∧ w = w' := by
  go_enter Try.func33, Try.ntmps33
  repeat' (first | go_skip | go_guarded | go_step)
  go_ret
  exact ⟨rfl, rfl⟩
set_option maxRecDepth 100000 in
theorem ownedZ_c (w : World) : Calls Try.prog 34 #[.pointer none, .pointer none] w fun e w' => e = .returned (.bool false) ∧ w = w' := by
  go_enter Try.func34, Try.ntmps34
  repeat' (first | go_skip | go_guarded | go_step)
  go_ret
  exact ⟨rfl, rfl⟩
set_option maxRecDepth 100000 in
theorem canonZ_c (w : World) : Calls Try.prog 25 #[.pointer none] w fun e w' => e = .returned (.bool false) ∧ w = w' := by
  go_enter Try.func25, Try.ntmps25
  repeat' (first | go_skip | go_guarded | go_step)
  go_ret
  exact ⟨rfl, rfl⟩
set_option maxRecDepth 100000 in
theorem lenZ_c (w : World) : Calls Try.prog 31 #[.pointer none] w fun e w' => e = .returned (.int .i64 0) ∧ w = w' := by
  go_enter Try.func31, Try.ntmps31
  repeat' (first | (go_at_call 30; refine (valueZ_c _).mono ?_; rintro e w0 ⟨rfl, rfl⟩; go_simp) | (go_at_call 33; refine (kidsZ_c _).mono ?_; rintro e w0 ⟨rfl, rfl⟩; go_simp) | (go_not_at_region 6; (first | go_skip | go_guarded | go_step)))
  go_loopg [3, 17] 0 (fun gk v3 v17 wr => v3 = .int .i64 0 ∧ v17 = .int .i64 0 ∧ w = wr)
  case atStart => exact ⟨rfl, rfl, rfl⟩
  case round =>
    obtain ⟨rfl, rfl, rfl⟩ := hrel
    repeat' (first | go_skip | go_guarded | go_step)
    go_ret
    exact ⟨rfl, rfl⟩
end Go.Proofs.Ytmpeniboccahdaa
