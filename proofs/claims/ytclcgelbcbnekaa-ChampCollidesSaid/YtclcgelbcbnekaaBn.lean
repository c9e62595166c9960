/- Texts joined. -/
import Derived.Test.YtclcgelbcbnekaaCf
import Derived.Test.YtclcgelbcbnekaaLs
import Derived.Test.YtclcgelbcbnekaaFk
import Derived.Deep.LoopGhost
set_option linter.unusedVariables false
set_option linter.unusedSimpArgs false
/- Contracts: the document's Find and Get. -/
namespace Go.Proofs.Ytclcgelbcbnekaa
open Go.RowKit Go.QS
set_option linter.unusedVariables false
variable [Zero (Nat → Prop)]
set_option linter.unusedSectionVars false

set_option maxRecDepth 100000 in
set_option maxHeartbeats 400000 in
theorem rfind_c (w : World) (v : Value) (l : List Pr) (key : List UInt8) (h : PS w v l) (hr : Rise l) (h9 : l.length ≤ 1000000000) (hk9 : ∀ p ∈ l, p.1.length ≤ 9223372036854775807) :
    Calls Try.prog 78 #[v, str key] w fun e w' => e = .returned (.tuple #[.int .i64 (fndI l key), .bool (hasK l key)]) ∧ Ext w w' := by
  obtain ⟨A, c, rfl, hl, hn, hc, hs⟩ := h
  obtain ⟨n, hn2⟩ : ∃ n, n = l.length := ⟨_, rfl⟩
  rw [← hn2] at h9 hn ⊢
  have Hn : Hid (_ ∧ _ ∧ _) := Lib.hid ⟨hn2, hr, hk9⟩
  clear hn2 hl hr hk9
  go_enter Try.func78, Try.ntmps78
  repeat' go_step
  go_loopg [6] n (fun gk vi wr => ∃ i : Nat, vi = .int .i64 i ∧ i ≤ n ∧ n - i ≤ gk ∧ Ext w wr ∧ Hid (∀ t q, t < i → l[t]? = some q → q.1 < key))
  case atStart => exact ⟨0, rfl, Nat.zero_le _, by omega, Ext.refl _, Lib.hid fun t q h => by omega⟩
  case round =>
    obtain ⟨i, rfl, hin, hgk, hE, HI⟩ := hrel
    rcases Nat.lt_or_ge i n with hlt | hge
    · have d1 : decide (i < n) = true := by simp [hlt]
      obtain ⟨q, hq⟩ := get_of_lt l (show i < l.length by have := Hn.out.1; omega)
      obtain ⟨b, o, rfl, hq1, hq2⟩ := seg_pair (hs.below hE) hq
      have hi1 : (i : Int) < (n : Int) := by omega
      have hql := Hn.out.2.2 q (List.mem_of_getElem? hq)
      have HQ := Lib.hid hq
      clear hq
      repeat' (first | go_skip | go_guarded | go_step)
      refine (less_c' _ q.1 key hql).mono ?_
      rintro e w1 ⟨rfl, hb1⟩
      have hE1 : Ext w w1 := Ext.trans hE hb1
      by_cases hlt2 : q.1 < key
      · have hd : decide (q.1 < key) = true := by simp [hlt2]
        have HL := Lib.hid hlt2
        clear hlt2
        go_simp
        repeat' (first | go_skip | go_guarded | go_step)
        go_roundg (n - (i + 1))
        case measure => omega
        case rel =>
          refine ⟨i + 1, by go_num, by omega, Nat.le_refl _, hE1, Lib.hid fun t p ht hp => ?_⟩
          rcases Nat.lt_or_eq_of_le (Nat.le_of_lt_succ ht) with h | rfl
          · exact HI.out t p h hp
          · rw [HQ.out] at hp; cases hp; exact HL.out
      · have hd : decide (q.1 < key) = false := by simp [hlt2]
        have hfi : i = fndI l key := fnd_first (by have := Hn.out.1; omega) (fun t q ht hq => HI.out t q ht hq) (fun q' hq' => by rw [HQ.out] at hq'; cases hq'; exact hlt2)
        have hha := hasK_at (k := key) Hn.out.2.1
        rw [← hfi, HQ.out] at hha
        have HF : Hid (_ ∧ _) := Lib.hid ⟨hfi, hha⟩
        obtain ⟨b1, b2⟩ := seg_pair (hs.below hE1) HQ.out
        clear hfi hha hlt2
        obtain ⟨_, hbo, c1, c2⟩ := b2
        cases hbo
        go_simp
        repeat' (first | go_skip | go_guarded | go_step)
        go_quiet (fail)
        repeat' go_step
        go_ret2
        refine ⟨?_, below_drewN hE1 _⟩
        rw [← HF.out.1, HF.out.2]
        first | rfl | simp
    · obtain rfl : i = n := by omega
      have d1 : decide (i < i) = false := by simp
      have hno : l[i]? = none := List.getElem?_eq_none (by have := Hn.out.1; omega)
      have hfi : i = fndI l key := fnd_first (by have := Hn.out.1; omega) (fun t q ht hq => HI.out t q ht hq) (fun q' hq' => by rw [hno] at hq'; cases hq')
      have hha := hasK_at (k := key) Hn.out.2.1
      rw [← hfi, hno] at hha
      have HF : Hid (_ ∧ _) := Lib.hid ⟨hfi, hha⟩
      clear hfi hha hno
      repeat' (first | go_skip | go_guarded | go_step)
      go_quiet (fail)
      repeat' go_step
      go_ret2
      refine ⟨?_, below_drewN hE _⟩
      rw [← HF.out.1, HF.out.2]
      rfl

set_option maxRecDepth 100000 in
theorem rget_c (w : World) (v : Value) (l : List Pr) (key : List UInt8) (h : PS w v l) (hr : Rise l) (h9 : l.length ≤ 1000) (hk9 : ∀ p ∈ l, p.1.length ≤ 1000) :
    Calls Try.prog 29 #[v, str key] w fun e w' => e = .returned (.tuple #[str ((getL key l).getD []), .bool (hasK l key)]) ∧ Ext w w' := by
  have hha := hasK_at (k := key) hr
  have hgl : ∀ v, getL key l = some v ↔ (key, v) ∈ l := fun v => getL_iff hr
  have hgh := getL_has hr key
  have HF := Lib.hid (rfind_c w v l key h hr (by omega) (fun p hp => by have := hk9 p hp; omega))
  obtain ⟨A, c, rfl, hl, hn, hc, hs⟩ := h
  obtain ⟨n, hn2⟩ : ∃ n, n = l.length := ⟨_, rfl⟩
  rw [← hn2] at h9 hn HF ⊢
  have Hn := Lib.hid hn2
  obtain ⟨f, hf⟩ : ∃ f, f = fndI l key := ⟨_, rfl⟩
  rw [← hf] at hha HF
  have HS := Lib.hid hs
  clear hn2 hl hr hk9 hf hs
  cases hb : hasK l key with
  | false =>
    rw [hb] at HF
    have hgn : getL key l = none := by rw [hb] at hgh; cases hg : getL key l with | none => rfl | some v => rw [hg] at hgh; cases hgh
    rw [hgn]
    clear hb hha hgl hgh hgn
    go_enter Try.func29, Try.ntmps29
    repeat' (first | go_at_call 78 | go_skip | go_guarded | go_step)
    refine HF.out.mono ?_
    rintro e w1 ⟨rfl, f1⟩
    have F1 := Lib.hid f1
    clear f1
    go_simp
    repeat' (first | go_skip | go_guarded | go_step)
    go_ret2
    exact ⟨rfl, F1.out⟩
  | true =>
    rw [hb] at HF hha
    have hlt : f < l.length := by
      rcases Nat.lt_or_ge f l.length with h | h
      · exact h
      · rw [List.getElem?_eq_none_iff.2 h] at hha; cases hha
    obtain ⟨q, hq⟩ := get_of_lt l hlt
    obtain ⟨b, o, rfl, hq1, hq2⟩ := seg_pair HS.out hq
    have hi1 : (f : Int) < (n : Int) := by have := Hn.out; omega
    have hbl : b < w.heap.size := World.block_lt_of_cell? w _ hq1
    have HQ := Lib.hid hq2
    have hgs : getL key l = some q.2 := by
      rw [hq] at hha
      have e : q.1 = key := by simpa using hha.symm
      exact (hgl q.2).2 (by rw [← e]; exact List.mem_of_getElem? hq)
    rw [hgs]
    clear hb hha hq hlt hq1 hq2 hgl hgh hgs
    go_enter Try.func29, Try.ntmps29
    repeat' (first | go_at_call 78 | go_skip | go_guarded | go_step)
    refine HF.out.mono ?_
    rintro e w1 ⟨rfl, f1⟩
    have F1 := Lib.hid f1
    have hq2 := (f1.cell (p := ⟨b, o + f * 2 + 1, none⟩) hbl).trans HQ.out
    clear f1
    go_simp
    repeat' (first | go_skip | go_guarded | go_step)
    go_ret2
    exact ⟨rfl, F1.out⟩

end Go.Proofs.Ytclcgelbcbnekaa
/- Contract: law 6's trie. -/
namespace Go.Proofs.Ytclcgelbcbnekaa
open Go.RowKit Go.QS Go.QS.Nk
set_option linter.unusedVariables false
variable [Zero (Nat → Prop)]
set_option linter.unusedSectionVars false

set_option maxRecDepth 100000 in
set_option maxHeartbeats 1000000 in
theorem trie6_c (h : Hs) (hk : h.Ok) (w : World) (g : Nat) (v : Value) (l : List Pr) (hT : TR ND h.hash w 13 g l) (hP : PS w v l) (h9 : l.length ≤ 100000) (hq : ∀ q ∈ l, q.1.length ≤ 1000000) :
    Calls Try.prog 49 #[hsV h, ptr g, v] w fun e w' => e = .returned (.bool true) ∧ Ext w w' := by
  have HP := Lib.hid (And.intro hP (And.intro hT hq))
  obtain ⟨A, C, rfl, _, hn, hC, _⟩ := hP
  clear hT hq
  go_enter Try.func49, Try.ntmps49
  repeat' (go_not_at_region 1; (first | go_skip | go_guarded | go_step))
  obtain ⟨gb, hgb⟩ : ∃ g, g = w.heap.size := ⟨_, rfl⟩
  rw [← hgb]
  refine wp_named (fun w' => HsAt w' gb h ∧ Ext w w') ⟨by rw [hgb]; exact heap_new w _, (Ext.refl w).alloc (Nat.le_refl _) _⟩ ?_
  clear hgb
  intro wa HW
  obtain ⟨c0, c1, c2⟩ := HW.out.1.cells
  repeat' (first | go_at_call 101 | go_skip | go_guarded | go_step)
  refine (own6_c wa h).mono ?_
  rintro e w1 ⟨rfl, f1⟩
  have H1 : Hid (Ext w w1) := Lib.hid (HW.out.2.trans f1)
  clear f1 c0 c1 c2
  go_simp
  repeat' (first | go_at_call 100 | go_skip | go_guarded | go_step)
  refine (rof6_c h hk w1 _ l (HP.out.1.below H1.out) h9 HP.out.2.2).mono ?_
  rintro e w2 ⟨q, rfl, f2, d2⟩
  have H2 : Hid (Ext w w2 ∧ DR h.hash w2 13 q l) := Lib.hid ⟨H1.out.trans f2, d2⟩
  clear f2 d2
  go_simp
  repeat' (first | go_at_call 99 | go_skip | go_guarded | go_step)
  refine (like_all h.hash 13 w2 g q l (TR.ext H2.out.1 13 HP.out.2.1) H2.out.2 h9).mono ?_
  rintro e w3 ⟨rfl, f3⟩
  have H3 : Hid (Ext w w3) := Lib.hid (H2.out.1.trans f3)
  clear f3
  go_simp
  repeat' (first | go_at_call 94 | go_skip | go_guarded | go_step)
  refine (lenk_c h 13 w3 g l (TR.ext H3.out 13 HP.out.2.1) (by omega)).mono ?_
  rintro e w4 ⟨rfl, f4⟩
  have H4 : Hid (Ext w w4) := Lib.hid (H3.out.trans f4)
  clear f4
  go_simp
  repeat' (first | go_skip | go_guarded | go_step)
  go_ret
  exact ⟨rfl, H4.out⟩
end Go.Proofs.Ytclcgelbcbnekaa
/- Facts for chapter 6's laws: lists of short pairs; a hasher, a trie and its list in memory. -/
namespace Go.Proofs.Ytclcgelbcbnekaa
open Go.RowKit Go.QS Go.QS.Nk
set_option linter.unusedVariables false
variable [Zero (Nat → Prop)]
set_option linter.unusedSectionVars false

/-- A list that rises, of keys and values of at most 40 bytes. -/
structure OkL (X : List Pr) : Prop where
  rise : Rise X
  short : ∀ q ∈ X, q.1.length ≤ 40 ∧ q.2.length ≤ 40
theorem OkL.nil : OkL [] := ⟨rise_nil, fun q hq => by cases hq⟩
theorem OkL.put {X : List Pr} (h : OkL X) {p : Pr} (hp : p.1.length ≤ 40 ∧ p.2.length ≤ 40) : OkL (rput X p) := ⟨rput_rise h.rise p, fun q hq => by
  rcases mem_rput.1 hq with rfl | ⟨h1, _⟩
  · exact hp
  · exact h.short q h1⟩
theorem OkL.drop {X : List Pr} (h : OkL X) (k : List UInt8) : OkL (rdrop X k) := ⟨rdrop_rise h.rise k, fun q hq => h.short q (mem_rdrop.1 hq).1⟩
theorem OkL.keys {X : List Pr} (h : OkL X) : ∀ q ∈ X, q.1.length ≤ 1000000 := fun q hq => by have := (h.short q hq).1; omega
theorem OkL.keys' {X : List Pr} (h : OkL X) : ∀ q ∈ X, q.1.length ≤ 1000 := fun q hq => by have := (h.short q hq).1; omega
theorem OkL.was {X : List Pr} (h : OkL X) (p : Pr) : hasK X p.1 = true → (getL p.1 X).getD [] = p.2 → p ∈ X := by
  intro h1 h2
  rw [← getL_has h.rise] at h1
  obtain ⟨v, hv⟩ := Option.isSome_iff_exists.1 h1
  rw [hv] at h2
  have := (getL_iff h.rise).1 hv
  rw [show v = p.2 from h2] at this
  exact this
/-- A hasher, a trie, its list. -/
structure St6 (w : World) (gh : Nat) (h : Hs) (g : Nat) (v : Value) (X : List Pr) : Prop where
  hs : HsAt w gh h
  tr : TR ND h.hash w 13 g X
  ok : OkL X
  ps : PS w v X
theorem St6.ext {w w' : World} {gh g : Nat} {h : Hs} {v : Value} {X : List Pr} (H : St6 w gh h g v X) (f : Ext w w') : St6 w' gh h g v X := ⟨H.hs.ext f, TR.ext f 13 H.tr, H.ok, H.ps.below f⟩
set_option maxRecDepth 100000 in
theorem neqN (g : Nat) (w : World) : (binOp .neq 32 (ptr g) (ptr g)).run Try.prog w = .ok (.bool false) w := by
  have h : (Try.prog.info? 128).isSome = true := by kernel_rfl
  obtain ⟨j, hj⟩ := Option.isSome_iff_exists.1 h
  exact Lib.run_neq_ptr_same w _ Try.underlying32 hj
theorem fieldP (a x : Value) (w : World) : (Instr.field 36 (.agg #[a, x]) 0).run Try.prog w = .ok a w := by
  unfold Instr.field
  simp [go_sem, asAgg]
theorem box5 {w : World} {g : Nat} {a b c d e : Value} {t : TypeId} {f : Nat × Nat} (h : w.heap[g]? = some (.cells #[a, b, c, d, e] t f)) : w.cell? ⟨g, 0, none⟩ = some a ∧ w.cell? ⟨g, 1, none⟩ = some b ∧ w.cell? ⟨g, 2, none⟩ = some c ∧ w.cell? ⟨g, 3, none⟩ = some d ∧ w.cell? ⟨g, 4, none⟩ = some e := by
  simp [World.cell?, h]
theorem cput6 {h : Hs} (hk : h.Ok) {w : World} {gh g : Nat} {v : Value} {X : List Pr} (H : St6 w gh h g v X) (p : Pr) (hX : X.length ≤ 1000) (hp : p.1.length ≤ 40 ∧ p.2.length ≤ 40) :
    Calls Try.prog 46 #[hsV h, nil0, ptr g, prV p] w fun e w' => ∃ g', e = .returned (.tuple #[ptr g', .bool (!hasK X p.1)]) ∧ Ext w w' ∧ TR ND h.hash w' 13 g' (rput X p) ∧ OkL (rput X p) ∧ (p ∈ X → g' = g) :=
  (cput_c h hk w (ptr g) X p (Rot.of H.tr) H.ok.rise (by omega) H.ok.keys (by omega)).mono fun e w' ⟨g', h1, h2, h3, h4⟩ => ⟨g', h1, h3, h2, H.ok.put hp, h4 g rfl⟩
theorem cdrop6 {h : Hs} (hk : h.Ok) {w : World} {gh g : Nat} {v : Value} {X : List Pr} (H : St6 w gh h g v X) (k : List UInt8) (hX : X.length ≤ 1000) (hp : k.length ≤ 40) :
    Calls Try.prog 48 #[hsV h, nil0, ptr g, str k] w fun e w' => ∃ g', e = .returned (.tuple #[ptr g', .bool (hasK X k)]) ∧ Ext w w' ∧ TR ND h.hash w' 13 g' (rdrop X k) ∧ OkL (rdrop X k) ∧ (hasK X k = false → g' = g) :=
  (cdrop_c h hk w (ptr g) X k (Rot.of H.tr) H.ok.rise (by omega) (by omega)).mono fun e w' ⟨g', h1, h2, h3, h4⟩ => ⟨g', h1, h3, h2, H.ok.drop k, h4 g rfl⟩
theorem cget6 {h : Hs} (hk : h.Ok) {w : World} {gh g : Nat} {v : Value} {X : List Pr} (H : St6 w gh h g v X) (k : List UInt8) (hX : X.length ≤ 1000) (hp : k.length ≤ 40) :
    Calls Try.prog 93 #[hsV h, ptr g, str k] w fun e w' => e = .returned (.tuple #[str ((getL k X).getD []), .bool (hasK X k)]) ∧ Ext w w' :=
  get_c h hk w (ptr g) X k (Rot.of H.tr) H.ok.rise (by omega) (by omega)
end Go.Proofs.Ytclcgelbcbnekaa
