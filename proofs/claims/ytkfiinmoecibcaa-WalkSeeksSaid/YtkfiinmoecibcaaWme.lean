/- Contract: walk.Seek. -/
import Derived.Test.YtkfiinmoecibcaaM25
import Derived.Test.YtkfiinmoecibcaaCn
set_option linter.unusedVariables false
set_option linter.unusedSimpArgs false
namespace Go.QS
open Go.RowKit Go.QS.Nk
section
variable {T CT FT : TypeId} {W0 w w' : World} {c d gf : Nat} {V : Value} {rb : Option Nat} {m : Fm} {s : Fp} {ms : List Fm} {st : List Fp}
/-- A frame, where another box turned. -/
theorem FrOk.far (h : FrOk T W0 w c rb m s) (k : Only (fun j => j = gf) w w') (hg : ∀ b, FrB m b → b ≠ gf) : FrOk T W0 w' c rb m s := by
  obtain ⟨kb, h1, h2, h3, h4, h5, h6⟩ := h
  exact ⟨kb, sl_block h1 fun b hb => ⟨(h6 b (.inl hb)).1, k.block b (h6 b (.inl hb)).1 (hg b (.inl hb))⟩, sl_block h2 fun b hb => ⟨(h6 b (.inr hb)).1, k.block b (h6 b (.inr hb)).1 (hg b (.inr hb))⟩, h3, h4, h5, fun b hb => ⟨Nat.lt_of_lt_of_le (h6 b hb).1 k.size, (h6 b hb).2⟩⟩
/-- A cursor, where another box turned. -/
theorem CurW.far (h : CurW T CT FT W0 w c V ms st d) (k : Only (fun j => j = gf) w w') (hc : c ≠ gf) (hV : V.ownBlock ≠ some gf) (hf : ∀ (i : Nat) (m : Fm), ms[i]? = some m → ∀ b, FrB m b → b ≠ gf) (hle : W0.heap.size ≤ gf) : CurW T CT FT W0 w' c V ms st d :=
  h.two (c2 := gf) (V2 := .slice none 0 0) (k.mono fun i _ e => .inl e) hc (by simp [Value.ownBlock]) (fun b hb => ⟨fun e => hV (by rw [hb, e]), by simp [Value.ownBlock]⟩) (fun i m hm b hb => ⟨hf i m hm b hb, by simp [Value.ownBlock]⟩)
    (Only.ext (Only.trans' (S := fun _ => False) (Only.of_ext h.ext) k (fun i hi e => by omega)) (fun _ _ e => e))
end
end Go.QS
namespace Go.Proofs.Ytkfiinmoecibcaa
open Go.RowKit Go.QS Go.QS.Nk
set_option linter.unusedVariables false

set_option maxRecDepth 100000 in
set_option maxHeartbeats 1000000 in
theorem seek_no (w : World) (h : Hs) (hk : h.Ok) (g : Nat) (l : List Pr) (key : List UInt8) (hT : TR ND h.hash w 13 g l) (hr : Rise l) (h9 : l.length ≤ 400000000) (hkl : key.length ≤ 1000000) (hno : hasK l key = false) :
    Calls Try.prog 19 #[hsV h, ptr g, str key] w fun e w' => e = .returned (.tuple #[.pointer none, .bool false]) ∧ Ext w w' := by
  have HG0 := fun W (f : Ext w W) => get_c h hk W (ptr g) l key (Rot.of (TR.ext f 13 hT)) hr h9 hkl
  rw [hno] at HG0
  have HG := Lib.hid HG0
  clear HG0 hT hr hno
  go_enter Try.func19, Try.ntmps19
  repeat' (go_not_at_region 1; (first | go_skip | go_guarded | go_step))
  obtain ⟨a, ha⟩ : ∃ a, a = w.heap.size := ⟨_, rfl⟩
  obtain ⟨b, hb⟩ : ∃ b, b = a + 1 := ⟨_, rfl⟩
  have hb2 : b = (w.alloc (.cells #[.int .u64 h.k0, .int .u64 h.k1, .int .u64 h.mask] HT)).heap.size := by rw [hb, ha]; simp
  try rw [← ha]
  try rw [← hb]
  try rw [← hb2]
  refine wp_nameW (fun w' => HsAt w' a h ∧ w'.cell? ⟨b, 0, none⟩ = some (str key) ∧ Ext w w') ⟨?_, ?_, ((Ext.refl w).alloc (Nat.le_refl _) _).alloc (by simp) _⟩ ?_
  · rw [ha]; exact HsAt.ext (heap_new w _) ((Ext.refl _).alloc (Nat.le_refl _) _)
  · rw [hb2]; rw [World.cell?_alloc_at _ _ _ _ rfl]; rfl
  clear ha hb hb2
  intro wa HA
  obtain ⟨q0, q1, q2⟩ := HA.out.1.cells
  have q3 := HA.out.2.1
  repeat' (first | go_at_call 45 | go_skip | go_guarded | go_step)
  refine (HG.out wa HA.out.2.2).mono ?_
  rintro e w1 ⟨rfl, f1⟩
  have H1 := Lib.hid (HA.out.2.2.trans f1)
  clear f1 HA q0 q1 q2 q3
  go_simp
  repeat' (first | go_skip | go_guarded | go_step)
  go_ret2
  exact ⟨rfl, H1.out⟩

set_option maxRecDepth 100000 in
set_option maxHeartbeats 2000000 in
theorem seek_yes (w : World) (h : Hs) (hk : h.Ok) (g : Nat) (l : List Pr) (key v : List UInt8) (hT : TR ND h.hash w 13 g l) (hr : Rise l) (h9 : l.length ≤ 1000) (hkl : key.length ≤ 1000000) (hm : (key, v) ∈ l) (hw9 : wtB [((trieOf h.hash 13 l).ps, (trieOf h.hash 13 l).ks)] ≤ 100000) :
    Calls Try.prog 19 #[hsV h, ptr g, str key] w fun e w' => ∃ (c : Nat) (V : Value) (ms : List Fm) (st : List Fp) (wa : World) (A : List (Pr × Nat)), e = .returned (.tuple #[ptr c, .bool true]) ∧ Ext w wa ∧ Cur wa w' c V ms st st.length ∧ wtB st ≤ wtB [((trieOf h.hash 13 l).ps, (trieOf h.hash 13 l).ks)] ∧ walkT (trieOf h.hash 13 l) 1 = A ++ ((key, v), st.length) :: comB st 1 := by
  have hyes : hasK l key = true := by
    unfold hasK
    exact List.any_eq_true.2 ⟨(key, v), hm, by simp⟩
  have HG0 := fun W (f : Ext w W) => get_c h hk W (ptr g) l key (Rot.of (TR.ext f 13 hT)) hr (by omega) hkl
  rw [hyes] at HG0
  have HG := Lib.hid HG0
  obtain ⟨Z, hZ⟩ : ∃ Z, Z = walkT (trieOf h.hash 13 l) 1 := ⟨_, rfl⟩
  obtain ⟨R, hR⟩ : ∃ R, R = wtB [((trieOf h.hash 13 l).ps, (trieOf h.hash 13 l).ks)] := ⟨_, rfl⟩
  rw [← hR] at hw9
  rw [← hZ, ← hR]
  obtain ⟨x, hx⟩ : ∃ x, x = h.hash key := ⟨_, rfl⟩
  have hx64 : x < 18446744073709551616 := by rw [hx]; exact Hs.hash_lt hk key
  have HH0 := fun W => hash_c W h key hk (by omega)
  rw [← hx] at HH0
  have HH := Lib.hid HH0
  have HW : Hid (TR ND h.hash w 13 g l ∧ Rise l ∧ (key, v) ∈ l ∧ Z = walkT (trieOf h.hash 13 l) 1 ∧ R = wtB [((trieOf h.hash 13 l).ps, (trieOf h.hash 13 l).ks)] ∧ x = h.hash key ∧ l.length ≤ 1000) := Lib.hid ⟨hT, hr, hm, hZ, hR, hx, h9⟩
  clear HG0 HH0 hT hr hyes hm hZ hR hx h9
  go_enter Try.func19, Try.ntmps19
  repeat' (go_not_at_region 1; (first | go_skip | go_guarded | go_step))
  obtain ⟨a, ha⟩ : ∃ a, a = w.heap.size := ⟨_, rfl⟩
  obtain ⟨b, hb⟩ : ∃ b, b = a + 1 := ⟨_, rfl⟩
  have hb2 : b = (w.alloc (.cells #[.int .u64 h.k0, .int .u64 h.k1, .int .u64 h.mask] HT)).heap.size := by rw [hb, ha]; simp
  try rw [← ha]
  try rw [← hb]
  try rw [← hb2]
  refine wp_nameW (fun w' => HsAt w' a h ∧ w'.cell? ⟨b, 0, none⟩ = some (str key) ∧ Ext w w') ⟨?_, ?_, ((Ext.refl w).alloc (Nat.le_refl _) _).alloc (by simp) _⟩ ?_
  · rw [ha]; exact HsAt.ext (heap_new w _) ((Ext.refl _).alloc (Nat.le_refl _) _)
  · rw [hb2]; rw [World.cell?_alloc_at _ _ _ _ rfl]; rfl
  clear ha hb hb2
  intro wa HA
  obtain ⟨q0, q1, q2⟩ := HA.out.1.cells
  have q3 := HA.out.2.1
  repeat' (first | go_at_call 45 | go_skip | go_guarded | go_step)
  refine (HG.out wa HA.out.2.2).mono ?_
  rintro e w1 ⟨rfl, f1⟩
  have H1 : Hid (HsAt w1 a h ∧ w1.cell? ⟨b, 0, none⟩ = some (str key) ∧ Ext w w1) := Lib.hid ⟨HA.out.1.ext f1, Ext.cell' f1 HA.out.2.1, HA.out.2.2.trans f1⟩
  clear f1 HA q0 q1 q2 q3 HG
  obtain ⟨q0, q1, q2⟩ := H1.out.1.cells
  have q3 := H1.out.2.1
  go_simp
  repeat' (first | go_at_call 41 | go_skip | go_guarded | go_step)
  refine (HH.out w1).mono ?_
  rintro e w2 ⟨rfl, f2⟩
  have H2 : Hid (w2.cell? ⟨b, 0, none⟩ = some (str key) ∧ Ext w w2) := Lib.hid ⟨Ext.cell' f2 H1.out.2.1, H1.out.2.2.trans f2⟩
  clear f2 H1 q0 q1 q2 q3 HH
  go_simp
  repeat' (go_not_at_region 6; (first | go_skip | go_guarded | go_step))
  obtain ⟨cn, hcn⟩ : ∃ c, c = w2.heap.size := ⟨_, rfl⟩
  rw [← hcn]
  refine wp_nameW (fun w' => Cur w2 w' cn (.slice none 0 0) [] [] 0 ∧ w'.cell? ⟨b, 0, none⟩ = some (str key)) ⟨⟨by rw [hcn]; exact heap_new w2 _, World.ownsRow_nil _ _ _ _, rfl, fun i m s hm => by simp at hm, (Ext.refl w2).alloc (Nat.le_refl _) _, by rw [hcn]; exact Nat.le_refl _, by simp [Value.ownBlock]⟩, Ext.cell' ((Ext.refl w2).alloc (Nat.le_refl _) _) H2.out.1⟩ ?_
  intro w3 H3
  have hbl : b < w2.heap.size := World.block_lt_of_cell? w2 _ H2.out.1
  have hbc : b ≠ cn := by omega
  clear hcn
  have HT3 : Hid (TR ND h.hash w2 13 g l) := Lib.hid (TR.ext H2.out.2 13 HW.out.1)
  repeat' (go_not_at_region 7; (first | go_skip | go_guarded | go_step))
  go_loopg [12, 13] 14 (fun gk v12 v13 wr => ∃ (f lv g' : Nat) (V1 : Value) (ms1 : List Fm) (st1 : List Fp) (l' : List Pr) (Pre : List (Pr × Nat)), v12 = ptr g' ∧ v13 = .int .i64 (lv : Int) ∧ lv + f = 13 ∧ f < gk ∧ st1.length = lv ∧ Hid (Cur w2 wr cn V1 ms1 st1 0 ∧ wr.cell? ⟨b, 0, none⟩ = some (str key) ∧ TR ND h.hash w2 f g' l' ∧ Rise l' ∧ (key, v) ∈ l' ∧ l'.length ≤ 1000 ∧ wtB (st1 ++ [((trieOf h.hash f l').ps, (trieOf h.hash f l').ks)]) ≤ R ∧ Z = Pre ++ (walkT (trieOf h.hash f l') (st1.length + 1) ++ comB st1 1)))
  case atStart => exact ⟨13, 0, g, .slice none 0 0, [], [], l, [], rfl, rfl, rfl, by omega, rfl, Lib.hid ⟨H3.out.1, H3.out.2, HT3.out, HW.out.2.1, HW.out.2.2.1, HW.out.2.2.2.2.2.2, by rw [HW.out.2.2.2.2.1]; exact Nat.le_refl _, by rw [HW.out.2.2.2.1]; simp [comB]⟩⟩
  case round =>
    obtain ⟨f, lv, g', V1, ms1, st1, l', Pre, rfl, rfl, hf13, hfk, hst, HI⟩ := hrel
    obtain ⟨i, hi, HAt0, hcase⟩ := seek_at HI.out.2.2.1 HI.out.2.2.2.1 HI.out.2.2.2.2.1 (by omega) (by rw [← HW.out.2.2.2.2.2.1]; exact hx64)
    rw [← HW.out.2.2.2.2.2.1, show 13 - f = lv by omega] at HAt0
    have HAt := Lib.hid HAt0
    have HRP : Hid (RepN ND w2 g' (trieOf h.hash f l')) := Lib.hid (TR.rep f HI.out.2.2.1 (by have := HI.out.2.2.2.2.2.1; omega))
    obtain ⟨t, ht⟩ : ∃ t, t = trieOf h.hash f l' := ⟨_, rfl⟩
    rw [← ht] at hcase HRP
    have HI2 : Hid (Cur w2 wr cn V1 ms1 st1 0 ∧ wr.cell? ⟨b, 0, none⟩ = some (str key) ∧ wtB (st1 ++ [(t.ps, t.ks)]) ≤ R ∧ Z = Pre ++ (walkT t (st1.length + 1) ++ comB st1 1) ∧ l'.length ≤ 1000) := Lib.hid ⟨HI.out.1, HI.out.2.1, by rw [ht]; exact HI.out.2.2.2.2.2.2.1, by rw [ht]; exact HI.out.2.2.2.2.2.2.2, HI.out.2.2.2.2.2.1⟩
    clear HAt0 HI ht
    obtain ⟨Aw, Cw, rfl⟩ := own_slice HI2.out.1.row
    obtain ⟨m1, hm1⟩ : ∃ m1, m1 = ms1.length := ⟨_, rfl⟩
    rw [← hm1] at HI2
    have HM1 := Lib.hid hm1
    clear hm1
    have HC := Lib.hid hcase
    clear hcase
    repeat' (first | go_at_call 44 | go_skip | go_guarded | go_step)
    refine (of_c w2 wr HI2.out.1.ext g' t HRP.out).mono ?_
    rintro e w4 ⟨v1, v2, kb, rfl, r1, r2, hrn, hk9, hp9, f4⟩
    obtain ⟨A1, C1, rfl⟩ := own_slice r1
    obtain ⟨A2, C2, rfl⟩ := own_slice r2
    have hwl : ∀ b, (Value.slice Aw m1 Cw).ownBlock = some b → b < wr.heap.size := fun b hb => (World.ownsRow.lt HI2.out.1.row b hb).2
    have hcl : cn < wr.heap.size := heap_lt HI2.out.1.cell
    have hfl : ∀ (i : Nat) (m : Fm), ms1[i]? = some m → ∀ b, FrB m b → b < wr.heap.size := fun i m hm b hb => by
      obtain ⟨s, hs⟩ := get_of_lt st1 (show i < st1.length by have := (List.getElem?_eq_some_iff.1 hm).1; have := HI2.out.1.len; omega)
      obtain ⟨_, _, _, _, _, _, h6⟩ := HI2.out.1.fr i m s hm hs
      exact (h6 b hb).1
    have hbl3 : b < wr.heap.size := World.block_lt_of_cell? wr _ HI2.out.2.1
    obtain ⟨np, hnp⟩ : ∃ n, n = t.ps.length := ⟨_, rfl⟩
    obtain ⟨nk, hnk⟩ : ∃ n, n = kb.length := ⟨_, rfl⟩
    rw [← hnp] at r1 hp9
    rw [← hnk] at r2 hk9
    have hrl : ∀ b, FrB (.slice A1 np C1, .slice A2 nk C2) b → wr.heap.size ≤ b ∧ b < w4.heap.size := fun b hb => by
      rcases hb with hb | hb
      · exact World.ownsRow.lt r1 b hb
      · exact World.ownsRow.lt r2 b hb
    have hFr : FrOk ND w2 w4 cn (Value.slice Aw m1 Cw).ownBlock (.slice A1 np C1, .slice A2 nk C2) (t.ps, t.ks) := by
      refine ⟨kb, ?_, ?_, hrn, by simp only; omega, by omega, fun b hb => ⟨(hrl b hb).2, ?_, ?_⟩⟩
      · have := PS.of_own (show w4.ownsRow _ NP 2 (.slice A1 np C1) t.ps.length (flat t.ps) by rw [← hnp]; exact r1); exact this
      · have := Sl.of_own r2; rw [← hnk]; exact this
      · have := (hrl b hb).1; omega
      · intro e; have := hwl b e; have := (hrl b hb).1; omega
    go_simp
    repeat' (go_not_at_region 9; (first | go_skip | go_guarded | go_step))
    rw [← hnp, ← hnk]
    obtain ⟨gf, hgf⟩ : ∃ g, g = w4.heap.size := ⟨_, rfl⟩
    rw [← hgf]
    have E4 : Ext w4 (w4.alloc (.cells #[.slice A1 np C1, .slice A2 nk C2] WFT)) := (Ext.refl _).alloc (Nat.le_refl _) _
    refine wp_nameW (fun w' => Cur w2 w' cn (.slice Aw m1 Cw) ms1 st1 0 ∧ w'.cell? ⟨b, 0, none⟩ = some (str key) ∧ w'.heap[gf]? = some (.cells #[.slice A1 np C1, .slice A2 nk C2] WFT (0, 0)) ∧ FrOk ND w2 w' cn (Value.slice Aw m1 Cw).ownBlock (.slice A1 np C1, .slice A2 nk C2) (t.ps, t.ks) ∧ RepNs ND w2 kb t.ks ∧ Ext wr w') ⟨HI2.out.1.keep (f4.trans E4), Ext.cell' (f4.trans E4) HI2.out.2.1, by rw [hgf]; exact heap_new w4 _, hFr.keep E4.size (fun b hb _ _ => E4.block b hb) (.inl rfl), hrn, f4.trans E4⟩ ?_
    have hgs : wr.heap.size ≤ gf := by rw [hgf]; exact f4.size
    have hF : b < gf ∧ cn < gf ∧ w2.heap.size ≤ gf ∧ (Value.slice Aw m1 Cw).ownBlock ≠ some gf ∧ (∀ (i : Nat) (m : Fm), ms1[i]? = some m → ∀ b, FrB m b → b ≠ gf) ∧ (∀ b, FrB (.slice A1 np C1, .slice A2 nk C2) b → b < gf) ∧ nk = kb.length ∧ np = t.ps.length := ⟨by omega, by omega, Nat.le_trans HI2.out.1.ext.size hgs, fun e => by have := hwl gf e; omega, fun i m hm b hb => by have := hfl i m hm b hb; omega, fun b hb => by rw [hgf]; exact (hrl b hb).2, hnk, hnp⟩
    have HF := Lib.hid hF
    clear hF hgs E4 hFr hrl hnp hnk hwl hfl hrn r1 r2 f4 hgf hcl hbl3
    intro w5 H5
    repeat' (first | go_at_call 46 | go_skip | go_guarded | go_step)
    refine (HAt.out w5).mono ?_
    rintro e w5' ⟨rfl, rfl⟩
    go_simp
    repeat' (first | go_at_call 47 | go_skip | go_guarded | go_step)
    rcases HC.out with ⟨hK, P1, P2, hps, hP1⟩ | ⟨f', kd, X, A, B, sl, hff, hK, hN, hTX, hXr, hXm, hXl, hks, hA⟩
    · refine (hK w5 H5.out.1.ext).mono ?_
      rintro e w6 ⟨rfl, f6⟩
      obtain ⟨gp, h1, h2, h3, h4, h5⟩ := H5.out
      have H6 : Hid (Cur w2 w6 cn (.slice Aw m1 Cw) ms1 st1 0 ∧ w6.cell? ⟨b, 0, none⟩ = some (str key) ∧ w6.heap[gf]? = some (.cells #[.slice A1 np C1, .slice A2 nk C2] WFT (0, 0)) ∧ FrOk ND w2 w6 cn (Value.slice Aw m1 Cw).ownBlock (.slice A1 np C1, .slice A2 nk C2) (t.ps, t.ks)) := Lib.hid ⟨gp.keep f6, Ext.cell' f6 h1, (f6.block gf (heap_lt h2)).trans h2, h3.keep f6.size (fun b hb _ _ => f6.block b hb) (.inl rfl)⟩
      have HPS := Lib.hid (And.intro hps hP1)
      clear hK hps hP1 HC gp h1 h2 h3 h4 h5 f6
      have g0 : w6.cell? ⟨gf, 0, none⟩ = some (.slice A1 np C1) := by have := H6.out.2.2.1; simp [World.cell?, this]
      have g1 : w6.cell? ⟨gf, 1, none⟩ = some (.slice A2 nk C2) := by have := H6.out.2.2.1; simp [World.cell?, this]
      go_simp
      repeat' (first | go_at_call 48 | go_skip | go_guarded | go_step)
      have hpsl : PS w6 (.slice A1 np C1) t.ps := by obtain ⟨_, hp, _⟩ := H6.out.2.2.2; exact hp
      refine (idxs_c w6 (.slice A1 np C1) t.ps P1 P2 b key v hpsl H6.out.2.1 HPS.out.1 HPS.out.2).mono ?_
      rintro e w7 ⟨rfl, f7⟩
      have H7 : Hid (Cur w2 w7 cn (.slice Aw m1 Cw) ms1 st1 0 ∧ w7.heap[gf]? = some (.cells #[.slice A1 np C1, .slice A2 nk C2] WFT (0, 0)) ∧ FrOk ND w2 w7 cn (Value.slice Aw m1 Cw).ownBlock (.slice A1 np C1, .slice A2 nk C2) (t.ps, t.ks)) := Lib.hid ⟨H6.out.1.keep f7, (f7.block gf (heap_lt H6.out.2.2.1)).trans H6.out.2.2.1, H6.out.2.2.2.keep f7.size (fun b hb _ _ => f7.block b hb) (.inl rfl)⟩
      clear g0 g1 hpsl f7
      have hg7 := H7.out.2.1
      have g0 : w7.cell? ⟨gf, 0, none⟩ = some (.slice A1 np C1) := by simp [World.cell?, hg7]
      have g1 : w7.cell? ⟨gf, 1, none⟩ = some (.slice A2 nk C2) := by simp [World.cell?, hg7]
      have gz : ∀ j, w7.frozen? ⟨gf, j, none⟩ = false := fun j => by simp [World.frozen?, hg7]
      have hgl : gf < w7.heap.size := heap_lt hg7
      obtain ⟨K, hK⟩ : ∃ K, K = P1.length := ⟨_, rfl⟩
      have hKn : K + 1 ≤ np := by
        have h1 := HF.out.2.2.2.2.2.2.2
        have h2 := congrArg List.length HPS.out.1
        simp at h2
        omega
      rw [← hK]
      have hcp : np ≤ C1 := by
        obtain ⟨_, ⟨A9, C9, e9, _, _, h9, _⟩, _⟩ := H7.out.2.2
        injection e9 with _ e2 e3
        have h1 := HF.out.2.2.2.2.2.2.2
        omega
      have hwr : IntKind.i64.wrap ((K : Int) + 1) = (K : Int) + 1 := by rw [IntKind.wrap_i64]; omega
      obtain ⟨A3, hrun0, hseg, hblk⟩ := run_fromW (P := Try.prog) (t := 27) (e := 40) Try.underlying27 infoNP A1 (i := K + 1) hKn hcp
      obtain ⟨n3, hn3⟩ : ∃ n, n = np - (K + 1) := ⟨_, rfl⟩
      obtain ⟨C3, hC3⟩ : ∃ n, n = C1 - (K + 1) := ⟨_, rfl⟩
      rw [← hn3, ← hC3] at hrun0
      have hrun : ∀ w, (Instr.slice 27 (.slice A1 np C1) (some (.int .i64 ((K : Int) + 1))) none none).run Try.prog w = .ok (.slice A3 n3 C3) w := hrun0
      have HK := Lib.hid (And.intro hK (And.intro hKn (And.intro hcp (And.intro hn3 (And.intro hC3 (And.intro hseg hblk))))))
      clear hK hcp hrun0 hn3 hC3 hseg hblk hg7 H6
      go_simp
      repeat' (go_not_at_region 14; (first | go_skip | go_guarded | go_step))
      obtain ⟨w8, hw8⟩ : ∃ x, x = w7.setCell ⟨gf, 0, none⟩ (.slice A3 n3 C3) := ⟨_, rfl⟩
      have hO : Only (fun j => j = gf) w7 w8 := by rw [hw8]; exact Only.setCell (S := fun j => j = gf) (p := ⟨gf, 0, none⟩) (Only.refl w7) (.inl rfl) _
      have hg8 : w8.heap[gf]? = some (.cells #[.slice A3 n3 C3, .slice A2 nk C2] WFT (0, 0)) := by rw [hw8]; exact heap_set H7.out.2.1 0 _
      rw [← hw8]
      have H8 : Hid (Cur w2 w8 cn (.slice Aw m1 Cw) ms1 st1 0 ∧ w8.heap[gf]? = some (.cells #[.slice A3 n3 C3, .slice A2 nk C2] WFT (0, 0)) ∧ FrOk ND w2 w8 cn (Value.slice Aw m1 Cw).ownBlock (.slice A3 n3 C3, .slice A2 nk C2) (P2, t.ks) ∧ m1 = ms1.length) := by
        obtain ⟨p1, p2, p3, p4, p5, p6, p7, p8⟩ := HF.out
        obtain ⟨z1, z2, z3, z4, z5, z6, z7⟩ := HK.out
        have hB3 : ∀ b, (Value.slice A3 n3 C3).ownBlock = some b → (Value.slice A1 np C1).ownBlock = some b := fun b hb => by
          cases hA3 : A3 with
          | none => rw [hA3] at hb; simp [Value.ownBlock] at hb
          | some a3 =>
            obtain ⟨a1, ha1, hab⟩ := z7 a3 hA3
            rw [hA3] at hb
            rw [ha1]
            simp only [Value.ownBlock] at hb ⊢
            rw [← hb, hab]
        have hFB : ∀ b, FrB (.slice A3 n3 C3, .slice A2 nk C2) b → FrB (.slice A1 np C1, .slice A2 nk C2) b := fun b hb => hb.elim (fun h => .inl (hB3 b h)) .inr
        refine Lib.hid ⟨H7.out.1.far hO (by omega) p4 p5 p3, hg8, FrOk.far (m := (.slice A3 n3 C3, .slice A2 nk C2)) ?_ hO (fun b hb => Nat.ne_of_lt (p6 b (hFB b hb))), HM1.out⟩
        obtain ⟨kb9, e1, e2, e3, e4, e5, e6⟩ := H7.out.2.2
        have hl2 := congrArg List.length HPS.out.1
        rw [List.length_append, List.length_cons] at hl2
        have hdrop : t.ps.drop (K + 1) = P2 := by
          rw [HPS.out.1, z1, show P1 ++ (key, v) :: P2 = (P1 ++ [(key, v)]) ++ P2 by simp, List.drop_left' (by simp)]
        have hn3 : n3 = P2.length := by omega
        obtain ⟨A9, C9, e9, y1, y2, y3, y4⟩ := e1
        injection e9 with i1 i2 i3
        refine ⟨kb9, ⟨A3, C3, by rw [← hn3], flat_length P2, ?_, by omega, ?_⟩, e2, e3, by simp only; simp only at e4; omega, e5, fun b hb => e6 b (hFB b hb)⟩
        · show P2.length ≤ C3; omega
        · have hs := z6 w7 (flat t.ps) (by rw [flat_length, ← p8]) (by rw [i1]; exact y4)
          rw [← flat_drop, hdrop] at hs
          exact hs
      clear hw8 hO hg8 g0 g1 gz hgl hwr hrun H7
      refine seek_14 w2 w8 cn gf m1 Cw 0 n3 C3 nk C2 Aw A3 A2 ms1 st1 (P2, t.ks) H8 (by have := HM1.out; have := HI2.out.1.len; omega) (Lib.hid HF.out.2.2.2.1) _ _ _ _ _ _ _ _ _ _ _ _ _ _ _ _ _ _ _ _ _ _ _ _ _ _ _ _ _ _ _ _ _ _ _ _ _ _ _ _ _ _ _ _ _ _ _ _ _ _ _ _ _ _ _ _ _ _ _ _ _ _ _ _ _ _ _ _ _ _ _ _ _ _ _ _ _ _ _ _ _ _ _ _ _ _ _ _ _ _ _ _ _ _ _ _ _ _ _ (by kernel_rfl) ?_
      intro u59 u60 u61 u62 u63 u64 u65 u66 u67 u68 wx V' hCx hTx hNx
      obtain ⟨A5, C5, rfl⟩ := own_slice hCx.row
      have hml : (ms1 ++ [((.slice A3 n3 C3, .slice A2 nk C2) : Fm)]).length = m1 + 1 := by rw [List.length_append, ← HM1.out]; rfl
      rw [hml] at hCx
      have HX := Lib.hid hCx
      have hcx := hCx.cell
      have cc0 : wx.cell? ⟨cn, 0, none⟩ = some (.slice A5 (m1 + 1) C5) := by simp [World.cell?, hcx]
      have cc1 : wx.cell? ⟨cn, 1, none⟩ = some (.int .i64 (0 : Nat)) := by simp [World.cell?, hcx]
      have ccf : ∀ j, wx.frozen? ⟨cn, j, none⟩ = false := fun j => by simp [World.frozen?, hcx]
      have hcr : cn < wx.heap.size := heap_lt hcx
      clear hcx hCx hTx hNx hml
      (try simp only [Exit.inBlock, Exit.then])
      repeat' (first | go_skip | go_guarded | go_step)
      go_ret2
      have hC9 := HX.out.setD (m1 + 1)
      have hsl : (st1 ++ [((P2, t.ks) : Fp)]).length = m1 + 1 := by have := HI2.out.1.len; rw [List.length_append, HM1.out, this]; rfl
      refine ⟨cn, _, _, st1 ++ [(P2, t.ks)], w2, Pre ++ P1.map (fun q => (q, st1.length + 1)), rfl, H2.out.2, by rw [hsl]; exact hC9, ?_, ?_⟩
      · rw [wt_end]; exact HI2.out.2.2.1
      · rw [HI2.out.2.2.2.1, walk_end HPS.out.1, List.length_append, List.append_assoc]; rfl
    · refine (hK w5 H5.out.1.ext).mono ?_
      rintro e w6 ⟨rfl, f6⟩
      obtain ⟨gp, h1, h2, h3, h4, h5⟩ := H5.out
      have H6 : Hid (Cur w2 w6 cn (.slice Aw m1 Cw) ms1 st1 0 ∧ w6.cell? ⟨b, 0, none⟩ = some (str key) ∧ w6.heap[gf]? = some (.cells #[.slice A1 np C1, .slice A2 nk C2] WFT (0, 0)) ∧ FrOk ND w2 w6 cn (Value.slice Aw m1 Cw).ownBlock (.slice A1 np C1, .slice A2 nk C2) (t.ps, t.ks)) := Lib.hid ⟨gp.keep f6, Ext.cell' f6 h1, (f6.block gf (heap_lt h2)).trans h2, h3.keep f6.size (fun b hb _ _ => f6.block b hb) (.inl rfl)⟩
      have HN : Hid (In ND w2 g' sl ∧ TR ND h.hash w2 f' kd X ∧ Rise X ∧ (key, v) ∈ X ∧ X.length ≤ l'.length ∧ t.ks = A ++ trieOf h.hash f' X :: B ∧ A.length = rkK sl i ∧ f = f' + 1 ∧ kb.length = t.ks.length) := Lib.hid ⟨hN, hTX, hXr, hXm, hXl, hks, hA, hff, h4.1⟩
      have hgg : g' ≠ gf := by
        obtain ⟨_, ow, pv, kv, nd⟩ := hN
        have := World.block_lt_of_cell? w2 _ nd.node.cells.2.1
        have := HF.out.2.2.1
        simp only at *
        omega
      obtain ⟨r, hr⟩ : ∃ r, r = A.length := ⟨_, rfl⟩
      have hrnk : r + 1 ≤ nk := by
        have h1 := HF.out.2.2.2.2.2.2.1
        have h2 := h4.1
        have h3 := congrArg List.length hks
        rw [List.length_append, List.length_cons] at h3
        omega
      have hr32 : r ≤ 32 := by
        have h1 := rkK_le sl i
        have h2 := kdsOf_len sl
        have h3 := hN.1
        omega
      have hck : nk ≤ C2 := by
        obtain ⟨kb9, _, ⟨A9, C9, e9, _, h8, h9, _⟩, _⟩ := H6.out.2.2.2
        injection e9 with _ e2 e3
        omega
      obtain ⟨A3, hrun0, hseg, hblk⟩ := run_fromW (P := Try.prog) (t := 99) (e := 30) Try.underlying99 infoNK A2 (i := r + 1) hrnk hck
      have HK := Lib.hid (And.intro hr (And.intro hrnk (And.intro hck (And.intro hseg hblk))))
      have hin6 := hN.ext (H5.out.1.ext.trans f6)
      have hrk : r = rkK sl i := hr.trans hA
      clear hK hN hTX hXr hXm hXl hks hA hff gp h1 h2 h3 h4 h5 HC hr hck hseg hblk
      go_simp
      repeat' (go_not_at_region 17; (first | go_skip | go_guarded | go_step))
      refine seek_17 w6 g' gf i nk C2 r _ A2 A3 sl (Lib.hid ⟨hin6, H6.out.2.2.1, hrk, hgg⟩) hi hrnk HK.out.2.2.1 hr32 hrun0 _ _ _ _ _ _ _ _ _ _ _ _ _ _ _ _ _ _ _ _ _ _ _ _ _ _ _ _ _ _ _ _ _ _ _ _ _ _ _ _ _ _ _ _ _ _ _ _ _ _ _ _ _ _ _ _ _ _ _ _ _ _ _ _ _ _ _ _ _ _ _ _ _ _ _ _ _ _ _ _ _ _ _ _ _ _ _ _ _ _ _ _ _ _ _ _ _ _ (by kernel_rfl) ?_
      intro u78 u79 u80 u81 u82 u83 u84 u85 u86 u87 wx hx9
      obtain ⟨hg7, hO⟩ := hx9
      obtain ⟨n3, hn3⟩ : ∃ n, n = nk - (r + 1) := ⟨_, rfl⟩
      obtain ⟨C3, hC3⟩ : ∃ n, n = C2 - (r + 1) := ⟨_, rfl⟩
      rw [← hn3, ← hC3] at hg7
      have H7 : Hid ((Cur w2 wx cn (.slice Aw m1 Cw) ms1 st1 0 ∧ wx.heap[gf]? = some (.cells #[.slice none 0 0, .slice A3 n3 C3] WFT (0, 0)) ∧ FrOk ND w2 wx cn (Value.slice Aw m1 Cw).ownBlock (.slice none 0 0, .slice A3 n3 C3) ([], B) ∧ m1 = ms1.length) ∧ wx.cell? ⟨b, 0, none⟩ = some (str key) ∧ (Value.slice Aw m1 Cw).ownBlock ≠ some b ∧ b ≠ cn) := by
        obtain ⟨p1, p2, p3, p4, p5, p6, p7, p8⟩ := HF.out
        obtain ⟨z1, z2, z3, z6, z7⟩ := HK.out
        have hB3 : ∀ b, (Value.slice A3 n3 C3).ownBlock = some b → (Value.slice A2 nk C2).ownBlock = some b := fun b hb => by
          cases hA3 : A3 with
          | none => rw [hA3] at hb; simp [Value.ownBlock] at hb
          | some a3 =>
            obtain ⟨a1, ha1, hab⟩ := z7 a3 hA3
            rw [hA3] at hb
            rw [ha1]
            simp only [Value.ownBlock] at hb ⊢
            rw [← hb, hab]
        have hFB : ∀ b, FrB (.slice none 0 0, .slice A3 n3 C3) b → FrB (.slice A1 np C1, .slice A2 nk C2) b := fun b hb => hb.elim (fun h => by simp [Value.ownBlock] at h) (fun h => .inr (hB3 b h))
        refine Lib.hid ⟨⟨H6.out.1.far hO (by omega) p4 p5 p3, hg7, FrOk.far (m := (.slice none 0 0, .slice A3 n3 C3)) ?_ hO (fun b hb => Nat.ne_of_lt (p6 b (hFB b hb))), HM1.out⟩, hO.cell H6.out.2.1 (by simp only; omega), fun e => by have := (World.ownsRow.lt H6.out.1.row b e).1; omega, hbc⟩
        obtain ⟨kb9, e1, e2, e3, e4, e5, e6⟩ := H6.out.2.2.2
        obtain ⟨A9, C9, e9, y1, y2, y3, y4⟩ := e2
        injection e9 with i1 i2 i3
        have hks := HN.out.2.2.2.2.2.1
        have hd : t.ks.drop (r + 1) = B := by
          rw [hks, z1, show A ++ trieOf h.hash f' X :: B = (A ++ [trieOf h.hash f' X]) ++ B by simp, List.drop_left' (by simp)]
        have hr := RepNs.drop e3 (r + 1)
        simp only [hd] at hr
        have hl : n3 = (kb9.drop (r + 1)).length := by rw [List.length_drop]; omega
        refine ⟨kb9.drop (r + 1), Sl.nil w6 2, ⟨A3, C3, by rw [← hl], by simp, by rw [← hl]; omega, by omega, ?_⟩, hr, by simp, by rw [← hl]; omega, fun b hb => e6 b (hFB b hb)⟩
        have hs := z6 w6 (ptrs kb9) (by rw [ptrs_length]; omega) (by rw [i1]; exact y4)
        rw [Nat.mul_one] at hs
        have hpd : (ptrs kb9).drop (r + 1) = ptrs (kb9.drop (r + 1)) := by unfold ptrs; rw [List.map_drop]
        rw [hpd] at hs
        exact hs
      clear hg7 hO hrun0 hin6 hrk H6 hgg hrnk hr32
      (try simp only [Exit.inBlock, Exit.then])
      repeat' (go_not_at_region 18; (first | go_skip | go_guarded | go_step))
      refine seek_18 w2 wx cn gf m1 Cw 0 0 0 n3 C3 Aw none A3 ms1 st1 ([], B) (Lib.hid H7.out.1) (by have := HM1.out; have := HI2.out.1.len; omega) (Lib.hid HF.out.2.2.2.1) _ _ _ _ _ _ _ _ _ _ _ _ _ _ _ _ _ _ _ _ _ _ _ _ _ _ _ _ _ _ _ _ _ _ _ _ _ _ _ _ _ _ _ _ _ _ _ _ _ _ _ _ _ _ _ _ _ _ _ _ _ _ _ _ _ _ _ _ _ _ _ _ _ _ _ _ _ _ _ _ _ _ _ _ _ _ _ _ _ _ _ _ _ _ _ _ _ _ _ (by kernel_rfl) ?_
      intro u88 u89 u90 u91 u92 u93 u94 u95 u96 u97 wy V' hCx hTx hNx
      have H9 := Lib.hid (And.intro hCx hTx)
      clear hCx hTx hNx
      (try simp only [Exit.inBlock, Exit.then])
      obtain ⟨q1, q2, q3, q4, q5, q6, q7, q8, q9⟩ := HN.out
      have hlv : IntKind.i64.wrap ((lv : Int) + 1) = (lv : Int) + 1 := by rw [IntKind.wrap_i64]; omega
      clear q1 q2 q3 q4 q5 q6 q7 q9
      repeat' (first | go_skip | go_guarded | go_step)
      go_roundg f
      case measure => omega
      case rel =>
        have hw9' := wt_kid HN.out.2.2.2.2.2.1 st1
        refine ⟨f', lv + 1, kd, V', _, st1 ++ [([], B)], X, Pre ++ (t.ps.map (fun q => (q, st1.length + 1)) ++ walkL A (st1.length + 1 + 1)), rfl, by go_num, by omega, by omega, by rw [List.length_append, hst]; rfl, Lib.hid ⟨H9.out.1, H9.out.2.cell H7.out.2.1 (fun e => e.elim H7.out.2.2.2 H7.out.2.2.1), HN.out.2.1, HN.out.2.2.1, HN.out.2.2.2.1, Nat.le_trans HN.out.2.2.2.2.1 HI2.out.2.2.2.2, Nat.le_trans hw9' HI2.out.2.2.1, ?_⟩⟩
        rw [HI2.out.2.2.2.1, walk_kid HN.out.2.2.2.2.2.1 st1]
        simp only [List.append_assoc]
end Go.Proofs.Ytkfiinmoecibcaa
