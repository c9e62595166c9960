/- WalkGoes: its walk. -/
import Derived.Test.YtbmakajadelckaaM52
import Derived.Test.YtbmakajadelckaaM33
import Derived.Test.YtbmakajadelckaaM34
import Derived.Test.YtbmakajadelckaaM54
import Derived.Deep.RegionHeld3
set_option linter.unusedVariables false
set_option linter.unusedSimpArgs false
namespace Go.Proofs.Ytbmakajadelckaa
open Go Go.RowKit Go.QS Go.QS.Nk
set_option linter.unusedVariables false
attribute [local go_sem] Oper.semAt_some

/-- WalkGoes' boxes. -/
structure BxW (gh : Nat) (h : Hs) (an : Nat) (w : World) : Prop where
  b0 : HsAt w gh h
  b1 : w.heap[gh + 1]? = some (.cells #[.int .u8 (an : Int)] 5 (0, 0))
  b2 : w.heap[gh + 2]? = some (.cells #[.bool false] 4 (0, 0))
theorem BxW.ext {gh : Nat} {h : Hs} {an : Nat} {w w' : World} (H : BxW gh h an w) (f : Ext w w') : BxW gh h an w' := ⟨H.b0.ext f, box_extG H.b1 f, box_extG H.b2 f⟩
theorem neqW (x p : Pr) (w : World) : (binOp .neq 36 (.agg #[str x.1, str x.2]) (.agg #[str p.1, str p.2])).run Try.prog w = .ok (.bool (decide (x ≠ p))) w := by
  obtain ⟨a, b⟩ := x
  obtain ⟨c, d⟩ := p
  by_cases h1 : a = c
  · subst h1
    by_cases h2 : b = d
    · subst h2; simp [go_sem]
    · have : bs b ≠ bs d := fun e => h2 (bs_inj e)
      simp [go_sem, h2, this]
  · have : bs a ≠ bs c := fun e => h1 (bs_inj e)
    simp [go_sem, h1, this]

set_option maxRecDepth 100000 in
set_option maxHeartbeats 4000000 in
theorem walkGoes_c (w : World) (h : Hs) (hk : h.Ok) (v1 : Value) (l : List Pr) (an : Nat) (ha1 : an < 256) (hP : PS w v1 l) :
    Calls Try.prog 4 #[hsV h, v1, .int .u8 (an : Int)] w fun e w' => e = .returned (.bool true) ∧ Ext w w' := by
  have HP := Lib.hid hP
  clear hP
  refine calls_of_wp_marks Try.func4 rfl ?_
  simp only [Try.ntmps4, List.size_toArray, List.length_cons, List.length_nil, Nat.reduceAdd, Nat.reduceSub, Array.replicate_succ, Array.replicate_zero, List.push_toArray, List.append_toArray, List.nil_append, List.cons_append]
  repeat' (go_not_at_region 1; (first | go_skip | go_guarded | go_step))
  obtain ⟨gh, hgh⟩ : ∃ g, g = w.heap.size := ⟨_, rfl⟩
  rw [← hgh]
  refine wp_nameW (fun w' => BxW gh h an w' ∧ Ext w w' ∧ w.heap.size ≤ gh) ⟨?_, ?_, by omega⟩ ?_
  · have f3 := (Ext.refl ((w.alloc (.cells #[.int .u64 h.k0, .int .u64 h.k1, .int .u64 h.mask] 26)).alloc (.cells #[.int .u8 (an : Int)] 5))).alloc (Nat.le_refl _) (.cells #[.bool false] 4)
    have f2 := ((Ext.refl (w.alloc (.cells #[.int .u64 h.k0, .int .u64 h.k1, .int .u64 h.mask] 26))).alloc (Nat.le_refl _) (.cells #[.int .u8 (an : Int)] 5))
    have h0 := box_extG (heap_newG w (.cells #[.int .u64 h.k0, .int .u64 h.k1, .int .u64 h.mask] 26)) (Ext.trans f2 f3)
    have h1 := box_extG (heap_newG (w.alloc (.cells #[.int .u64 h.k0, .int .u64 h.k1, .int .u64 h.mask] 26)) (.cells #[.int .u8 (an : Int)] 5)) f3
    have h2 := heap_newG ((w.alloc (.cells #[.int .u64 h.k0, .int .u64 h.k1, .int .u64 h.mask] 26)).alloc (.cells #[.int .u8 (an : Int)] 5)) (.cells #[.bool false] 4)
    simp only [World.size_alloc, ← hgh] at h0 h1 h2
    exact ⟨h0, h1, h2⟩
  · have e1 : Ext w (w.alloc (.cells #[.int .u64 h.k0, .int .u64 h.k1, .int .u64 h.mask] 26)) := (Ext.refl _).alloc (Nat.le_refl _) _
    have e2 := e1.alloc e1.size (.cells #[.int .u8 (an : Int)] 5)
    exact e2.alloc e2.size _
  clear hgh
  intro wa HW
  have hgw : w.heap.size ≤ gh := HW.out.2.2
  repeat' (first | go_at_call 10 | go_skip | go_guarded | go_step)
  refine (awake08_c wa).mono ?_
  rintro e w1 ⟨rfl, f1⟩
  have H1 : Hid (BxW gh h an w1 ∧ Ext w w1) := Lib.hid ⟨HW.out.1.ext f1, HW.out.2.1.trans f1⟩
  clear f1 HW
  obtain ⟨c0, c1, c2⟩ := H1.out.1.b0.cells
  go_simp
  repeat' (first | go_at_call 11 | go_skip | go_guarded | go_step)
  refine (trie08_c h hk w1 v1 l (HP.out.below H1.out.2)).mono ?_
  rintro e w2 ⟨g, vx, vs, rfl, f2, t2, p2, s2⟩
  obtain ⟨X, hX⟩ : ∃ X, X = xOf l := ⟨_, rfl⟩
  obtain ⟨hXr, hXl, hXk⟩ := xOf_ok l
  rw [← hX] at t2 p2 s2 hXr hXl hXk
  obtain ⟨t, ht⟩ : ∃ t, t = trieOf h.hash 13 X := ⟨_, rfl⟩
  have hR2 := TR.rep 13 t2 (by omega)
  have hwt : wtB [(t.ps, t.ks)] ≤ 1000000 := by
    rw [ht]
    have h1 := cnt_trie h.hash 13 X
    have h2 := cntT_eq (trieOf h.hash 13 X)
    simp only [wtB]
    omega
  have hcom := com_one t
  have hLl : (walkT t 1).length = X.length := by rw [ht]; exact walk_len _ _ _ _
  rw [← ht] at s2 hR2
  obtain ⟨L, hL⟩ : ∃ L, L = walkT t 1 := ⟨_, rfl⟩
  rw [← hL] at s2 hcom hLl
  obtain ⟨As, Cs, rfl, _, hns, hcs, hss⟩ := s2
  obtain ⟨Ax, Cx, rfl, _, hnx, hcx, hsx⟩ := p2
  obtain ⟨n, hn⟩ : ∃ n, n = X.length := ⟨_, rfl⟩
  rw [hLl, ← hn] at hns
  rw [← hn] at hnx
  rw [hLl, ← hn]
  have hn40 : n ≤ 40 := by omega
  obtain ⟨st, hst⟩ : ∃ st, st = [(t.ps, t.ks)] := ⟨_, rfl⟩
  have hst9 : wtB st ≤ 1000000 := by rw [hst]; exact hwt
  have hcS : comB st 1 = L := by rw [hst]; exact hcom
  have HX := Lib.hid (And.intro hXr (And.intro hXl (And.intro hn (And.intro (hLl.trans hn.symm) (And.intro ht (And.intro hL (And.intro hcS hst)))))))
  have H2 : Hid (BxW gh h an w2 ∧ Ext w w2 ∧ RepN ND w2 g t ∧ Seg w2 As (flatS L) ∧ Seg w2 Ax (flat X)) := Lib.hid ⟨H1.out.1.ext f2, H1.out.2.trans f2, hR2, hss, hsx⟩
  clear f2 t2 hss hsx hX hXr hXk hXl hL hn hLl c0 c1 c2 ht hR2 hcom hcS hst
  go_simp
  repeat' (go_not_at_region 4; (first | go_skip | go_guarded | go_step))
  obtain ⟨g9, hg9⟩ : ∃ g, g = w2.heap.size := ⟨_, rfl⟩
  rw [← hg9]
  refine wp_nameW (fun w' => w'.heap[g9]? = some (.cells #[.slice As n Cs] 32 (0, 0)) ∧ Ext w2 w' ∧ w2.heap.size ≤ g9) ⟨by rw [hg9]; exact heap_new w2 _, (Ext.refl _).alloc (Nat.le_refl _) _, by omega⟩ ?_
  clear hg9
  intro w3 H3
  have hg9w : w2.heap.size ≤ g9 := H3.out.2.2
  have HN : Hid (∀ W, Ext w3 W → Calls Try.prog 14 #[ptr g] W fun e w' => ∃ c V m, e = .returned (ptr c) ∧ Cur w3 w' c V [m] st 0 ∧ Ext W w') := Lib.hid (fun W f => (wnew0_c w3 W f (ptr g) t (.inr ⟨g, rfl, H2.out.2.2.1.ext H3.out.2.1⟩)).mono (by
    rintro e w' ⟨c, V, m, h1, h2, h3, _⟩
    rw [← HX.out.2.2.2.2.2.2.2] at h2
    exact ⟨c, V, m, h1, h2, h3⟩))
  have hSl : Sl w3 3 (.slice As n Cs) L.length (flatS L) := ⟨As, Cs, by rw [HX.out.2.2.2.1], flatS_length _, by rw [HX.out.2.2.2.1]; exact hns, hcs, H2.out.2.2.2.1.below H3.out.2.1⟩
  have HSl := Lib.hid hSl
  have hL9 : L.length ≤ 1000000 := by rw [HX.out.2.2.2.1]; omega
  have c9 : w3.cell? ⟨g9, 0, none⟩ = some (.slice As n Cs) := by rw [cellG H3.out.1]; rfl
  have HC9 := Lib.hid c9
  clear hSl
  go_region_held3 (fun w' => w'.cell? ⟨g9, 0, none⟩ = some (.slice As n Cs))
    (first | exact Ext.cell' kk.out HC9.out | exact Ext.cell' (ext_drew (Ext.refl _)) HC9.out)
    (first
      | (go_at_call 14; refine (HN.out _ (by first | exact kk.out | exact ext_drew (Ext.refl _))).mono ?_; rintro e x1 ⟨c1, V1, m1, rfl, hC1, f1⟩; have KC := Lib.hid hC1; have kk : Hid (Ext w3 x1) := Lib.hid hC1.ext; clear f1 hC1)
      | (go_at_call 16; refine (goes_c w3 _ _ _ _ st 0 L _ KC.out hst9 HX.out.2.2.2.2.2.2.1 HSl.out hL9).mono ?_; rintro e x2 ⟨rfl, f2, t2⟩; have kk : Hid (Ext w3 x2) := Lib.hid f2; clear f2 t2)
      | (go_at_call 17; refine (depth_c KC.out).mono ?_; rintro e xz ⟨rfl, rfl⟩))
  have F5 := kk.out
  have H5 : Hid (BxW gh h an xz ∧ Ext w xz ∧ RepN ND xz g t ∧ Seg xz As (flatS L) ∧ Seg xz Ax (flat X) ∧ xz.heap[g9]? = some (.cells #[.slice As n Cs] 32 (0, 0))) :=
    Lib.hid ⟨(H2.out.1.ext H3.out.2.1).ext F5, Ext.trans H2.out.2.1 (Ext.trans H3.out.2.1 F5), (H2.out.2.2.1.ext H3.out.2.1).ext F5, (H2.out.2.2.2.1.below H3.out.2.1).below F5, (H2.out.2.2.2.2.below H3.out.2.1).below F5, box_extG H3.out.1 F5⟩
  clear F5 kk KC HN HSl HC9 c9 H1 H2 H3
  go_simp
  repeat' (go_not_at_region 7; (first | go_skip | go_guarded | go_step))
  obtain ⟨g10, hg10⟩ : ∃ g, g = xz.heap.size := ⟨_, rfl⟩
  rw [← hg10]
  refine wp_nameW (fun w' => w'.heap[g10]? = some (.cells #[.int .i64 0] 3 (0, 0)) ∧ Ext xz w' ∧ xz.heap.size ≤ g10) ⟨by rw [hg10]; exact heap_new xz _, (Ext.refl _).alloc (Nat.le_refl _) _, by omega⟩ ?_
  clear hg10
  intro w6 H6
  have hg10w : xz.heap.size ≤ g10 := H6.out.2.2
  repeat' (first | go_at_call 18 | (go_not_at_region 8; (first | go_skip | go_guarded | go_step)))
  refine (wall_c w6 (some ⟨g, 0, none⟩)).mono ?_
  rintro e w7 ⟨k0, rfl, hk0, f7⟩
  have H7 : Hid (Ext xz w7 ∧ w7.heap[g10]? = some (.cells #[.int .i64 0] 3 (0, 0)) ∧ w7.cell? ⟨k0, 0, none⟩ = some (ptr g)) := Lib.hid ⟨Ext.trans H6.out.2.1 f7, box_extG H6.out.1 f7, hk0⟩
  have hle7 : xz.heap.size ≤ w7.heap.size := H7.out.1.size
  have hgl10 : g10 < w7.heap.size := heap_lt H7.out.2.1
  have hghx : gh + 2 < xz.heap.size := heap_lt H5.out.1.b2
  clear hk0 f7 H6
  obtain ⟨q, hq⟩ : ∃ q, q = an % 50 := ⟨_, rfl⟩
  have hrem : (an : Int).tmod 50 = (q : Int) := by rw [hq]; rfl
  have hq50 : q < 50 := by omega
  clear hq
  go_simp
  repeat' (first | go_skip | go_guarded | go_step)
  refine (wpIn_wide (n := 5)).1 ?_
  obtain ⟨P, hPP⟩ : ∃ P, P = L.map Prod.fst := ⟨_, rfl⟩
  have hPn : P.length = n := by rw [hPP, List.length_map]; exact HX.out.2.2.2.1
  have HPP := Lib.hid (And.intro hPP hPn)
  clear hPP hPn
  refine wpIn_rangeFunc_RT (F := Fence.wide) (n := 5) rfl (by decide) (gf := 52) (lb := #[ptr k0]) rfl trivial all_enters
    (all_seq 4 (by decide) xz (ptr g) t k0 0 P (fun _ b => b = g10) (.inr ⟨g, rfl, H5.out.2.2.1⟩) hwt (by rw [HPP.out.1, HX.out.2.2.2.2.2.1]) (fun A B _ _ k hk => hk))
    (fun k o h hk h1 h2 => stT_other h h1 h2) kpO_t (fun W l o o' hl h1 h2 h3 => kpO_b hle7 (fun _ _ _ _ _ _ _ k hk => hk) W l o o' hl h1 h2 h3)
    (fun r => ⟨Ext.trans H7.out.1 (((Ext.refl w7).alloc (Nat.le_refl _) _).alloc (by simp) _), Ext.cell' (((Ext.refl w7).alloc (Nat.le_refl _) _).alloc (by simp) _) H7.out.2.2, Nat.zero_le _, fun k hk => by subst hk; simp; omega⟩) (fun _ => rfl)
    (fun pre W => Ext xz W ∧ W.heap[g10]? = some (.cells #[.int .i64 (pre.length : Int)] 3 (0, 0)) ∧ pre = P.take pre.length ∧ pre.length ≤ q)
    (fun c pre W => (c = .ret ∧ ¬ pre <+: P) ∨ (c = .exit 0 ∧ Ext xz W ∧ W.heap[g10]? = some (.cells #[.int .i64 (pre.length : Int)] 3 (0, 0)) ∧ pre.length = q + 1))
    (fun s A B row hs hg hr => ⟨ext_own hs.1 hg hle7 (fun r e => (hr r e).1), heap_own hs.2.1 hg (fun r e => (hr r e).2), hs.2.2⟩)
    (fun c s A B row hs hg hr => hs.imp id (fun h => ⟨h.1, ext_own h.2.1 hg hle7 (fun r e => (hr r e).1), heap_own h.2.2.1 hg (fun r e => (hr r e).2), h.2.2.2⟩))
    (fun s A B hs ht => ⟨stT_ext ht hs.1 (Nat.le_refl _), stT_heap ht hs.2.1 (by unfold tauW; decide), hs.2.2⟩)
    (fun c s A B hs ht => hs.imp id (fun h => ⟨h.1, stT_ext ht h.2.1 (Nat.le_refl _), stT_heap ht h.2.2.1 (by unfold tauW; decide), h.2.2.2⟩))
    ⟨H7.out.1, H7.out.2.1, rfl, Nat.zero_le _⟩
    (fun T x a' W => ∃ Bx, g10 < Bx ∧ W.heap[Bx]? = some (.cells #[str x.1, str x.2] 40 (0, 0)) ∧ a' = { tmps := (T.setIfInBounds 36 (.agg #[str x.1, str x.2])).setIfInBounds 11 (ptr Bx), defers := [] })
    (fun x a' s A B row hs hg hr => hs.imp fun Bx h => ⟨h.1, heap_own h.2.1 hg (fun r e => (hr r e).2), h.2.2⟩) ?assign ?body ?done ?stop
  case assign =>
    rintro l pre x W K hI hK
    have hl := heap_lt hI.2.1
    have hxe : Ext W (W.alloc (.cells #[str x.1, str x.2] 40)) := (Ext.refl W).alloc (Nat.le_refl _) _
    repeat' (first | gi_guarded | gi_step)
    exact hK _ _ ((KeepsOthers.alloc _ _).from _) (KpO.of_ext hxe (fun k hk => .inl hk)) ⟨Ext.trans hI.1 hxe, box_extG hI.2.1 hxe, hI.2.2⟩ ⟨W.heap.size, hl, heap_newG _ _, rfl⟩
  case body =>
    rintro l pre x a' W hl _ ⟨h1, h2, h3, h4⟩ ⟨Bx, hBx, hbx, rfl⟩ hlt
    simp only [List.setIfInBounds_toArray, List.set_cons_succ, List.set_cons_zero]
    rw [HPP.out.2] at hlt
    obtain ⟨k, hk9⟩ : ∃ k, k = pre.length := ⟨_, rfl⟩
    rw [← hk9] at hlt h2 h3 h4
    obtain ⟨s, hs⟩ := get_of_lt L (show k < L.length by have := HX.out.2.2.2.1; omega)
    have hp : P[k]? = some s.1 := by rw [HPP.out.1, List.getElem?_map, hs]; rfl
    obtain ⟨b, o, rfl, y0, y1, y2⟩ := seg_step (H5.out.2.2.2.1.below h1) hs
    have c10 : W.cell? ⟨g10, 0, none⟩ = some (.int .i64 (k : Int)) := by rw [cellG h2]; rfl
    have f10 := freeG h2 0
    have l10 := heap_lt h2
    have c9 : W.cell? ⟨g9, 0, none⟩ = some (.slice (some ⟨b, o, none⟩) n Cs) := by rw [cellG (box_extG H5.out.2.2.2.2.2 h1)]; rfl
    have x0 : W.cell? ⟨Bx, 0, none⟩ = some (str x.1) := by rw [cellG hbx]; rfl
    have xx1 : W.cell? ⟨Bx, 1, none⟩ = some (str x.2) := by rw [cellG hbx]; rfl
    have hx' := H5.out.1.ext h1
    have c5 : W.cell? ⟨gh + 1, 0, none⟩ = some (.int .u8 (an : Int)) := by rw [cellG hx'.b1]; rfl
    have c6 : W.cell? ⟨gh + 1 + 1, 0, none⟩ = some (.bool false) := by rw [cellG hx'.b2]; rfl
    have f6 := freeG hx'.b2 0
    have l6 := heap_lt hx'.b2
    have hd1 : ¬ ((n : Int) ≤ (k : Int)) := by omega
    have hd2 : (k : Int) < (n : Int) := by omega
    have HB := Lib.hid (And.intro h1 (And.intro h2 (And.intro h3 (And.intro hbx (And.intro hx' hk9)))))
    have HP2 := Lib.hid hp
    have hk50 : k < 50 := by omega
    clear h1 h2 h3 hbx hx' hp hs hlt hk9
    have hne : ∀ w, (binOp .neq 36 (.agg #[str x.1, str x.2]) (.agg #[str s.1.1, str s.1.2])).run Try.prog w = .ok (.bool (decide (x ≠ s.1))) w := fun w => neqW x s.1 w
    by_cases hxp : x = s.1
    · rw [show decide (x ≠ s.1) = false by simp [hxp]] at hne
      have HXP := Lib.hid hxp
      clear hxp
      gi_step
      repeat' (gi_not_at_region 9; (first | gi_guarded | gi_step))
      refine wpIn_region_quiet_round (F := Fence.wide) l rfl (by kernel_rfl) (by kernel_rfl) (by kernel_rfl) ?_
      repeat (gi_big_quiet_step (fail))
      refine wpQuietIn_nil ?_
      rintro _ ⟨nq, rfl⟩
      have hEnd : Hid (KeepsFrom w7.heap.size W ((W.drewN nq).setCell ⟨g10, 0, none⟩ (.int .i64 ((k + 1 : Nat) : Int))) ∧ KpO xz.heap.size (fun _ b => b = g10) W ((W.drewN nq).setCell ⟨g10, 0, none⟩ (.int .i64 ((k + 1 : Nat) : Int))) ∧
          Ext xz ((W.drewN nq).setCell ⟨g10, 0, none⟩ (.int .i64 ((k + 1 : Nat) : Int))) ∧ ((W.drewN nq).setCell ⟨g10, 0, none⟩ (.int .i64 ((k + 1 : Nat) : Int))).heap[g10]? = some (.cells #[.int .i64 ((pre ++ [x]).length : Int)] 3 (0, 0))) := Lib.hid (by
        have hd : Ext W (W.drewN nq) := below_drewN (Ext.refl _) _
        have hb := box_extG HB.out.2.1 hd
        refine ⟨?_, (KpO.of_ext hd (fun k hk => .inl hk)).trans (KpO.of_set (heap_lt hb) hg10w rfl (fun k hk => hk)), (Ext.trans HB.out.1 hd).setCell hg10w _, ?_⟩
        · refine ⟨by simp, fun j o' _ hj ho => ?_⟩
          exact (KeepsOthers.setCell (W.drewN nq) ⟨g10, 0, none⟩ _).same j o' (box_extG hj hd) ho
        · have := heap_set hb 0 (.int .i64 ((k + 1 : Nat) : Int))
          rw [List.length_append, List.length_singleton, ← HB.out.2.2.2.2.2]
          simpa using this)
      have hkk : ((k + 1 : Nat) : Int) = (k : Int) + 1 := by omega
      rw [hkk] at hEnd
      clear hkk
      by_cases hgt : q < k + 1
      · have hd3 : (q : Int) < (k : Int) + 1 := by omega
        repeat' (first | gi_guarded | gi_step)
        exact ⟨hEnd.out.1, .inr ⟨rfl, hEnd.out.2.2.1, hEnd.out.2.2.2, by rw [List.length_append, ← HB.out.2.2.2.2.2, List.length_singleton]; omega⟩⟩
      · have hd3 : ¬ ((q : Int) < (k : Int) + 1) := by omega
        have hd4 : (k : Int) + 1 ≤ (q : Int) := by omega
        repeat' (first | gi_guarded | gi_step)
        refine ⟨hEnd.out.1, hEnd.out.2.1, hEnd.out.2.2.1, hEnd.out.2.2.2, ?_, by rw [List.length_append, ← HB.out.2.2.2.2.2, List.length_singleton]; omega⟩
        have ht := take_snoc HP2.out
        rw [← HB.out.2.2.1] at ht
        rw [HXP.out, List.length_append, List.length_singleton, ← HB.out.2.2.2.2.2, ht]
    · rw [show decide (x ≠ s.1) = true by simp [hxp]] at hne
      have HXP := Lib.hid hxp
      clear hxp
      gi_step
      repeat' (gi_not_at_region 9; (first | gi_guarded | gi_step))
      refine wpIn_region_quiet_round (F := Fence.wide) l rfl (by kernel_rfl) (by kernel_rfl) (by kernel_rfl) ?_
      repeat (gi_big_quiet_step (fail))
      refine wpQuietIn_nil ?_
      rintro _ ⟨nq, rfl⟩
      repeat' (first | gi_guarded | gi_step)
      refine ⟨?_, .inl ⟨rfl, ?_⟩⟩
      · have hd : Ext W (W.drewN nq) := below_drewN (Ext.refl _) _
        refine ⟨by simp, fun j o' _ hj ho => ?_⟩
        exact (KeepsOthers.setCell (W.drewN nq) ⟨gh + 1 + 1, 0, none⟩ _).same j o' (box_extG hj hd) ho
      · rintro ⟨t', ht'⟩
        have h9 := HP2.out
        rw [← ht'] at h9
        rw [HB.out.2.2.2.2.2] at h9
        simp at h9
        exact HXP.out h9
  case done =>
    rintro D xs W hD rfl ⟨h1, h2, h3, h4⟩ hK
    rw [HPP.out.2] at h2 h4
    have c10 : W.cell? ⟨g10, 0, none⟩ = some (.int .i64 (n : Int)) := by rw [cellG h2]; rfl
    have c9 : W.cell? ⟨g9, 0, none⟩ = some (.slice As n Cs) := by rw [cellG (box_extG H5.out.2.2.2.2.2 h1)]; rfl
    have hx' := H5.out.1.ext h1
    have c5 : W.cell? ⟨gh + 1, 0, none⟩ = some (.int .u8 (an : Int)) := by rw [cellG hx'.b1]; rfl
    have HB := Lib.hid (And.intro h1 (And.intro hx'.b2 hK))
    have hm1 : min (n : Int) ((q : Int) + 1) = (n : Int) := by omega
    clear h1 h2 hx' hK
    repeat' (go_not_at_region 15; (first | go_skip | go_guarded | go_step))
    rename_i K hK
    refine goes_tail W g (gh + 1 + 1) n Cx Ax _ h.hash X hn40 hcx hnx (Lib.hid ⟨by rw [← HX.out.2.2.2.2.1]; exact H5.out.2.2.1.ext HB.out.1, H5.out.2.2.2.2.1.below HB.out.1, HX.out.2.2.1, HX.out.1, HX.out.2.1⟩) HB.out.2.1 _ _ K _ _ _ _ _ _ _ _ _ _ _ _ _ _ _ _ _ _ _ _ _ _ _ _ _ _ _ _ _ _ _ _ _ _ _ _ _ _ _ _ _ _ _ _ _ _ _ _ _ _ _ _ _ _ _ _ _ _ _ _ _ _ _ _ _ _ _ _ _ _ _ _ _ _ _ _ _ _ _ _ _ _ _ _ _ _ (by kernel_rfl) (by kernel_rfl) hK ?_
    intro a wx W' hd ht hE hwx
    have HE := Lib.hid (And.intro hE hwx)
    clear hE hwx
    (try simp only [Exit.inBlock, Exit.then])
    repeat' go_step
    have h5 := heap_set (box_extG HB.out.2.1 HE.out.1) 0 (Value.bool true)
    have hK4 := box_extG HB.out.2.2 HE.out.1
    have hwx := HE.out.2
    have hK5 : wx.heap[D]? = some (.deferred (some [])) := by
      rw [hwx]
      refine (Below.heap_setCell W' ⟨gh + 1 + 1, 0, none⟩ (.bool true) D (fun e => ?_)).trans hK4
      rw [e, box_extG HB.out.2.1 HE.out.1] at hK4
      cases hK4
    have HE5 : Ext w wx := by rw [hwx]; exact (Ext.trans H5.out.2.1 (Ext.trans HB.out.1 HE.out.1)).setCell (show w.heap.size ≤ gh + 1 + 1 by omega) _
    rw [← hwx] at h5
    have hg := grownBy_putObj' wx D (.deferred none)
    have hr : ∀ r, some D = some r → ∃ o : Obj, wx.heap[r]? = some o ∧ o.isCells = false := fun r e => by cases e; exact ⟨_, hK5, rfl⟩
    refine postM_ret1 (results_box1 rfl _ _ (gh + 1 + 1) (.bool true) _ _ _ ht (heap_own h5 hg hr) Try.underlying4 rfl) hd hK5 ⟨rfl, ?_⟩
    exact ext_own HE5 hg (Nat.le_trans H5.out.2.1.size hle7) (fun r e => by cases e; exact hD)
  case stop =>
    rintro D c pre W hD hpre (⟨rfl, hno⟩ | ⟨rfl, h1, h2, h3⟩) hK
    · exact absurd hpre hno
    · refine (wpIn_wide (n := 5)).2 ?_
      rw [h3] at h2
      have hiq : q + 1 ≤ n := by have := hpre.length_le; have := HPP.out.2; omega
      have c10 : W.cell? ⟨g10, 0, none⟩ = some (.int .i64 ((q : Int) + 1)) := by rw [cellG h2]; rfl
      have c9 : W.cell? ⟨g9, 0, none⟩ = some (.slice As n Cs) := by rw [cellG (box_extG H5.out.2.2.2.2.2 h1)]; rfl
      have hx' := H5.out.1.ext h1
      have c5 : W.cell? ⟨gh + 1, 0, none⟩ = some (.int .u8 (an : Int)) := by rw [cellG hx'.b1]; rfl
      have HB := Lib.hid (And.intro h1 (And.intro hx'.b2 hK))
      have hm1 : min (n : Int) ((q : Int) + 1) = (q : Int) + 1 := by omega
      clear h1 h2 hx' hK
      repeat' (go_not_at_region 15; (first | go_skip | go_guarded | go_step))
      rename_i K hK
      refine goes_tail W g (gh + 1 + 1) n Cx Ax _ h.hash X hn40 hcx hnx (Lib.hid ⟨by rw [← HX.out.2.2.2.2.1]; exact H5.out.2.2.1.ext HB.out.1, H5.out.2.2.2.2.1.below HB.out.1, HX.out.2.2.1, HX.out.1, HX.out.2.1⟩) HB.out.2.1 _ _ K _ _ _ _ _ _ _ _ _ _ _ _ _ _ _ _ _ _ _ _ _ _ _ _ _ _ _ _ _ _ _ _ _ _ _ _ _ _ _ _ _ _ _ _ _ _ _ _ _ _ _ _ _ _ _ _ _ _ _ _ _ _ _ _ _ _ _ _ _ _ _ _ _ _ _ _ _ _ _ _ _ _ _ _ _ _ (by kernel_rfl) (by kernel_rfl) hK ?_
      intro a wx W' hd ht hE hwx
      have HE := Lib.hid (And.intro hE hwx)
      clear hE hwx
      (try simp only [Exit.inBlock, Exit.then])
      repeat' go_step
      have h5 := heap_set (box_extG HB.out.2.1 HE.out.1) 0 (Value.bool true)
      have hK4 := box_extG HB.out.2.2 HE.out.1
      have hwx := HE.out.2
      have hK5 : wx.heap[D]? = some (.deferred (some [])) := by
        rw [hwx]
        refine (Below.heap_setCell W' ⟨gh + 1 + 1, 0, none⟩ (.bool true) D (fun e => ?_)).trans hK4
        rw [e, box_extG HB.out.2.1 HE.out.1] at hK4
        cases hK4
      have HE5 : Ext w wx := by rw [hwx]; exact (Ext.trans H5.out.2.1 (Ext.trans HB.out.1 HE.out.1)).setCell (show w.heap.size ≤ gh + 1 + 1 by omega) _
      rw [← hwx] at h5
      have hg := grownBy_putObj' wx D (.deferred none)
      have hr : ∀ r, some D = some r → ∃ o : Obj, wx.heap[r]? = some o ∧ o.isCells = false := fun r e => by cases e; exact ⟨_, hK5, rfl⟩
      refine postM_ret1 (results_box1 rfl _ _ (gh + 1 + 1) (.bool true) _ _ _ ht (heap_own h5 hg hr) Try.underlying4 rfl) hd hK5 ⟨rfl, ?_⟩
      exact ext_own HE5 hg (Nat.le_trans H5.out.2.1.size hle7) (fun r e => by cases e; exact hD)
end Go.Proofs.Ytbmakajadelckaa
