/- Texts joined. -/
import Derived.Test.YtclcgelbcbnekaaFg
import Derived.Deep.QuietTactic
set_option linter.unusedVariables false
set_option linter.unusedSimpArgs false
/- Contracts: the document's trie of pairs; a hasher as the document has it. -/
namespace Go.Proofs.Ytclcgelbcbnekaa
open Go.RowKit Go.QS Go.QS.Nk
set_option linter.unusedVariables false
variable [Zero (Nat → Prop)]
set_option linter.unusedSectionVars false

theorem of_all (H : List UInt8 → Nat) (hH : ∀ s, H s < 18446744073709551616) : ∀ f, OfOk H f
  | 0 => of_zero H
  | f + 1 => of_succ H hH f (of_all H hH f)
abbrev RH : TypeId := 181
def RhAt (w : World) (g : Nat) (h : Hs) : Prop := w.heap[g]? = some (.cells #[.int .u64 h.k0, .int .u64 h.k1, .int .u64 h.mask] RH (0, 0))
theorem RhAt.ext {w w' : World} {g : Nat} {h : Hs} (H : RhAt w g h) (f : Ext w w') : RhAt w' g h := (f.block g (heap_lt H)).trans H
theorem RhAt.cells {w : World} {g : Nat} {h : Hs} (H : RhAt w g h) : w.cell? ⟨g, 0, none⟩ = some (.int .u64 h.k0) ∧ w.cell? ⟨g, 1, none⟩ = some (.int .u64 h.k1) ∧ w.cell? ⟨g, 2, none⟩ = some (.int .u64 h.mask) := by
  unfold RhAt at H; simp [World.cell?, H]
set_option maxRecDepth 100000 in
set_option maxHeartbeats 2000000 in
theorem own6_c (w : World) (h : Hs) : Calls Try.prog 101 #[hsV h] w fun e w' => e = .returned (hsV h) ∧ Ext w w' := by
  obtain ⟨a0, a1, mk⟩ := h
  go_enter Try.func101, Try.ntmps101
  repeat' (first | go_skip | go_guarded | go_step)
  (try simp only [Exit.inBlock, Exit.then])
  refine bodyPost_ret_by (results_cell_row rfl _ _ _ _ _ _ _ rfl (heap_alloc2_new _ _ _) Try.underlying181 rfl (by kernel_rfl)) rfl ?_
  exact ⟨rfl, ((Ext.refl w).alloc (Nat.le_refl _) _).alloc (by simp) _⟩
set_option maxRecDepth 100000 in
set_option maxHeartbeats 2000000 in
theorem rof6S_c (h : Hs) (hk : h.Ok) (w : World) (v : Value) (l : List Pr) (hP : PS w v l) (h9 : l.length ≤ 100000) (hq : ∀ q ∈ l, q.1.length ≤ 1000000) :
    Calls Try.prog 100 #[hsV h, v, .int .i64 0] w fun e w' => ∃ q A, e = .returned (ptr q) ∧ Ext w w' ∧ w.heap.size ≤ q ∧ w'.heap[q]? = some (.cells A TT (0, 0)) ∧ Zs A 32 ∧ ∀ W, KeepT (q + 1) w' W → ∀ c, c < 32 → EntOk (DR h.hash W 12) A c (Go.QS.part h.hash 0 c l) := by
  have HP := Lib.hid hP
  obtain ⟨A, C, rfl, _, hn, hC, _⟩ := hP
  have HQ := Lib.hid hq
  clear hq
  go_enter Try.func100, Try.ntmps100
  repeat' (go_not_at_region 3; (first | go_skip | go_guarded | go_step))
  obtain ⟨g, hg⟩ : ∃ g, g = w.heap.size := ⟨_, rfl⟩
  rw [← hg]
  refine wp_named (fun w' => RhAt w' g h ∧ Ext w w') ⟨by rw [hg]; exact heap_new w _, (Ext.refl w).alloc (Nat.le_refl _) _⟩ ?_
  have HG := Lib.hid hg
  clear hg
  intro wa HW
  go_loopg [7, 12] l.length (fun gk v7 v12 wr => ∃ i : Nat, v12 = .int .i64 i ∧ i ≤ l.length ∧ l.length - i ≤ gk ∧ Hid (Ext wa wr ∧ wr.ownsRow wa.heap.size U64 1 v7 (l.take i).length ((l.take i).map fun p => .int .u64 (h.hash p.1))))
  case atStart => exact ⟨0, rfl, Nat.zero_le _, by omega, Lib.hid ⟨Ext.refl _, World.ownsRow_nil _ _ _ _⟩⟩
  case round =>
    obtain ⟨i, rfl, hi, hgk, HI⟩ := hrel
    rcases Nat.lt_or_ge i l.length with hlt | hge
    · have d1 : decide (i < l.length) = true := by simp [hlt]
      have hi1 : (i : Int) < (l.length : Int) := by omega
      obtain ⟨p, hp⟩ := get_of_lt l hlt
      obtain ⟨A', C', hA, _, _, _, hs⟩ := HP.out.below (HW.out.2.trans HI.out.1)
      cases hA
      obtain ⟨b, o, rfl, h1, h2⟩ := seg_pair hs hp
      have hpl := HQ.out p (List.mem_of_getElem? hp)
      have HE := Lib.hid (And.intro hp hpl)
      clear hs hp
      repeat' (go_not_at_region 5; (first | go_skip | go_guarded | go_step))
      obtain ⟨gp, hgp⟩ : ∃ g, g = wr.heap.size := ⟨_, rfl⟩
      rw [← hgp]
      refine wp_named (fun w' => w'.heap[gp]? = some (.cells #[str p.1, str p.2] RP (0, 0)) ∧ Ext wr w') ⟨by rw [hgp]; exact heap_new wr _, (Ext.refl wr).alloc (Nat.le_refl _) _⟩ ?_
      clear hgp h1 h2
      intro wb HB
      obtain ⟨g0, g1⟩ := key_cells HB.out.1
      obtain ⟨r0, r1, r2⟩ := (HW.out.1.ext (HI.out.1.trans HB.out.2)).cells
      repeat' (first | go_at_call 145 | go_skip | go_guarded | go_step)
      refine (rhash_c wb h p.1 hk (by omega)).mono ?_
      rintro e w1 ⟨rfl, f1⟩
      have H1 : Hid (Ext wa w1 ∧ w1.ownsRow wa.heap.size U64 1 u7 (l.take i).length ((l.take i).map fun p => .int .u64 (h.hash p.1))) := Lib.hid ⟨HI.out.1.trans (HB.out.2.trans f1), row_ext HI.out.2 (HB.out.2.trans f1)⟩
      clear f1 g0 g1 r0 r1 r2
      have hl9 : (l.take i).length ≤ 100000 := by rw [List.length_take]; omega
      go_simp
      repeat' (first | (at_builtin; refine wpList_appE (W := wa) rfl (.tmp 16) (.tmp 21) _ rfl U64 1 8 Try.underlying225 infoU (by decide) _ _ _ rfl (row_ext H1.out.2 (ext_alloc (Ext.refl _) _)) (ext_alloc H1.out.1 _) _ 1 1 [.int .u64 (h.hash p.1)] rfl rfl (Seg.new _ [_] _ (by simp)) (by intro u hu; simp at hu; subst hu; rfl) (by unfold maxLen; omega) (by omega) ?_; intro v5 w5 hown5 hb5) | go_skip | go_guarded | go_step)
      have HX : Hid (Ext wa w5 ∧ w5.ownsRow wa.heap.size U64 1 v5 (l.take (i + 1)).length ((l.take (i + 1)).map fun p => .int .u64 (h.hash p.1))) := Lib.hid ⟨hb5, by rw [take_snoc HE.out.1, List.length_append, List.map_append]; exact hown5⟩
      clear hb5 hown5
      go_roundg (l.length - (i + 1))
      case measure => omega
      case rel => exact ⟨i + 1, by go_num, by omega, Nat.le_refl _, HX⟩
    · obtain rfl : i = l.length := by omega
      have hI := HI.out
      rw [List.take_length] at hI
      have HO := Lib.hid (of_succS h.hash (Hs.hash_lt hk) 12 (of_all h.hash (Hs.hash_lt hk) 12) wr _ u7 l 0 rfl (HP.out.below (HW.out.2.trans hI.1)) (Sl.of_own hI.2) h9)
      clear hI
      repeat' (first | go_at_call 146 | go_skip | go_guarded | go_step)
      refine HO.out.mono ?_
      rintro e w1 ⟨q, A, rfl, f1, hd⟩
      have hsz : w.heap.size ≤ q := Nat.le_trans (HW.out.2.trans HI.out.1).size hd.1
      have H1 := Lib.hid (And.intro (HW.out.2.trans (HI.out.1.trans f1)) (And.intro hsz hd.2))
      clear f1 hd hsz
      go_simp
      repeat' (first | go_skip | go_guarded | go_step)
      go_ret
      exact ⟨q, A, rfl, H1.out.1, H1.out.2⟩
theorem rof6_c (h : Hs) (hk : h.Ok) (w : World) (v : Value) (l : List Pr) (hP : PS w v l) (h9 : l.length ≤ 100000) (hq : ∀ q ∈ l, q.1.length ≤ 1000000) :
    Calls Try.prog 100 #[hsV h, v, .int .i64 0] w fun e w' => ∃ q, e = .returned (ptr q) ∧ Ext w w' ∧ DR h.hash w' 13 q l := by
  refine (rof6S_c h hk w v l hP h9 hq).mono ?_
  rintro e w' ⟨q, A, rfl, f, _, hA, hz, hE⟩
  exact ⟨q, rfl, f, A, hA, hz.bk, hE w' (Only.refl w'), hz.sl⟩
end Go.Proofs.Ytclcgelbcbnekaa
/- Contract: law 6's like: a node is just the document's trie. -/
namespace Go.Proofs.Ytclcgelbcbnekaa
open Go.RowKit Go.QS Go.QS.Nk
set_option linter.unusedVariables false
variable [Zero (Nat → Prop)]
set_option linter.unusedSectionVars false

def LikeOk (H : List UInt8 → Nat) (f : Nat) : Prop := ∀ (w : World) (g q : Nat) (l : List Pr), TR ND H w f g l → DR H w f q l → l.length ≤ 100000 →
    Calls Try.prog 99 #[ptr g, ptr q] w fun e w' => e = .returned (.bool true) ∧ Ext w w'
theorem keep1c {w w' : World} {a1 : Addr} {u1 : Value} (f : Ext w w') (h : w.cell? a1 = some u1) : w'.cell? a1 = some u1 := (f.cell (World.block_lt_of_cell? w _ h)).trans h
theorem blk_ext {w w' : World} {g : Nat} {A : Array Value} {T : TypeId} (f : Ext w w') (h : w.heap[g]? = some (.cells A T (0, 0))) : w'.heap[g]? = some (.cells A T (0, 0)) := (f.block g (heap_lt h)).trans h
theorem neqR (w : World) (p q : Pr) : (binOp .neq 51 (.agg #[str p.1, str p.2]) (.agg #[str q.1, str q.2])).run Try.prog w = .ok (.bool (decide (p ≠ q))) w := by
  obtain ⟨a, b⟩ := p
  obtain ⟨c, d⟩ := q
  simp only [go_sem]
  by_cases h1 : a = c <;> by_cases h2 : b = d <;> simp [h1, h2, go_sem]
set_option maxRecDepth 100000 in
set_option maxHeartbeats 2000000 in
theorem like_zero (H : List UInt8 → Nat) : LikeOk H 0 := by
  intro w g q l hT hD h9
  obtain ⟨A, v, hq, a0, a1, hP, _⟩ := hD
  obtain ⟨ow, pv, kv, hN⟩ := hT
  obtain ⟨c0, c1, c2, c3, c4, c5⟩ := hN.node.cells
  have HG : Hid (Bk ND w g l ∧ w.cell? ⟨g, 4, none⟩ = some (.bool true)) := Lib.hid ⟨⟨ow, pv, kv, hN⟩, c4⟩
  have HPV : Hid (w.cell? ⟨g, 2, none⟩ = some pv ∧ PS w pv l) := Lib.hid ⟨c2, hN.pairs⟩
  have HQ : Hid (w.heap[q]? = some (.cells A TT (0, 0)) ∧ A[0]? = some (.bool true) ∧ A[1]? = some v) := Lib.hid ⟨hq, a0, a1⟩
  have HP := Lib.hid hP
  obtain ⟨A1, C1, rfl, _, hn1, hC1, _⟩ := hP
  have hz := cell_at hq a0
  have HZ := Lib.hid hz
  clear c0 c1 c2 c3 c4 c5 hN hq a0 a1
  go_enter Try.func99, Try.ntmps99
  repeat' (go_not_at_region 1; (first | go_skip | go_guarded | go_step))
  go_region_held3 (fun w' => w'.cell? ⟨q, 0, none⟩ = some (.bool true))
    (first | exact keep1c k2.out HZ.out | exact keep1c (below_drewN (Ext.refl _) 1) HZ.out)
    (first
      | (go_at_call 58; refine (isb_c _ g true (keep1c (below_drewN (Ext.refl w) 1) HG.out.2)).mono ?_; rintro e x2 ⟨rfl, f2⟩; have k2 : Hid (Ext w x2) := Lib.hid (Ext.trans (below_drewN (Ext.refl _) 1) f2); clear f2))
  have H2 : Hid (Ext w x2) := k2
  clear hz
  obtain ⟨z0, z1⟩ : x2.cell? ⟨q, 0, none⟩ = some (.bool true) ∧ x2.cell? ⟨q, 1, none⟩ = some (.slice A1 l.length C1) := ⟨cell_at (blk_ext k2.out HQ.out.1) HQ.out.2.1, cell_at (blk_ext k2.out HQ.out.1) HQ.out.2.2⟩
  repeat' (first | go_at_call 38 | go_skip | go_guarded | go_step)
  refine (npairs_c x2 g pv l (keep1c k2.out HPV.out.1) (HPV.out.2.below k2.out) (by omega)).mono ?_
  rintro e x3 ⟨v3, rfl, o3, f3⟩
  have P3 := PS.of_own o3
  obtain ⟨A3, C3, rfl⟩ := own_slice o3
  have H3 : Hid (Ext w x3 ∧ PS x3 (.slice A3 l.length C3) l ∧ x3.heap[q]? = some (.cells A TT (0, 0))) := Lib.hid ⟨k2.out.trans f3, P3, blk_ext (k2.out.trans f3) HQ.out.1⟩
  obtain ⟨y0, y1⟩ : x3.cell? ⟨q, 0, none⟩ = some (.bool true) ∧ x3.cell? ⟨q, 1, none⟩ = some (.slice A1 l.length C1) := ⟨cell_at H3.out.2.2 HQ.out.2.1, cell_at H3.out.2.2 HQ.out.2.2⟩
  have hne0 : ((l.length : Int) != (l.length : Int)) = false := by simp
  clear z0 z1 o3 f3 P3
  go_simp
  repeat' (go_not_at_region 8; (first | go_skip | go_guarded | go_step))
  clear y0 y1
  go_loopg [39] l.length (fun gk v39 wr => ∃ i : Nat, v39 = .int .i64 i ∧ i ≤ l.length ∧ l.length - i ≤ gk ∧ Hid (Ext x3 wr))
  case atStart => exact ⟨0, rfl, Nat.zero_le _, by omega, Lib.hid (Ext.refl _)⟩
  case round =>
    obtain ⟨i, rfl, hi, hgk, HI⟩ := hrel
    rcases Nat.lt_or_ge i l.length with hlt | hge
    · have d1 : decide (i < l.length) = true := by simp [hlt]
      have hi1 : (i : Int) < (l.length : Int) := by omega
      obtain ⟨p, hp⟩ := get_of_lt l hlt
      obtain ⟨A', C', hA, _, _, _, hs⟩ := H3.out.2.1.below HI.out
      cases hA
      obtain ⟨b, o, rfl, h1, h2⟩ := seg_pair hs hp
      obtain ⟨A'', C'', hA, _, _, _, hs2⟩ := HP.out.below (H3.out.1.trans HI.out)
      cases hA
      obtain ⟨b', o', rfl, h1', h2'⟩ := seg_pair hs2 hp
      have y1 : wr.cell? ⟨q, 1, none⟩ = some (.slice (some ⟨b', o', none⟩) l.length C1) := cell_at (blk_ext HI.out H3.out.2.2) HQ.out.2.2
      have hne : ∀ w, (binOp .neq 51 (.agg #[str p.1, str p.2]) (.agg #[str p.1, str p.2])).run Try.prog w = .ok (.bool false) w := fun w => by rw [neqR]; simp
      clear hp hs hs2
      repeat' (go_not_at_region 10; (first | go_skip | go_guarded | go_step))
      go_quiet (fail)
      repeat' (first | go_skip | go_guarded | go_step)
      go_roundg (l.length - (i + 1))
      case measure => omega
      case rel => exact ⟨i + 1, by go_num, by omega, Nat.le_refl _, Lib.hid (below_drewN HI.out _)⟩
    · obtain rfl : i = l.length := by omega
      repeat' (first | go_skip | go_guarded | go_step)
      go_ret
      exact ⟨rfl, H3.out.1.trans HI.out⟩
end Go.Proofs.Ytclcgelbcbnekaa
