/- Contracts: the document's trie of pairs; a hasher as the document has it. -/
import Derived.Test.YtbmakajadelckaaFg
set_option linter.unusedVariables false
set_option linter.unusedSimpArgs false
namespace Go.Proofs.Ytbmakajadelckaa
open Go.RowKit Go.QS Go.QS.Nk
set_option linter.unusedVariables false

theorem of_all (H : List UInt8 → Nat) (hH : ∀ s, H s < 18446744073709551616) : ∀ f, OfOk H f
  | 0 => of_zero H
  | f + 1 => of_succ H hH f (of_all H hH f)
abbrev RH : TypeId := 93
def RhAt (w : World) (g : Nat) (h : Hs) : Prop := w.heap[g]? = some (.cells #[.int .u64 h.k0, .int .u64 h.k1, .int .u64 h.mask] RH (0, 0))
theorem RhAt.ext {w w' : World} {g : Nat} {h : Hs} (H : RhAt w g h) (f : Ext w w') : RhAt w' g h := (f.block g (heap_lt H)).trans H
theorem RhAt.cells {w : World} {g : Nat} {h : Hs} (H : RhAt w g h) : w.cell? ⟨g, 0, none⟩ = some (.int .u64 h.k0) ∧ w.cell? ⟨g, 1, none⟩ = some (.int .u64 h.k1) ∧ w.cell? ⟨g, 2, none⟩ = some (.int .u64 h.mask) := by
  unfold RhAt at H; simp [World.cell?, H]
set_option maxRecDepth 100000 in
set_option maxHeartbeats 2000000 in
theorem own6_c (w : World) (h : Hs) : Calls Try.prog 72 #[hsV h] w fun e w' => e = .returned (hsV h) ∧ Ext w w' := by
  obtain ⟨a0, a1, mk⟩ := h
  go_enter Try.func72, Try.ntmps72
  repeat' (first | go_skip | go_guarded | go_step)
  (try simp only [Exit.inBlock, Exit.then])
  refine bodyPost_ret_by (results_cell_row rfl _ _ _ _ _ _ _ rfl (heap_alloc2_new _ _ _) Try.underlying93 rfl (by kernel_rfl)) rfl ?_
  exact ⟨rfl, ((Ext.refl w).alloc (Nat.le_refl _) _).alloc (by simp) _⟩
set_option maxRecDepth 100000 in
set_option maxHeartbeats 2000000 in
theorem rof6_c (h : Hs) (hk : h.Ok) (w : World) (v : Value) (l : List Pr) (hP : PS w v l) (h9 : l.length ≤ 100000) (hq : ∀ q ∈ l, q.1.length ≤ 1000000) :
    Calls Try.prog 45 #[hsV h, v, .int .i64 0] w fun e w' => ∃ q, e = .returned (ptr q) ∧ Ext w w' ∧ DR h.hash w' 13 q l := by
  have HP := Lib.hid hP
  obtain ⟨A, C, rfl, _, hn, hC, _⟩ := hP
  have HQ := Lib.hid hq
  clear hq
  go_enter Try.func45, Try.ntmps45
  repeat' (go_not_at_region 3; (first | go_skip | go_guarded | go_step))
  obtain ⟨g, hg⟩ : ∃ g, g = w.heap.size := ⟨_, rfl⟩
  rw [← hg]
  refine wp_named (fun w' => RhAt w' g h ∧ Ext w w') ⟨by rw [hg]; exact heap_new w _, (Ext.refl w).alloc (Nat.le_refl _) _⟩ ?_
  have HG := Lib.hid hg
  clear hg
  intro wa HW
  go_loopg [7, 12] l.length (fun gk v7 v12 wr => ∃ i : Nat, v12 = .int .i64 i ∧ i ≤ l.length ∧ l.length - i ≤ gk ∧ Hid (Ext wa wr ∧ wr.ownsRow wa.heap.size U64 1 v7 (l.take i).length ((l.take i).map fun p => .int .u64 (h.hash p.1))))
  case atStart => exact ⟨0, rfl, Nat.zero_le _, by omega, Lib.hid ⟨Ext.refl _, World.ownsRow_nil _ _ _ _⟩⟩
  case round =>
    obtain ⟨i, rfl, hi, hgk, HI⟩ := hrel
    rcases Nat.lt_or_ge i l.length with hlt | hge
    · have d1 : decide (i < l.length) = true := by simp [hlt]
      have hi1 : (i : Int) < (l.length : Int) := by omega
      obtain ⟨p, hp⟩ := get_of_lt l hlt
      obtain ⟨A', C', hA, _, _, _, hs⟩ := HP.out.below (HW.out.2.trans HI.out.1)
      cases hA
      obtain ⟨b, o, rfl, h1, h2⟩ := seg_pair hs hp
      have hpl := HQ.out p (List.mem_of_getElem? hp)
      have HE := Lib.hid (And.intro hp hpl)
      clear hs hp
      repeat' (go_not_at_region 5; (first | go_skip | go_guarded | go_step))
      obtain ⟨gp, hgp⟩ : ∃ g, g = wr.heap.size := ⟨_, rfl⟩
      rw [← hgp]
      refine wp_named (fun w' => w'.heap[gp]? = some (.cells #[str p.1, str p.2] RP (0, 0)) ∧ Ext wr w') ⟨by rw [hgp]; exact heap_new wr _, (Ext.refl wr).alloc (Nat.le_refl _) _⟩ ?_
      clear hgp h1 h2
      intro wb HB
      obtain ⟨g0, g1⟩ := key_cells HB.out.1
      obtain ⟨r0, r1, r2⟩ := (HW.out.1.ext (HI.out.1.trans HB.out.2)).cells
      repeat' (first | go_at_call 79 | go_skip | go_guarded | go_step)
      refine (rhash_c wb h p.1 hk (by omega)).mono ?_
      rintro e w1 ⟨rfl, f1⟩
      have H1 : Hid (Ext wa w1 ∧ w1.ownsRow wa.heap.size U64 1 u7 (l.take i).length ((l.take i).map fun p => .int .u64 (h.hash p.1))) := Lib.hid ⟨HI.out.1.trans (HB.out.2.trans f1), row_ext HI.out.2 (HB.out.2.trans f1)⟩
      clear f1 g0 g1 r0 r1 r2
      have hl9 : (l.take i).length ≤ 100000 := by rw [List.length_take]; omega
      go_simp
      repeat' (first | (at_builtin; refine wpList_appE (W := wa) rfl (.tmp 16) (.tmp 21) _ rfl U64 1 8 Try.underlying145 infoU (by decide) _ _ _ rfl (row_ext H1.out.2 (ext_alloc (Ext.refl _) _)) (ext_alloc H1.out.1 _) _ 1 1 [.int .u64 (h.hash p.1)] rfl rfl (Seg.new _ [_] _ (by simp)) (by intro u hu; simp at hu; subst hu; rfl) (by unfold maxLen; omega) (by omega) ?_; intro v5 w5 hown5 hb5) | go_skip | go_guarded | go_step)
      have HX : Hid (Ext wa w5 ∧ w5.ownsRow wa.heap.size U64 1 v5 (l.take (i + 1)).length ((l.take (i + 1)).map fun p => .int .u64 (h.hash p.1))) := Lib.hid ⟨hb5, by rw [take_snoc HE.out.1, List.length_append, List.map_append]; exact hown5⟩
      clear hb5 hown5
      go_roundg (l.length - (i + 1))
      case measure => omega
      case rel => exact ⟨i + 1, by go_num, by omega, Nat.le_refl _, HX⟩
    · obtain rfl : i = l.length := by omega
      have hI := HI.out
      rw [List.take_length] at hI
      have HO := Lib.hid (of_all h.hash (Hs.hash_lt hk) 13 wr _ u7 l 0 rfl (HP.out.below (HW.out.2.trans hI.1)) (Sl.of_own hI.2) h9 (fun e => by cases e))
      clear hI
      repeat' (first | go_at_call 80 | go_skip | go_guarded | go_step)
      refine HO.out.mono ?_
      rintro e w1 ⟨q, rfl, f1, hd⟩
      have H1 := Lib.hid (And.intro (HW.out.2.trans (HI.out.1.trans f1)) (hd w1 (Only.refl w1)))
      clear f1 hd
      go_simp
      repeat' (first | go_skip | go_guarded | go_step)
      go_ret
      exact ⟨q, rfl, H1.out.1, H1.out.2⟩
end Go.Proofs.Ytbmakajadelckaa
