/- Contract: radix.Make, of its parts. -/
import Derived.Test.YtmpeniboccahdaaUj
import Derived.Test.YtmpeniboccahdaaJa
import Derived.Deep.LoopGhost
namespace Go.Proofs.Ytmpeniboccahdaa
open Go.RowKit Go.QS
set_option linter.unusedVariables false

set_option maxRecDepth 100000 in
set_option maxHeartbeats 2000000 in
theorem make_c (w : World) (lab val : List UInt8) (has : Bool) (vk : Value) (ps : List Nat) (ks : List RT) (hk : Sl w 1 vk (ps.length + 1) (.pointer none :: ptrs ps)) (hr : Reps NT w ps ks) (hp9 : ps.length ≤ 1000) :
    Calls Try.prog 20 #[str lab, .bool has, str val, vk] w fun e w' => ∃ g, e = .returned (ptr g) ∧ Rep NT w' g (RT.node lab (if has then some val else none) ks) ∧ Ext w w' := by
  obtain ⟨A, C, rfl, _, hn, hC, hs⟩ := hk
  obtain ⟨n, hn2⟩ : ∃ n, n = ps.length + 1 := ⟨_, rfl⟩
  have hn9 : n ≤ 1001 := by omega
  rw [← hn2] at hn ⊢
  have HN : Hid (n = ps.length + 1 ∧ Seg w A (.pointer none :: ptrs ps) ∧ Reps NT w ps ks) := Lib.hid ⟨hn2, hs, hr⟩
  clear hn2 hs hr
  obtain ⟨val', hval⟩ : ∃ v, v = (if has then some val else none) := ⟨_, rfl⟩
  have HV : Hid ((if has then some val else none) = val' ∧ has = val'.isSome ∧ (has = true → val = val'.getD [])) := Lib.hid (by cases has <;> simp [hval])
  clear hval
  go_enter Try.func20, Try.ntmps20
  repeat' (go_not_at_if 16; (first | go_skip | go_guarded | go_step))
  obtain ⟨wa, hwa⟩ : ∃ x, x = w.alloc (.cells #[str lab, .bool has, str [], .slice none 0 0, .pointer none] NT) := ⟨_, rfl⟩
  obtain ⟨g, hg⟩ : ∃ g, g = w.heap.size := ⟨_, rfl⟩
  have hnd : NodeAt NT wa g lab (if has then some [] else none) (.slice none 0 0) none := by
    have := NodeAt.new (lab := lab) (val := if has then some [] else none) (kv := .slice none 0 0) (ow := none) NT w hg
    rw [hwa]
    cases has <;> exact this
  have hE0 : Ext w wa := by rw [hwa]; exact (Ext.refl _).alloc (Nat.le_refl _) _
  have hwa' : w.alloc (.cells #[Value.string (bs lab), .bool has, .string ⟨#[]⟩, .slice none 0 0, .pointer none] NT) = wa := hwa.symm
  rw [hwa', ← hg]
  have H0 : Hid (NodeAt NT wa g lab (if has then some [] else none) (.slice none 0 0) none ∧ Ext w wa ∧ w.heap.size ≤ g) := Lib.hid ⟨hnd, hE0, by omega⟩
  clear hwa hwa' hg hnd hE0
  go_cut [9] (fun vx wx => Hid (vx = ptr g ∧ NodeAt NT wx g lab val' (.slice none 0 0) none ∧ Ext w wx))
  case first =>
    obtain ⟨h0, h1, h2⟩ := H0.out
    cases has with
    | false =>
      have hv := Lib.hid (show val' = none from HV.out.1.symm)
      repeat' (first | go_skip | go_guarded | go_step)
      go_meet
      exact Lib.hid ⟨rfl, by rw [hv.out]; exact h0, h1⟩
    | true =>
      have hv := Lib.hid (show val' = some val from HV.out.1.symm)
      have h0' : NodeAt NT wa g lab (some []) (.slice none 0 0) none := h0
      obtain ⟨c0, c1, c2, c3, c4⟩ := h0'.cells
      have cf := h0'.free 2
      clear h0
      repeat' (first | go_skip | go_guarded | go_step)
      go_meet
      exact Lib.hid ⟨rfl, by rw [hv.out]; exact heap_set h0' 2 _, h1.setCell (p := ⟨g, 2, none⟩) h2 _⟩
  case rest =>
  obtain ⟨hv9, hnd, hE⟩ := hcut.out
  subst hv9
  have H1 : Hid (NodeAt NT wc g lab val' (.slice none 0 0) none ∧ Ext w wc ∧ w.heap.size ≤ g) := Lib.hid ⟨hnd, hE, H0.out.2.2⟩
  clear hcut hnd hE H0
  repeat' (go_not_at_region 5; (first | go_skip | go_guarded | go_step))
  go_loopg [23] n (fun gk v23 wx => ∃ (i : Nat) (kv : Value), v23 = .int .i64 i ∧ i ≤ n ∧ n - i ≤ gk ∧ Hid (NodeAt NT wx g lab val' kv none ∧ wx.ownsRow (g + 1) 26 1 kv (ps.take (i - 1)).length (ptrs (ps.take (i - 1))) ∧ Ext w wx))
  case atStart => exact ⟨0, _, rfl, Nat.zero_le _, by omega, Lib.hid ⟨H1.out.1, by simpa using World.ownsRow_nil _ _ _ _, H1.out.2.1⟩⟩
  case round =>
    obtain ⟨i, kv, rfl, hin, hgk, HI⟩ := hrel
    rcases Nat.lt_or_ge i n with hlt | hge
    · have d1 : decide (i < n) = true := by simp [hlt]
      have hi1 : (i : Int) < (n : Int) := by omega
      obtain ⟨b, o, rfl, hcl⟩ := (HN.out.2.1.below HI.out.2.2) (by simp)
      rcases Nat.eq_zero_or_pos i with hi0 | hi0
      · subst hi0
        have hq : wr.cell? ⟨b, o, none⟩ = some (.pointer none) := hcl 0 _ rfl
        clear hcl
        repeat' (first | go_skip | go_guarded | go_step)
        go_roundg (n - 1)
        case measure => omega
        case rel => exact ⟨1, kv, by go_num, by omega, Nat.le_refl _, HI⟩
      · obtain ⟨j, hj⟩ : ∃ j, j = i - 1 := ⟨_, rfl⟩
        obtain ⟨p, hp⟩ := get_of_lt ps (show j < ps.length by have := HN.out.1; omega)
        have hq : wr.cell? ⟨b, o + i, none⟩ = some (ptr p) := hcl i _ (by
          rw [show i = j + 1 by omega, List.getElem?_cons_succ]
          exact ptrs_get hp)
        have HP := Lib.hid (And.intro hp hj)
        obtain ⟨nd, ow, eE⟩ := HI.out
        rw [← hj] at ow
        obtain ⟨Lj, hLj⟩ : ∃ L, L = ps.take j := ⟨_, rfl⟩
        have HLj := Lib.hid hLj
        rw [← hLj] at ow
        have hjl : Lj.length ≤ 1000 := by rw [hLj]; simp; omega
        obtain ⟨KA, kc, rfl⟩ := own_slice' ow
        obtain ⟨c0, c1, c2, c3, c4⟩ := nd.cells
        have HO : Hid (NodeAt NT wr g lab val' _ none ∧ wr.ownsRow (g + 1) 26 1 _ Lj.length (ptrs Lj) ∧ Ext w wr) := Lib.hid ⟨nd, ow, eE⟩
        have hsz : g + 1 ≤ (wr.alloc (.cells #[ptr p] 26)).heap.size := by have := nd.lt; simp; omega
        clear hcl hp hj HI nd ow eE c0 c1 c2 c4 hLj
        repeat' (first
          | (at_builtin; refine wpList_app rfl (.tmp 33) (.tmp 35) _ rfl (g + 1) 26 1 8 Try.underlying42 infoK (by decide) _ _ _ rfl (row_ext HO.out.2.1 ((Ext.refl _).alloc (Nat.le_refl _) _)) _ 1 1 [ptr p] rfl rfl (Seg.new _ [_] _ rfl) (by intro u hu; simp at hu; subst hu; rfl) (by unfold maxLen; omega) (by omega) hsz ?_
             intro v5 w5 hown5 hg5 _
             obtain ⟨A5, C5, rfl⟩ := own_slice' hown5
             have nd5 : NodeAt NT w5 g lab val' _ none := (hg5.block g (by have := HO.out.1.lt; simp; omega) (by
               intro e
               have hlt := HO.out.2.1.lt g e.symm
               omega)).trans (HO.out.1.ext ((Ext.refl _).alloc (Nat.le_refl _) _))
             have e5 : Ext w w5 := Below.grown (HO.out.2.2.alloc HO.out.2.2.size _) hg5 (by have := HO.out.2.2.size; simp; omega) (fun k hk => by
               have := HO.out.2.1.lt k hk
               have := H1.out.2.2
               omega)
             obtain ⟨x0, x1, x2, x3, x4⟩ := nd5.cells
             have cf := nd5.free 3
             have H5 := Lib.hid (And.intro hown5 (And.intro nd5 e5))
             clear hown5 hg5 nd5 e5 x0 x1 x2 x4)
          | go_skip | go_guarded | go_step)
        go_roundg (n - (i + 1))
        case measure => omega
        case rel =>
          refine ⟨i + 1, _, by go_num, by omega, Nat.le_refl _, Lib.hid ⟨H5.out.2.1.set3 _, ?_, H5.out.2.2.setCell (p := ⟨g, 3, none⟩) H1.out.2.2 _⟩⟩
          have e : ps.take (i + 1 - 1) = Lj ++ [p] := by
            rw [HLj.out]
            rw [show i + 1 - 1 = j + 1 by have := HP.out.2; omega]
            exact take_snoc HP.out.1
          rw [e, ptrs_append, List.length_append]
          exact row_set H5.out.1 ⟨g, 3, none⟩ _ (Nat.lt_succ_self _)
    · obtain rfl : i = n := by omega
      have d1 : decide (i < i) = false := by simp
      have e : ps.take (i - 1) = ps := List.take_of_length_le (by have := HN.out.1; omega)
      have hI := HI.out
      rw [e] at hI
      have HE : Hid (Rep NT wr g (RT.node lab val' ks) ∧ Ext w wr) := Lib.hid ⟨Rep.make (t := RT.node lab val' ks) hI.1 (Sl.of_own hI.2.1) (HN.out.2.2.ext hI.2.2), hI.2.2⟩
      clear hI e
      repeat' (first | go_skip | go_guarded | go_step)
      go_ret
      exact ⟨g, rfl, by rw [HV.out.1]; exact HE.out.1, HE.out.2⟩
end Go.Proofs.Ytmpeniboccahdaa
