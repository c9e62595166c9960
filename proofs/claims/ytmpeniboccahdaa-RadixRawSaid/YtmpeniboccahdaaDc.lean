/- Contract: drop below a node (no token). -/
import Derived.Test.YtmpeniboccahdaaMg
import Derived.Test.YtmpeniboccahdaaRj
namespace Go.Proofs.Ytmpeniboccahdaa
open Go.RowKit Go.QS
set_option linter.unusedVariables false

def DropOK (w : World) (g : Nat) (r : RT × Bool) (e : Ending) (w' : World) : Prop := ∃ g', e = .returned (.tuple #[ptr g', .bool r.2]) ∧ Ext w w' ∧ Rep NT w' g' r.1 ∧ (r.2 = false → g' = g)

set_option maxRecDepth 100000 in
set_option maxHeartbeats 1000000 in
theorem drop_nil (w : World) (g : Nat) (t : RT) (h : Rep NT w g t) (h9 : t.kids.length ≤ 256) :
    Calls Try.prog 46 #[ptr g, .pointer none, str []] w (DropOK w g (if t.val.isSome then (RT.node t.lab none t.kids, true) else (t, false))) := by
  have hH := Lib.hid h
  obtain ⟨kv, ow, ps, nd, sl, rp⟩ := h.open
  obtain ⟨c0, c1, c2, c3, c4⟩ := nd.cells
  have hgl := nd.lt
  have HD : Hid (NodeAt NT w g t.lab t.val kv ow ∧ Sl w 1 kv ps.length (ptrs ps) ∧ Reps NT w ps t.kids) := Lib.hid ⟨nd, sl, rp⟩
  have hps : ps.length ≤ 256 := by have := rp.1; omega
  clear h nd sl rp
  cases hv : t.val with
  | none =>
    rw [hv] at c1
    simp only [Option.isSome_none] at c1
    have HV := Lib.hid hv
    clear hv c2
    go_enter Try.func46, Try.ntmps46
    repeat' (first | go_skip | go_guarded | go_step)
    go_ret2
    exact ⟨g, rfl, Ext.refl _, hH.out, fun _ => rfl⟩
  | some u =>
    rw [hv] at c1
    simp only [Option.isSome_some] at c1
    have HV := Lib.hid hv
    clear hv c2
    go_enter Try.func46, Try.ntmps46
    repeat' (first | go_at_call 68 | go_skip | go_guarded | go_step)
    refine (own_c w g t.lab t.val kv ow ps HD.out.1 HD.out.2.1 (by omega)).mono ?_
    rintro e w1 ⟨g1, kv1, rfl, f1, n1, r1, hg1⟩
    obtain ⟨k0, k1, k2, k3, k4⟩ := n1.cells
    rw [HV.out] at k1 k2
    simp only [Option.isSome_some, Option.getD_some] at k1 k2
    have kf := n1.free
    have H1 : Hid (Ext w w1 ∧ NodeAt NT w1 g1 t.lab t.val kv1 none ∧ w1.ownsRow (g1 + 1) PT 1 kv1 ps.length (ptrs ps)) := Lib.hid ⟨f1, n1, r1⟩
    have hg1l := n1.lt
    clear f1 n1 r1 k0 k3 k4 c0 c1 c3 c4
    go_simp
    repeat' (first | go_skip | go_guarded | go_step)
    go_ret2
    have E2 : Ext w ((w1.setCell ⟨g1, 1, none⟩ (.bool false)).setCell ⟨g1, 2, none⟩ (str [])) := (H1.out.1.setCell hg1 _).setCell hg1 _
    refine ⟨g1, rfl, E2, ?_, fun h => by cases h⟩
    exact Rep.make (t := RT.node t.lab none t.kids) (ps := ps) (H1.out.2.1.set12n) (Sl.of_own (row_set (row_set H1.out.2.2 _ _ (Nat.lt_succ_self _)) _ _ (Nat.lt_succ_self _))) (HD.out.2.2.ext E2)

set_option maxRecDepth 100000 in
set_option maxHeartbeats 1000000 in
theorem drop_no (w : World) (N g : Nat) (t : RT) (c : UInt8) (key : List UInt8) (h : Rep NT w g t) (hk : Kd N t.kids) (hf : fH t.kids c.toNat = false) :
    Calls Try.prog 46 #[ptr g, .pointer none, str (c :: key)] w (DropOK w g (t, false)) := by
  have HF := Lib.hid (findk_c w g t c.toNat (UInt8.toNat_lt _) h hk.ne hk.heads (by have := hk.len; omega))
  rw [hf] at HF
  have hH := Lib.hid h
  have hidx : ∀ w, (Instr.index 9 (str (c :: key)) (.int .i64 0)).run Try.prog w = .ok (.int .u8 (c.toNat : Int)) w := idx_str Try.underlying9 (a := c :: key) (k := 0) (x := c) rfl
  have hke : (c :: key == ([] : List UInt8)) = false := by simp
  obtain ⟨q, hq⟩ : ∃ q, q = c :: key := ⟨_, rfl⟩
  rw [← hq] at hidx hke ⊢
  clear h hk hf hq
  go_enter Try.func46, Try.ntmps46
  repeat' (first | (go_at_call 58; refine HF.out.mono ?_; rintro e w1 ⟨rfl, rfl⟩; go_simp) | go_skip | go_guarded | go_step)
  go_ret2
  exact ⟨g, rfl, Ext.refl _, hH.out, fun _ => rfl⟩

set_option maxRecDepth 100000 in
set_option maxHeartbeats 2000000 in
theorem drop_go (w : World) (N g : Nat) (t kid : RT) (c : UInt8) (key : List UInt8) (r : RT × Bool) (h : Rep NT w g t) (hk : Kd N t.kids) (hf : fH t.kids c.toNat = true) (hkid : t.kids[fI t.kids c.toNat]? = some kid) (hkl : (c :: key).length ≤ 1000) (hN : N ≤ 1000)
    (hr1 : r.1.lab.length ≤ 1000) (hr2 : r.1.kids.length ≤ 256) (hr3 : ∀ k ∈ r.1.kids, k.lab.length ≤ 1000 ∧ k.kids.length ≤ 256)
    (ih : ∀ (w' : World) (g' : Nat), Rep NT w' g' kid → Calls Try.prog 46 #[ptr g', .pointer none, str ((c :: key).drop kid.lab.length)] w' (DropOK w' g' r)) :
    Calls Try.prog 46 #[ptr g, .pointer none, str (c :: key)] w (DropOK w g (if begD (c :: key) kid.lab then (if r.2 then (RT.node t.lab t.val (match tmend r.1 with | none => t.kids.take (fI t.kids c.toNat) ++ t.kids.drop (fI t.kids c.toNat + 1) | some k => t.kids.set (fI t.kids c.toNat) k), true) else (t, false)) else (t, false))) := by
  obtain ⟨RR, hRR⟩ : ∃ RR, RR = (if begD (c :: key) kid.lab then (if r.2 then (RT.node t.lab t.val (match tmend r.1 with | none => t.kids.take (fI t.kids c.toNat) ++ t.kids.drop (fI t.kids c.toNat + 1) | some k => t.kids.set (fI t.kids c.toNat) k), true) else (t, false)) else (t, false)) := ⟨_, rfl⟩
  rw [← hRR]
  have HF := Lib.hid (findk_c w g t c.toNat (UInt8.toNat_lt _) h hk.ne hk.heads (by have := hk.len; omega))
  rw [hf] at HF
  have hbr := hk.br (List.mem_of_getElem? hkid)
  have hlen := hk.len
  obtain ⟨i, hi⟩ : ∃ i, i = fI t.kids c.toNat := ⟨_, rfl⟩
  rw [← hi] at HF hkid hRR
  have hH := Lib.hid h
  obtain ⟨kv, ow, ps, nd, sl, rp⟩ := h.open
  have hik := (List.getElem?_eq_some_iff.1 hkid).1
  have hps : ps.length ≤ 256 := by have := rp.1; omega
  have hip : i < ps.length := by have := rp.1; omega
  obtain ⟨p, hp⟩ := get_of_lt ps hip
  have hpk := rp.2 i p kid hp hkid
  obtain ⟨kA, kC, rfl, hkc⟩ : ∃ A C, kv = .slice A ps.length C ∧ ∃ b o, A = some ⟨b, o, none⟩ ∧ w.cell? ⟨b, o + i, none⟩ = some (ptr p) := by
    obtain ⟨A, C, rfl, _, _, _, hs⟩ := sl
    obtain ⟨b, o, hA, hc⟩ := hs (fun e => by have := ptrs_get hp; rw [e] at this; simp at this)
    exact ⟨A, C, rfl, b, o, hA, hc i _ (ptrs_get hp)⟩
  obtain ⟨b, o, rfl, hc1⟩ := hkc
  have H0 : Hid (NodeAt NT w g t.lab t.val (.slice (some ⟨b, o, none⟩) ps.length kC) ow ∧ Sl w 1 (.slice (some ⟨b, o, none⟩) ps.length kC) ps.length (ptrs ps) ∧ Reps NT w ps t.kids) := Lib.hid ⟨nd, sl, rp⟩
  have c3 := nd.cells.2.2.2.1
  have hkl0 : w.cell? ⟨p, 0, none⟩ = some (str kid.lab) := by
    obtain ⟨_, _, _, n', _, _⟩ := hpk.open
    exact n'.cells.1
  have hi1 : (i : Int) < (ps.length : Int) := by omega
  have hidx : ∀ w, (Instr.index 9 (str (c :: key)) (.int .i64 0)).run Try.prog w = .ok (.int .u8 (c.toNat : Int)) w := idx_str Try.underlying9 (a := c :: key) (k := 0) (x := c) rfl
  have hke : (c :: key == ([] : List UInt8)) = false := by simp
  have IH := Lib.hid ih
  have HP := Lib.hid hpk
  have HB := Lib.hid hbr
  have HR := Lib.hid (And.intro hr1 (And.intro hr2 hr3))
  have hll : kid.lab.length ≤ 1000 := by have := hbr.2.1; omega
  obtain ⟨q, hq⟩ : ∃ q, q = c :: key := ⟨_, rfl⟩
  rw [← hq] at IH hidx hke hkl hRR ⊢
  obtain ⟨r1, rb⟩ := r
  simp only at HR hRR
  have HRR := Lib.hid hRR
  have HI := Lib.hid hi
  have Hp := Lib.hid hp
  clear h hk hf hi hlen nd sl rp hkid hpk hbr ih hq hp hik hr1 hr2 hr3 hRR
  go_enter Try.func46, Try.ntmps46
  repeat' (first | (go_at_call 58; refine HF.out.mono ?_; rintro e w1 ⟨rfl, rfl⟩; go_simp) | go_at_call 59 | go_skip | go_guarded | go_step)
  refine (cutD_c w q kid.lab (by omega) (by omega)).mono ?_
  rintro e w1 ⟨rfl, rfl⟩
  cases hcb : begD q kid.lab with
  | false =>
    have HX : Hid (RR = (t, false)) := Lib.hid (by rw [HRR.out, hcb]; rfl)
    clear hcb
    simp only [Bool.false_eq_true, if_false]
    go_simp
    repeat' (first | go_skip | go_guarded | go_step)
    go_ret2
    rw [HX.out]
    exact ⟨g, rfl, Ext.refl _, hH.out, fun _ => rfl⟩
  | true =>
    have HCB := Lib.hid hcb
    clear hcb
    simp only [if_true]
    go_simp
    repeat' (first | go_at_call 46 | go_skip | go_guarded | go_step)
    refine (IH.out w p HP.out).mono ?_
    rintro e w3 ⟨g3, rfl, E3, R3, hsame⟩
    cases rb with
    | false =>
      have H3 : Hid (Ext w w3) := Lib.hid E3
      have HX : Hid (RR = (t, false)) := Lib.hid (by rw [HRR.out, HCB.out]; rfl)
      clear E3 R3 hsame
      go_simp
      repeat' (first | go_skip | go_guarded | go_step)
      go_ret2
      rw [HX.out]
      exact ⟨g, rfl, H3.out, hH.out.ext H3.out, fun _ => rfl⟩
    | true =>
      have H3 : Hid (Ext w w3 ∧ Rep NT w3 g3 r1) := Lib.hid ⟨E3, R3⟩
      have HO := Lib.hid (own_c w3 g t.lab t.val (.slice (some ⟨b, o, none⟩) ps.length kC) ow ps (H0.out.1.ext E3) (H0.out.2.1.below E3) (by omega))
      clear E3 R3 hsame
      go_simp
      repeat' (first | go_at_call 68 | go_skip | go_guarded | go_step)
      refine HO.out.mono ?_
      rintro e w4 ⟨g4, kv4, rfl, f4, n4, r4, hg4⟩
      obtain ⟨A5, C5, rfl⟩ := own_slice r4
      have H4 : Hid (Ext w3 w4 ∧ NodeAt NT w4 g4 t.lab t.val (.slice A5 ps.length C5) none ∧ w4.ownsRow (g4 + 1) PT 1 (.slice A5 ps.length C5) ps.length (ptrs ps)) := Lib.hid ⟨f4, n4, r4⟩
      clear f4 n4 r4
      go_simp
      repeat' (first | go_at_call 74 | go_skip | go_guarded | go_step)
      refine (mend_c w3 w4 g3 r1 H3.out.2 H4.out.1 HR.out.1 HR.out.2.2 HR.out.2.1).mono ?_
      rintro e w5 ⟨v5, rfl, f5, hnone, hsome⟩
      have n5 := H4.out.2.1.ext f5
      have r5 := row_ext H4.out.2.2 f5
      have hw34 := H3.out.1.size
      have e3 := n5.cells.2.2.2.1
      have ef := n5.free 3
      have hg5 := n5.lt
      have hwg : w.heap.size ≤ g4 := by omega
      have H5 : Hid (Ext w w5 ∧ Ext w4 w5 ∧ NodeAt NT w5 g4 t.lab t.val (.slice A5 ps.length C5) none ∧ w5.ownsRow (g4 + 1) PT 1 (.slice A5 ps.length C5) ps.length (ptrs ps)) := Lib.hid ⟨Ext.trans H3.out.1 (Ext.trans H4.out.1 f5), f5, n5, r5⟩
      cases hm : tmend r1 with
      | none =>
        obtain rfl := hnone hm
        have HX : Hid (RR = (RT.node t.lab t.val (t.kids.take i ++ t.kids.drop (i + 1)), true)) := Lib.hid (by rw [HRR.out, HCB.out, hm]; rfl)
        clear hnone hsome hm f5 n5 r5
        go_simp
        repeat' (first | go_at_call 75 | go_skip | go_guarded | go_step)
        have hdel := delete_c (g4 + 1) w5 _ ps i H5.out.2.2.2 hip (by omega)
        rw [show (((i + 1 : Nat) : Int)) = (i : Int) + 1 by omega] at hdel
        obtain ⟨qs, hqs⟩ : ∃ qs, qs = ps.take i ++ ps.drop (i + 1) := ⟨_, rfl⟩
        rw [← hqs] at hdel
        have HQS := Lib.hid hqs
        clear hqs
        refine hdel.mono ?_
        rintro e w6 ⟨v6, rfl, r6, g6, ho6⟩
        obtain ⟨A6, C6, rfl⟩ := own_slice r6
        have hb6 := World.ownsRow.lt H5.out.2.2.2
        have hne6 : some g4 ≠ (Value.slice A5 ps.length C5).ownBlock := fun e => by have := (hb6 _ e.symm).1; omega
        have n6 : NodeAt NT w6 g4 t.lab t.val (.slice A5 ps.length C5) none := (g6.block g4 hg5 hne6).trans H5.out.2.2.1
        have E6 : Ext w w6 := H5.out.1.grown g6 H5.out.1.size (fun k hk => by have := (hb6 _ hk).1; omega)
        have d3 := n6.cells.2.2.2.1
        have df := n6.free 3
        have hg6 := n6.lt
        have H6 : Hid (Ext w w6 ∧ NodeAt NT w6 g4 t.lab t.val (.slice A5 ps.length C5) none ∧ w6.ownsRow (g4 + 1) PT 1 (.slice A6 qs.length C6) qs.length (ptrs qs)) := Lib.hid ⟨E6, n6, r6⟩
        clear hdel r6 g6 ho6 hb6 hne6 n6 E6 e3 ef
        go_simp
        repeat' (first | go_skip | go_guarded | go_step)
        go_ret2
        have E7 : Ext w (w6.setCell ⟨g4, 3, none⟩ (.slice A6 qs.length C6)) := H6.out.1.setCell hwg _
        rw [HX.out]
        refine ⟨g4, rfl, E7, ?_, fun h => by cases h⟩
        have hrp := (H0.out.2.2.ext E7).erase i
        rw [← HQS.out] at hrp
        exact Rep.make (t := RT.node t.lab t.val (t.kids.take i ++ t.kids.drop (i + 1))) (ps := qs) (H6.out.2.1.set3 _) (Sl.of_own (row_set H6.out.2.2 _ _ (Nat.lt_succ_self _))) hrp
      | some k =>
        obtain ⟨g5, rfl, R5⟩ := hsome k hm
        have HX : Hid (RR = (RT.node t.lab t.val (t.kids.set i k), true)) := Lib.hid (by rw [HRR.out, HCB.out, hm]; rfl)
        have HR5 := Lib.hid R5
        obtain ⟨B5, rfl, hb1, hb2, ⟨u5, hu5⟩, hf5, hset⟩ := ownsRow_set1 (p := g5) H5.out.2.2.2 hip
        have hb4 : B5 < w4.heap.size := (World.ownsRow.lt H4.out.2.2 B5 rfl).2
        have hu5' : w5.cell? ⟨B5, 0 + i, none⟩ = some u5 := by rw [Nat.zero_add]; exact hu5
        have hf5' : w5.frozen? ⟨B5, 0 + i, none⟩ = false := by rw [Nat.zero_add]; exact hf5
        have HSET := Lib.hid hset
        clear hnone hsome hm f5 n5 r5 R5 hset
        go_simp
        repeat' (first | go_skip | go_guarded | go_step)
        go_ret2
        have E7 : Ext w (w5.setCell ⟨B5, i, none⟩ (ptr g5)) := H5.out.1.setCell (show w.heap.size ≤ B5 by omega) _
        rw [HX.out]
        refine ⟨g4, rfl, E7, ?_, fun h => by cases h⟩
        have R7 : Rep NT (w5.setCell ⟨B5, i, none⟩ (ptr g5)) g5 k := HR5.out _ ((Ext.trans H4.out.1 H5.out.2.1).setCell (show w3.heap.size ≤ B5 by omega) _) fun j h1 _ => Below.heap_setCell w5 ⟨B5, i, none⟩ (ptr g5) j (show j ≠ B5 by omega)
        exact Rep.make (t := RT.node t.lab t.val (t.kids.set i k)) (ps := ps.set i g5) (NodeAt.far H5.out.2.2.1 (show B5 ≠ g4 by omega)) (by rw [List.length_set]; have := Sl.of_own HSET.out; exact this) ((H0.out.2.2.ext E7).set R7)
end Go.Proofs.Ytmpeniboccahdaa
