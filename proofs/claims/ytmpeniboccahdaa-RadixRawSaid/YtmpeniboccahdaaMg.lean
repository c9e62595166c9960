/- Texts joined. -/
import Derived.Test.YtmpeniboccahdaaRd
import Derived.Shelf.SlicesQ.Reverse
import Derived.Lib.RowBridge
import Derived.Shelf.SlicesE.Delete
import Derived.Test.YtmpeniboccahdaaMc
import Derived.Test.YtmpeniboccahdaaMf
import Derived.Deep.RegionWith
import Derived.Deep.DeepCutAuto
import Derived.Deep.RegionHeld3
import Derived.Test.YtmpeniboccahdaaRf
/- Contract: slices.Delete of one kid. -/
namespace Go.Proofs.Ytmpeniboccahdaa
open Go.RowKit Go.QS Go.Shelf Go.Sort
set_option linter.unusedVariables false

def delRen : Go.Shelf.Ren := ⟨fun | 45 => 75 | x => x, fun | 0 => 0 | 3 => 3 | 4 => 4 | 22 => 42 | 23 => 26 | x => x, fun x => x⟩

theorem delLay : SlLaysE.n45 Try.prog delRen := {
  mixed := by kernel_rfl
  f45 := ⟨Try.f75.name, by decide, by kernel_rfl⟩
  t0 := Try.underlying0
  a0 := Try.isAgg0
  z0 := Try.sizeOf0
  v0 := Try.zeroValue0
  t3 := Try.underlying3
  a3 := Try.isAgg3
  z3 := Try.sizeOf3
  v3 := Try.zeroValue3
  t4 := Try.underlying4
  a4 := Try.isAgg4
  z4 := Try.sizeOf4
  v4 := Try.zeroValue4
  t22 := Try.underlying42
  a22 := Try.isAgg42
  z22 := Try.sizeOf42
  v22 := Try.zeroValue42
  a23 := Try.isAgg26
  z23 := Try.sizeOf26 }

def encN (o : Option Nat) : Value := .pointer (o.map fun g => ⟨g, 0, none⟩)
theorem encN_some (l : List Nat) : (l.map some).map encN = ptrs l := by
  simp only [List.map_map, ptrs]
  exact List.map_congr_left fun g _ => rfl

theorem delete_c (base : Nat) (w : World) (v : Value) (ps : List Nat) (i : Nat) (h : w.ownsRow base PT 1 v ps.length (ptrs ps)) (hi : i < ps.length) (h9 : ps.length ≤ 1000000000) :
    Calls Try.prog 75 #[v, .int .i64 i, .int .i64 ((i + 1 : Nat) : Int)] w fun e w' => ∃ v', e = .returned v' ∧ w'.ownsRow base PT 1 v' (ps.take i ++ ps.drop (i + 1)).length (ptrs (ps.take i ++ ps.drop (i + 1))) ∧ w.grownBy w' v.ownBlock ∧ v'.ownBlock = v.ownBlock := by
  rcases h.2 with ⟨rfl, h0⟩ | ⟨g, cap, cur, rfl, hg, hh, hnc, hcm, hsz, htk⟩
  · omega
  · obtain ⟨d, hd⟩ : ∃ d : Array (Option Nat), d = (ps.map some).toArray := ⟨_, rfl⟩
    have hdl : d.size = ps.length := by rw [hd]; simp
    have hdt : d.toList = ps.map some := by rw [hd]
    have hH : Holds encN w g 0 d := by
      intro j hj
      refine ⟨?_, by simp [World.frozen?, hh]⟩
      rw [Nat.zero_add, seg_of_heap hh, ← Array.getElem?_toList]
      have hj' : j < ps.length := by omega
      have e1 : (ptrs ps)[j]? = cur.toList[j]? := by rw [← htk, List.getElem?_take_of_lt (by omega)]
      rw [← e1, getElem!_pos d j hj]
      simp [ptrs, hd, encN, List.getElem?_eq_getElem hj']
    obtain ⟨i0, z0, hi0, hz0, hz1, hz2, hz3⟩ := infoK
    have hc := AnyE.slices_Delete delLay encN (fun _ => rfl) none Try.zeroValue26 i0 hi0 hz1 g 0 cap i (i + 1) d w hH (by omega) (by unfold maxLen at hcm; omega) (by omega) (by omega)
    change Calls Try.prog 75 #[.slice (some ⟨g, 0, none⟩) d.size cap, .int .i64 i, .int .i64 ((i + 1 : Nat) : Int)] w _ at hc
    rw [hdl] at hc
    refine hc.mono ?_
    rintro e w' ⟨rfl, n, rfl⟩
    obtain ⟨nl, hnl⟩ : ∃ nl, nl = d.toList.take i ++ d.toList.drop (i + 1) ++ List.replicate (i + 1 - i) (none : Option Nat) := ⟨_, rfl⟩
    have hnlen : nl.length = ps.length := by rw [hnl, hdt]; simp; omega
    have hw : putRow encN (Sort.ahead w n) g 0 nl.toArray = (w.drewN n).setCells g 0 (nl.map encN) := Lib.putRow_eq_setCells encN w g 0 d nl n hH (by rw [hnlen, hdl])
    rw [← hnl, hw]
    have hcl : nl.map encN = ptrs (ps.take i ++ ps.drop (i + 1)) ++ [encN none] := by
      rw [hnl, hdt, show i + 1 - i = 1 by omega, List.map_append, List.map_append, ← List.map_take, ← List.map_drop, encN_some, encN_some, ptrs_append]
      rfl
    have hkl : (ps.take i ++ ps.drop (i + 1)).length = ps.length - 1 := by simp; omega
    obtain ⟨c1, k1, k2, k3⟩ := heap_setCells g PT (0, 0) (nl.map encN) 0 (w.drewN n) cur hh (by simp [hnlen]; omega)
    refine ⟨.slice (some ⟨g, 0, none⟩) (ps.length - 1) cap, by rw [show ps.length - (i + 1 - i) = ps.length - 1 by omega], ?_, World.grownBy.trans (grown_ext' (below_drewN (Ext.refl w) n)) (grown_setCells g _ _ _), rfl⟩
    rw [hkl]
    refine ⟨by rw [ptrs_length, hkl]; simp, .inr ⟨g, cap, c1, rfl, hg, k1, by omega, hcm, by omega, ?_⟩⟩
    rw [k3, List.take_zero, List.nil_append, hcl]
    rw [List.append_assoc, List.take_left' (by rw [ptrs_length, hkl]; simp)]
end Go.Proofs.Ytmpeniboccahdaa
/- Contract: what is left of a branch (no token). -/
namespace Go.Proofs.Ytmpeniboccahdaa
open Go.RowKit Go.QS
set_option linter.unusedVariables false

/-- What mend hands back: what stood ahead (in w0) and what is new suffice for it. -/
def MendOK (w0 w : World) (o : Option RT) (e : Ending) (w' : World) : Prop := ∃ vv, e = .returned vv ∧ Ext w w' ∧ (o = none → vv = .pointer none) ∧
  ∀ k, o = some k → ∃ g', vv = ptr g' ∧ ∀ x : World, Ext w0 x → (∀ j, w.heap.size ≤ j → j < w'.heap.size → x.heap[j]? = w'.heap[j]?) → Rep NT x g' k

theorem row_eq {w w' : World} {base : Nat} {e : TypeId} {k n : Nat} {v : Value} {xs : List Value} (h : w.ownsRow base e k v n xs) (he : ∀ j, base ≤ j → j < w.heap.size → w'.heap[j]? = w.heap[j]?) : w'.ownsRow base e k v n xs := by
  refine ⟨h.1, ?_⟩
  rcases h.2 with h | ⟨g, cap, cur, h1, h2, h3, h4⟩
  · exact .inl h
  · exact .inr ⟨g, cap, cur, h1, h2, (he g h2 (heap_lt h3)).trans h3, h4⟩

set_option maxRecDepth 100000 in
set_option maxHeartbeats 1000000 in
theorem mend_c (w0 w : World) (g : Nat) (t : RT) (h0 : Rep NT w0 g t) (hE : Ext w0 w) (hl : t.lab.length ≤ 1000) (hk : ∀ k ∈ t.kids, k.lab.length ≤ 1000 ∧ k.kids.length ≤ 256) (hk9 : t.kids.length ≤ 256) :
    Calls Try.prog 74 #[ptr g, .pointer none] w (MendOK w0 w (tmend t)) := by
  have h := h0.ext hE
  have hH := Lib.hid h0
  have HE := Lib.hid hE
  obtain ⟨kv0, ow0, ps0, nd0, sl0, rp0⟩ := h0.open
  obtain ⟨kv, ow, ps, nd, sl, rp⟩ : ∃ kv ow ps, NodeAt NT w g t.lab t.val kv ow ∧ Sl w 1 kv ps.length (ptrs ps) ∧ Reps NT w0 ps t.kids := ⟨kv0, ow0, ps0, nd0.ext hE, sl0.below hE, rp0⟩
  obtain ⟨A, C, rfl, h1, h2, h3, hs⟩ := sl
  obtain ⟨n, hn⟩ : ∃ n, n = ps.length := ⟨_, rfl⟩
  obtain ⟨c0, c1, c2, c3, c4⟩ := nd.cells
  have hgl := nd.lt
  have HD : Hid (NodeAt NT w g t.lab t.val (.slice A ps.length C) ow ∧ Seg w A (ptrs ps) ∧ Reps NT w0 ps t.kids ∧ n = ps.length) := Lib.hid ⟨nd, hs, rp, hn⟩
  have hn9 : n ≤ 256 := by have := rp.1; omega
  rw [← hn] at c3
  have HK := Lib.hid hk
  clear h h0 hE nd0 sl0 rp0 nd hs rp h1 h2 h3 hn hk
  cases hv : t.val with
  | some u =>
    rw [hv] at c1
    simp only [Option.isSome_some] at c1
    have HM : Hid (tmend t = some t) := Lib.hid (by unfold tmend; rw [hv]; simp)
    clear hv c2
    go_enter Try.func74, Try.ntmps74
    repeat' (first | go_skip | go_guarded | go_step)
    go_ret
    refine ⟨_, rfl, Ext.refl _, fun e => ?_, fun k e => ?_⟩
    · rw [HM.out] at e; cases e
    · rw [HM.out] at e; cases e; exact ⟨g, rfl, fun x hx _ => hH.out.ext hx⟩
  | none =>
    rw [hv] at c1
    simp only [Option.isSome_none] at c1
    have HV := Lib.hid hv
    clear hv c2
    rcases Nat.lt_or_ge n 2 with hlt | hge
    · have d1 : decide (2 ≤ n) = false := by simp; omega
      have d2 : decide ((2 : Int) ≤ (n : Int)) = false := decide_eq_false (by omega)
      cases ps with
      | nil =>
        have hn0 : n = 0 := HD.out.2.2.2
        have hkn : t.kids = [] := List.eq_nil_of_length_eq_zero HD.out.2.2.1.1.symm
        have HM : Hid (tmend t = none) := Lib.hid (by unfold tmend; rw [HV.out, hkn]; simp)
        subst hn0
        clear hkn
        go_enter Try.func74, Try.ntmps74
        repeat' (first | go_skip | go_guarded | go_step)
        go_ret
        refine ⟨_, rfl, Ext.refl _, fun e => rfl, fun k e => ?_⟩
        rw [HM.out] at e; cases e
      | cons p qs =>
        cases hkk : t.kids with
        | nil => have := HD.out.2.2.1.1; rw [hkk] at this; cases this
        | cons k r =>
          have hn1 : n = 1 := by have := HD.out.2.2.2; simp at this; omega
          have hr : r = [] := by have h1 := HD.out.2.2.1.1; have h2 := HD.out.2.2.2; rw [hkk] at h1; simp at h1 h2; exact List.eq_nil_of_length_eq_zero (by omega)
          subst hr
          have HM : Hid (tmend t = some (RT.node (t.lab ++ k.lab) k.val k.kids)) := Lib.hid (by unfold tmend; rw [HV.out, hkk]; simp)
          have hkr := HD.out.2.2.1.2 0 p k rfl (by rw [hkk]; rfl)
          obtain ⟨hkl, hkc⟩ := HK.out k (by rw [hkk]; simp)
          obtain ⟨b, o, rfl, hcl⟩ := HD.out.2.1 (by simp [ptrs])
          have hq := hcl 0 (ptr p) rfl
          rw [Nat.add_zero] at hq
          obtain ⟨kkv, kow, kps, knd, ksl, krp⟩ := hkr.open
          have hkps : kps.length ≤ 256 := by have := krp.1; omega
          have HKN : Hid (NodeAt NT w p k.lab k.val kkv kow ∧ Sl w 1 kkv kps.length (ptrs kps) ∧ Reps NT w0 kps k.kids) := Lib.hid ⟨knd.ext HE.out, ksl.below HE.out, krp⟩
          have hclt : (9223372036854775807 < t.lab.length + k.lab.length) = False := by simp; omega
          have hclm : (maxLen < t.lab.length + k.lab.length) = False := by unfold maxLen; simp; omega
          have hcat : bs t.lab ++ bs k.lab = bs (t.lab ++ k.lab) := bs_append _ _
          subst hn1
          clear hkk hkr hcl knd ksl krp d1 d2
          go_enter Try.func74, Try.ntmps74
          repeat' (first | go_at_call 68 | go_skip | go_guarded | go_step)
          refine (own_c w p k.lab k.val kkv kow kps HKN.out.1 HKN.out.2.1 (by omega)).mono ?_
          rintro e w1 ⟨g1, kv1, rfl, f1, n1, r1, hg1⟩
          have e0 := (f1.cell (p := ⟨g, 0, none⟩) hgl).trans c0
          have k0 := n1.cells.1
          have kf := n1.free 0
          have hg1l := n1.lt
          have H1 : Hid (Ext w w1 ∧ NodeAt NT w1 g1 k.lab k.val kv1 none ∧ w1.ownsRow (g1 + 1) PT 1 kv1 kps.length (ptrs kps)) := Lib.hid ⟨f1, n1, r1⟩
          clear f1 n1 r1 c0 c1 c3 c4
          go_simp
          repeat' (go_not_at_region 6; (first | go_skip | go_guarded | go_step))
          have hcs : ∀ x : World, x.cell? ⟨g1, 0, none⟩ = w1.cell? ⟨g1, 0, none⟩ → x.cell? ⟨g1, 0, none⟩ = some (str k.lab) := fun x hx => hx.trans k0
          have HCS := Lib.hid hcs
          clear hcs
          have HNM : Hid (Calls Try.prog 87 #[ptr g1, str (t.lab ++ k.lab)] w1.drew fun e w' => e = .returned (ptr g1) ∧ w' = w1.drew.setCell ⟨g1, 0, none⟩ (str (t.lab ++ k.lab))) := Lib.hid (named_c w1.drew g1 k.lab (t.lab ++ k.lab) k0 kf)
          go_region_with ((go_at_call 87; refine HNM.out.mono ?_; rintro e x2 ⟨rfl, rfl⟩))
          all_goals
            repeat' (first | go_skip | go_guarded | go_step)
            go_ret
            refine ⟨_, rfl, ?_, fun e => ?_, fun k2 e => ?_⟩
            · first | exact H1.out.1.drew.setCell hg1 _ | exact (H1.out.1.setCell hg1 _).drew | exact H1.out.1.setCell hg1 _
            · rw [HM.out] at e; cases e
            · rw [HM.out] at e
              cases e
              refine ⟨g1, rfl, fun x hx he => ?_⟩
              have hd := (H1.out.2.1.ext (Ext.refl _).drew).set0 (t.lab ++ k.lab)
              have hr := row_set (row_ext H1.out.2.2 (Ext.refl w1).drew) ⟨g1, 0, none⟩ (str (t.lab ++ k.lab)) (Nat.lt_succ_self _)
              have hx1 : NodeAt NT x g1 (t.lab ++ k.lab) k.val kv1 none := (he g1 hg1 hd.lt).trans hd
              have hx2 : x.ownsRow (g1 + 1) PT 1 kv1 kps.length (ptrs kps) := row_eq hr fun j h1 h2 => he j (by omega) h2
              exact Rep.make (t := RT.node (t.lab ++ k.lab) k.val k.kids) (ps := kps) hx1 (Sl.of_own hx2) (HKN.out.2.2.ext hx)
    · have d1 : decide (2 ≤ n) = true := by simp [hge]
      have d2 : decide ((2 : Int) ≤ (n : Int)) = true := decide_eq_true (by omega)
      have HM : Hid (tmend t = some t) := Lib.hid (by unfold tmend; rw [if_pos (.inr (by have := HD.out.2.2.2; have := HD.out.2.2.1.1; omega))])
      go_enter Try.func74, Try.ntmps74
      repeat' (first | go_skip | go_guarded | go_step)
      go_ret
      refine ⟨_, rfl, Ext.refl _, fun e => ?_, fun k e => ?_⟩
      · rw [HM.out] at e; cases e
      · rw [HM.out] at e; cases e; exact ⟨g, rfl, fun x hx _ => hH.out.ext hx⟩
end Go.Proofs.Ytmpeniboccahdaa
/- Contract: Cut. -/
namespace Go.Proofs.Ytmpeniboccahdaa
open Go.RowKit Go.QS
set_option linter.unusedVariables false

def begD (s w : List UInt8) : Bool := s.take w.length == w
theorem begD_iff {s w : List UInt8} : begD s w = true ↔ ∃ r, s = w ++ r := by
  unfold begD
  rw [beq_iff_eq]
  constructor
  · intro h
    refine ⟨s.drop w.length, ?_⟩
    conv => lhs; rw [← List.take_append_drop w.length s, h]
  · rintro ⟨r, rfl⟩; exact List.take_left
theorem begD_le {s p : List UInt8} (h : begD s p = true) : p.length ≤ s.length := by
  obtain ⟨r, rfl⟩ := begD_iff.1 h
  simp
set_option maxRecDepth 100000 in
theorem cutD_c (w : World) (s p : List UInt8) (hs : s.length ≤ 1000000) (hp : p.length ≤ 1000000) :
    Calls Try.prog 59 #[str s, str p] w fun e w' => e = .returned (.tuple #[str (if begD s p then s.drop p.length else []), .bool (begD s p)]) ∧ w = w' := by
  have HB : Hid (Calls Try.prog 82 #[str s, str p] w fun e w' => e = .returned (.bool (begD s p)) ∧ w = w') := Lib.hid (begins_c w s p (by omega) (by omega))
  cases hb : begD s p with
  | true =>
    have hle := begD_le hb
    have hi1 : (p.length : Int) ≤ (s.length : Int) := by omega
    have hi0 : (0 : Int) ≤ (p.length : Int) := by omega
    have hdr : List.take (s.length - p.length) (s.drop p.length) = s.drop p.length := List.take_of_length_le (by simp)
    rw [hb] at HB
    clear hb
    go_enter Try.func59, Try.ntmps59
    repeat' (first | (go_at_call 82; refine HB.out.mono ?_; rintro e w1 ⟨rfl, rfl⟩; go_simp) | go_skip | go_guarded | go_step)
    go_ret2
    exact ⟨rfl, rfl⟩
  | false =>
    rw [hb] at HB
    clear hb
    go_enter Try.func59, Try.ntmps59
    repeat' (first | (go_at_call 82; refine HB.out.mono ?_; rintro e w1 ⟨rfl, rfl⟩; go_simp) | go_skip | go_guarded | go_step)
    go_ret2
    exact ⟨rfl, rfl⟩
end Go.Proofs.Ytmpeniboccahdaa
