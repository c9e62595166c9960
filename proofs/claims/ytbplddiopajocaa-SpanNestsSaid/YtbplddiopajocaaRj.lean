/- Contract: put, without a token: down a kid; whole. -/
import Derived.Test.YtbplddiopajocaaRi
set_option linter.unusedVariables false
set_option linter.unusedSimpArgs false
namespace Go.Proofs.Ytbplddiopajocaa
open Go.RowKit Go.QS
set_option linter.unusedVariables false

/-- What put hands back. -/
def PutOK (w : World) (g : Nat) (r : RT × Bool × Bool) (e : Ending) (w' : World) : Prop :=
  ∃ g', e = .returned (.tuple #[ptr g', .bool r.2.1, .bool r.2.2]) ∧ Ext w w' ∧ Rep NT w' g' r.1 ∧ (r.2.2 = false → g' = g) ∧ (r.2.2 = true → w.heap.size ≤ g')

theorem ownsRow_set1 {w : World} {base : Nat} {e : TypeId} {ps : List Nat} {A : Option Addr} {C : Nat} (h : w.ownsRow base e 1 (.slice A ps.length C) ps.length (ptrs ps)) {i p : Nat} (hi : i < ps.length) :
    ∃ b, A = some ⟨b, 0, none⟩ ∧ base ≤ b ∧ b < w.heap.size ∧ (∃ u, w.cell? ⟨b, i, none⟩ = some u) ∧ w.frozen? ⟨b, i, none⟩ = false ∧ (w.setCell ⟨b, i, none⟩ (ptr p)).ownsRow base e 1 (.slice A ps.length C) ps.length (ptrs (ps.set i p)) := by
  obtain ⟨h0, h⟩ := h
  rcases h with ⟨h1, h2⟩ | ⟨b, cap, cur, h1, h2, h3, h4, h5, h6, h7⟩
  · omega
  · cases h1
    have hsz : i < cur.size := by omega
    refine ⟨b, rfl, h2, heap_lt h3, ⟨cur[i], by rw [seg_of_heap h3, Array.getElem?_eq_getElem hsz]⟩, by simp [World.frozen?, h3], by simp, .inr ⟨b, C, _, rfl, h2, heap_set h3 i _, h4, h5, by simpa using h6, ?_⟩⟩
    rw [Array.toList_setIfInBounds, List.take_set, h7]
    simp [ptrs, List.map_set]

theorem common_kid {c : UInt8} {key : List UInt8} {kid : RT} (hne : kid.lab ≠ []) (h : kid.hd = c.toNat) : 1 ≤ common (c :: key) kid.lab := by
  obtain ⟨l, hl⟩ := hd_lab hne h
  rw [hl, common_pos]
  omega

set_option maxHeartbeats 1000000 in
set_option maxRecDepth 100000 in
theorem put_go (w : World) (N g : Nat) (t kid : RT) (c : UInt8) (key v : List UInt8) (r : RT × Bool × Bool) (h : Rep NT w g t) (hk : Kd N t.kids) (hf : fH t.kids c.toNat = true) (hkid : t.kids[fI t.kids c.toNat]? = some kid) (hkl : (c :: key).length ≤ N) (hN : N ≤ 1000)
    (ih : ∀ (w' : World) (g' : Nat), Rep NT w' g' (if common (c :: key) kid.lab < kid.lab.length then tsplit kid (common (c :: key) kid.lab) else kid) → Calls Try.prog 44 #[ptr g', .pointer none, str ((c :: key).drop (common (c :: key) kid.lab)), str v] w' (PutOK w' g' r)) :
    Calls Try.prog 44 #[ptr g, .pointer none, str (c :: key), str v] w (PutOK w g (if r.2.2 then (RT.node t.lab t.val (t.kids.set (fI t.kids c.toNat) r.1), r.2.1, true) else (t, false, false))) := by
  have HF := Lib.hid (findk_c w g t c.toNat (UInt8.toNat_lt _) h hk.ne hk.heads (by have := hk.len; omega))
  rw [hf] at HF
  have hbr := hk.br (List.mem_of_getElem? hkid)
  have hlen := hk.len
  obtain ⟨i, hi⟩ : ∃ i, i = fI t.kids c.toNat := ⟨_, rfl⟩
  rw [← hi] at HF hkid ⊢
  have hH := Lib.hid h
  obtain ⟨kv, ow, ps, nd, sl, rp⟩ := h.open
  have hik := (List.getElem?_eq_some_iff.1 hkid).1
  have hps : ps.length ≤ 256 := by have := rp.1; omega
  have hip : i < ps.length := by have := rp.1; omega
  obtain ⟨p, hp⟩ := get_of_lt ps hip
  have hpk := rp.2 i p kid hp hkid
  obtain ⟨kA, kC, rfl, hkc⟩ : ∃ A C, kv = .slice A ps.length C ∧ ∃ b o, A = some ⟨b, o, none⟩ ∧ w.cell? ⟨b, o + i, none⟩ = some (ptr p) := by
    obtain ⟨A, C, rfl, _, _, _, hs⟩ := sl
    obtain ⟨b, o, hA, hc⟩ := hs (fun e => by have := ptrs_get hp; rw [e] at this; simp at this)
    exact ⟨A, C, rfl, b, o, hA, hc i _ (ptrs_get hp)⟩
  obtain ⟨b, o, rfl, hc1⟩ := hkc
  have H0 : Hid (NodeAt NT w g t.lab t.val (.slice (some ⟨b, o, none⟩) ps.length kC) ow ∧ Sl w 1 (.slice (some ⟨b, o, none⟩) ps.length kC) ps.length (ptrs ps) ∧ Reps NT w ps t.kids) := Lib.hid ⟨nd, sl, rp⟩
  have c3 := nd.cells.2.2.2.1
  have hkl0 : w.cell? ⟨p, 0, none⟩ = some (str kid.lab) := by
    obtain ⟨_, _, _, n', _, _⟩ := hpk.open
    exact n'.cells.1
  have hi1 : (i : Int) < (ps.length : Int) := by omega
  have hidx : ∀ w, (Instr.index 9 (str (c :: key)) (.int .i64 0)).run Try.prog w = .ok (.int .u8 (c.toNat : Int)) w := idx_str Try.underlying9 (a := c :: key) (k := 0) (x := c) rfl
  have hke : (c :: key == ([] : List UInt8)) = false := by simp
  have hK1 := (common_le (c :: key) kid.lab)
  obtain ⟨k, hkk⟩ : ∃ k, k = common (c :: key) kid.lab := ⟨_, rfl⟩
  rw [← hkk] at ih hK1
  have IH := Lib.hid ih
  have HP := Lib.hid hpk
  have HB := Lib.hid hbr
  have hll : kid.lab.length ≤ 1000 := by have := hbr.2.1; omega
  have HK := Lib.hid hkk
  obtain ⟨q, hq⟩ : ∃ q, q = c :: key := ⟨_, rfl⟩
  rw [← hq] at IH hK1 hidx hke hkl HK ⊢
  obtain ⟨r1, ra, rc⟩ := r
  have HI := Lib.hid hi
  have Hp := Lib.hid hp
  have hkb : (k : Int) ≤ (q.length : Int) := by omega
  have hkb0 : (0 : Int) ≤ (k : Int) := by omega
  have hsub : List.take (q.length - k) (List.drop k q) = q.drop k := List.take_of_length_le (by simp)
  clear h hk hf hi hlen nd sl rp hkid hpk hbr ih hkk hq hp hik
  go_enter Try.func44, Try.ntmps44
  repeat' (first | (go_at_call 66; refine HF.out.mono ?_; rintro e w1 ⟨rfl, rfl⟩; go_simp) | go_skip | go_guarded | (go_not_at_region 11; go_step))
  repeat' (first | go_at_call 69 | go_skip | go_guarded | go_step)
  refine (common_c _ q kid.lab (by omega) (by omega)).mono ?_
  rintro e w1 ⟨rfl, f1⟩
  rw [← HK.out]
  have d0 := (f1.cell (p := ⟨p, 0, none⟩) (World.block_lt_of_cell? w _ hkl0)).trans hkl0
  have F1 := Lib.hid f1
  clear f1
  go_simp
  repeat' (go_not_at_region 12; (first | go_skip | go_guarded | go_step))
  go_cut [91] (fun vv wx => Hid (vv = .bool (decide (k < kid.lab.length)) ∧ w1 = wx))
  case first =>
    repeat' (first | go_skip | go_guarded | go_step)
    go_meet
    exact Lib.hid ⟨rfl, rfl⟩
  case rest =>
  obtain ⟨hv, hw⟩ := hcut.out
  subst hv hw
  clear hcut
  go_step
  go_cut [14] (fun vv wx => Hid (∃ p', vv = ptr p' ∧ Ext w wx ∧ Rep NT wx p' (if k < kid.lab.length then tsplit kid k else kid)))
  case first => as_aux_lemma =>
    by_cases hkl1 : k < kid.lab.length
    · have hd1 : decide (k < kid.lab.length) = true := by simp [hkl1]
      have HSP := Lib.hid (split_c w1 p kid k (HP.out.ext F1.out) hkl1 (by omega) (by have := HB.out.2.2.2.len; omega))
      repeat' (first | (go_at_call 70; refine HSP.out.mono ?_; rintro e w2 ⟨p2, rfl, f2, hp2, rp2⟩; replace f2 := Lib.hid f2; replace rp2 := Lib.hid rp2; go_simp) | go_skip | go_guarded | go_step)
      go_meet
      exact Lib.hid ⟨p2, rfl, Ext.trans F1.out f2.out, by rw [if_pos hkl1]; exact rp2.out⟩
    · have hd1 : decide (k < kid.lab.length) = false := by simp [hkl1]
      repeat' (first | go_skip | go_guarded | go_step)
      go_meet
      exact Lib.hid ⟨p, rfl, F1.out, by rw [if_neg hkl1]; exact HP.out.ext F1.out⟩
  case rest =>
    obtain ⟨p2, hv, E2, rp2⟩ := hcut.out
    subst hv
    replace E2 := Lib.hid E2
    replace rp2 := Lib.hid rp2
    clear hcut
    repeat' (first | go_at_call 44 | go_skip | go_guarded | go_step)
    first | rw [hsub] | skip
    refine (IH.out wc p2 rp2.out).mono ?_
    rintro e w3 ⟨g3, rfl, E3, R3, hsame, hnew⟩
    cases rc with
    | false =>
      have H3 : Hid (Ext w w3) := Lib.hid (Ext.trans E2.out E3)
      clear E3 R3 hsame hnew
      go_simp
      repeat' (first | go_skip | go_guarded | go_step)
      go_ret3
      exact ⟨g, rfl, H3.out, hH.out.ext H3.out, fun _ => rfl, fun h => by cases h⟩
    | true =>
      have E3' : Ext w w3 := Ext.trans E2.out E3
      have H3 : Hid (Ext w w3 ∧ Rep NT w3 g3 r1 ∧ wc.heap.size ≤ g3) := Lib.hid ⟨E3', R3, hnew rfl⟩
      have HO := Lib.hid (own_c w3 g t.lab t.val (.slice (some ⟨b, o, none⟩) ps.length kC) ow ps (H0.out.1.ext E3') (H0.out.2.1.below E3') (by omega))
      clear E3 R3 hsame hnew E3'
      go_simp
      repeat' (first | go_at_call 64 | go_skip | go_guarded | go_step)
      refine HO.out.mono ?_
      rintro e w4 ⟨g4, kv4, rfl, f4, n4, r4, hg4⟩
      obtain ⟨A4, C4, rfl⟩ := own_slice r4
      obtain ⟨B4, rfl, hb1, hb2, ⟨u4, hu4⟩, hf4, hset⟩ := ownsRow_set1 (p := g3) r4 hip
      have e3 := n4.cells.2.2.2.1
      have H4 : Hid (_ ∧ _ ∧ _) := Lib.hid ⟨f4, n4, hset⟩
      have hu4' : w4.cell? ⟨B4, 0 + i, none⟩ = some u4 := by rw [Nat.zero_add]; exact hu4
      have hf4' : w4.frozen? ⟨B4, 0 + i, none⟩ = false := by rw [Nat.zero_add]; exact hf4
      clear f4 n4 r4 hset
      go_simp
      repeat' (first | go_skip | go_guarded | go_step)
      go_ret3
      obtain ⟨E3, R3, hn3⟩ := H3.out
      obtain ⟨f4, n4, hset⟩ := H4.out
      have hs3 := E3.size
      have hs4 := f4.size
      have E4 : Ext w w4 := Ext.trans E3 f4
      have E5 : Ext w (w4.setCell ⟨B4, i, none⟩ (ptr g3)) := E4.setCell (show w.heap.size ≤ B4 by omega) _
      have E35 : Ext w3 (w4.setCell ⟨B4, i, none⟩ (ptr g3)) := f4.setCell (show w3.heap.size ≤ B4 by omega) _
      refine ⟨g4, rfl, E5, ?_, (fun h => by cases h), fun _ => by omega⟩
      have hr5 := H0.out.2.2.ext E5
      exact Rep.make (t := RT.node t.lab t.val (t.kids.set i r1)) (ps := ps.set i g3) (NodeAt.far n4 (show B4 ≠ g4 by omega)) (by rw [List.length_set]; have := Sl.of_own hset; exact this) (hr5.set (R3.ext E35))

theorem tput_go {n : Nat} {t kid : RT} {c : UInt8} {key v : List UInt8} (hf : fH t.kids c.toNat = true) (hkid : t.kids[fI t.kids c.toNat]? = some kid) :
    tput (n + 1) t (c :: key) v = (if (tput n (if common (c :: key) kid.lab < kid.lab.length then tsplit kid (common (c :: key) kid.lab) else kid) ((c :: key).drop (common (c :: key) kid.lab)) v).2.2 then
      (RT.node t.lab t.val (t.kids.set (fI t.kids c.toNat) (tput n (if common (c :: key) kid.lab < kid.lab.length then tsplit kid (common (c :: key) kid.lab) else kid) ((c :: key).drop (common (c :: key) kid.lab)) v).1), (tput n (if common (c :: key) kid.lab < kid.lab.length then tsplit kid (common (c :: key) kid.lab) else kid) ((c :: key).drop (common (c :: key) kid.lab)) v).2.1, true) else (t, false, false)) := by
  conv => lhs; unfold tput
  rw [if_pos hf, hkid]

theorem putk_c : ∀ (n N g : Nat) (t : RT) (key v : List UInt8) (w : World), key.length ≤ n → Rep NT w g t → Kd N t.kids → key.length ≤ N → N ≤ 1000 →
    Calls Try.prog 44 #[ptr g, .pointer none, str key, str v] w (PutOK w g (tput n t key v))
  | n, N, g, t, [], v, w, _, h, hk, _, _ => by
    by_cases hv : t.val = some v
    · have e : tput n t [] v = (t, false, false) := by cases n <;> simp [tput, hv]
      rw [e]
      refine (put_same w g t v h hv).mono ?_
      rintro e w' ⟨rfl, E⟩
      exact ⟨g, rfl, E, h.ext E, fun _ => rfl, fun h => by cases h⟩
    · have e : tput n t [] v = (RT.node t.lab (some v) t.kids, t.val.isNone, true) := by cases n <;> simp [tput, hv]
      rw [e]
      refine (put_here w g t v h hv (by have := hk.len; omega)).mono ?_
      rintro e w' ⟨g', rfl, E, hg, R⟩
      exact ⟨g', rfl, E, R, (fun h => by cases h), fun _ => hg⟩
  | 0, N, g, t, c :: key, v, w, hn, _, _, _, _ => by simp at hn
  | n + 1, N, g, t, c :: key, v, w, hn, h, hk, hkl, hN => by
    by_cases hf : fH t.kids c.toNat = true
    · obtain ⟨kid, hkid, hhd⟩ := fH_get hk.heads hf
      rw [tput_go hf hkid]
      have hbr := hk.br (List.mem_of_getElem? hkid)
      have h1 := common_kid (key := key) hbr.1 hhd
      have h2 := common_le (c :: key) kid.lab
      have hd := List.length_drop (i := common (c :: key) kid.lab) (l := c :: key)
      refine put_go w N g t kid c key v _ h hk hf hkid hkl hN fun w' g' R => ?_
      by_cases hlt : common (c :: key) kid.lab < kid.lab.length
      · rw [if_pos hlt] at R ⊢
        exact putk_c n (N - common (c :: key) kid.lab) g' _ _ v w' (by omega) R (tsplit_kd hbr hlt) (by omega) (by omega)
      · rw [if_neg hlt] at R ⊢
        have he : common (c :: key) kid.lab = kid.lab.length := by omega
        exact putk_c n (N - kid.lab.length) g' _ _ v w' (by omega) R hbr.2.2.2 (by omega) (by omega)
    · have hf' : fH t.kids c.toNat = false := by simpa using hf
      have e : tput (n + 1) t (c :: key) v = (RT.node t.lab t.val (t.kids.take (fI t.kids c.toNat) ++ RT.node (c :: key) (some v) [] :: t.kids.drop (fI t.kids c.toNat)), true, true) := by
        unfold tput
        rw [if_neg hf]
      rw [e]
      refine (put_ins w N g t c key v h hk hf').mono ?_
      rintro e w' ⟨g', rfl, E, hg, R⟩
      exact ⟨g', rfl, E, R, (fun h => by cases h), fun _ => hg⟩
end Go.Proofs.Ytbplddiopajocaa
