/- Texts joined. -/
import Derived.Test.YtclcgelbcbnekaaDoorSxc
import Derived.Test.YtclcgelbcbnekaaDoorScg
import Derived.Test.YtclcgelbcbnekaaDoorSyd
import Derived.Test.YtclcgelbcbnekaaDoorM29
import Derived.Deep.RegionHeld3
import Derived.Deep.DeepCutAuto
import Derived.Test.YtclcgelbcbnekaaDoorM12
set_option linter.unusedVariables false
set_option linter.unusedSimpArgs false
/- Contracts: Canon of nothing; law 7's awake. -/
namespace Go.Proofs.YtclcgelbcbnekaaDoor
open Go Go.RowKit Go.QS Go.QS.Nk
set_option linter.unusedVariables false
variable [Zero (Nat → Prop)]
set_option linter.unusedSectionVars false

set_option maxRecDepth 100000 in
theorem canonE_c (w : World) (a0 a1 a2 : Int) (g : Nat) (hN : No w g) : Calls Tryd.prog 11 #[.agg #[.int .u64 a0, .int .u64 a1, .int .u64 a2], ptr g] w fun e w' => e = .returned (.bool true) ∧ Ext w w' := by
  have HC : Hid (∀ W, Ext w W → Calls Tryd.prog 34 #[.agg #[.int .u64 a0, .int .u64 a1, .int .u64 a2], ptr g, .slice none 0 0] W fun e w' => e = .returned (.tuple #[.int .i64 0, .bool true]) ∧ Ext W w') := Lib.hid (fun W f => canon0_c W a0 a1 a2 g (hN.ext f))
  clear hN
  go_enter Tryd.func11, Tryd.ntmps11
  repeat' (go_not_at_region 1; (first | go_skip | go_guarded | go_step))
  obtain ⟨gh, hgh⟩ : ∃ x, x = w.heap.size := ⟨_, rfl⟩
  rw [← hgh]
  refine wp_nameS (fun w' => w'.heap[gh]? = some (.cells #[.int .u64 a0, .int .u64 a1, .int .u64 a2] 26 (0, 0)) ∧ Ext w w') ⟨by rw [hgh]; exact heap_newG w _, (Ext.refl _).alloc (Nat.le_refl _) _⟩ ?_
  clear hgh
  intro w1 H1
  have c0 : w1.cell? ⟨gh, 0, none⟩ = some (.int .u64 a0) := by rw [cellG H1.out.1]; rfl
  have c1 : w1.cell? ⟨gh, 1, none⟩ = some (.int .u64 a1) := by rw [cellG H1.out.1]; rfl
  have c2 : w1.cell? ⟨gh, 2, none⟩ = some (.int .u64 a2) := by rw [cellG H1.out.1]; rfl
  repeat' (first | go_at_call 34 | go_skip | go_guarded | go_step)
  refine (HC.out w1 H1.out.2).mono ?_
  rintro e w2 ⟨rfl, f2⟩
  have F2 := Lib.hid (Ext.trans H1.out.2 f2)
  clear f2 c0 c1 c2
  go_simp
  repeat' (first | go_skip | go_guarded | go_step)
  go_ret
  exact ⟨rfl, F2.out⟩
set_option maxRecDepth 100000 in
theorem canonN_c (w : World) (a0 a1 a2 : Int) : Calls Tryd.prog 11 #[.agg #[.int .u64 a0, .int .u64 a1, .int .u64 a2], .pointer none] w fun e w' => e = .returned (.bool false) ∧ Ext w w' := by
  go_enter Tryd.func11, Tryd.ntmps11
  repeat' (first | go_skip | go_guarded | go_step)
  go_ret
  exact ⟨rfl, (Ext.refl _).alloc (Nat.le_refl _) _⟩
set_option maxRecDepth 100000 in
set_option maxHeartbeats 1000000 in
theorem awake07_c (w : World) : Calls Tryd.prog 6 #[] w fun e w' => e = .returned (.bool true) ∧ Ext w w' := by
  go_enter Tryd.func6, Tryd.ntmps6
  repeat' (first | go_at_call 20 | go_skip | go_guarded | go_step)
  refine (inner00_c w).mono ?_
  rintro e w1 ⟨g1, rfl, hN1, f1⟩
  have H1 := Lib.hid f1
  have HO := Lib.hid (of0_c w1 g1 hN1)
  clear hN1 f1
  go_simp
  repeat' (first | go_at_call 9 | go_skip | go_guarded | go_step)
  refine HO.out.mono ?_
  rintro e w2 ⟨A2, C2, rfl, f2⟩
  have H2 := Lib.hid (Ext.trans H1.out f2)
  clear f2 HO H1
  go_simp
  repeat' (first | go_at_call 23 | go_skip | go_guarded | go_step)
  refine (empty00_c w2).mono ?_
  rintro e w3 ⟨g3, rfl, hN3, f3⟩
  have H3 := Lib.hid (Ext.trans H2.out f3)
  have HC := Lib.hid (canonE_c w3 0 0 0 g3 hN3)
  clear hN3 f3 H2
  go_simp
  repeat' (first | go_at_call 11 | go_skip | go_guarded | go_step)
  refine HC.out.mono ?_
  rintro e w4 ⟨rfl, f4⟩
  have H4 := Lib.hid (Ext.trans H3.out f4)
  clear f4 HC H3
  go_simp
  repeat' (first | go_at_call 11 | go_skip | go_guarded | go_step)
  refine (canonN_c w4 0 0 0).mono ?_
  rintro e w5 ⟨rfl, f5⟩
  have H5 := Lib.hid (Ext.trans H4.out f5)
  clear f5 H4
  go_simp
  repeat' (first | go_skip | go_guarded | go_step)
  go_ret
  exact ⟨rfl, H5.out⟩
end Go.Proofs.YtclcgelbcbnekaaDoor
/- Contracts: shape.canon, Canon, Of, Same at any tree. -/
namespace Go.QS
open Go Go.RowKit Go.QS.Nk
variable [Zero (Nat → Prop)]
set_option linter.unusedSectionVars false
theorem flat_sum {is : Nat → Nat} {p : Nat → Pr} {k : Nat → NT} : ∀ cs : List Nat, (cs.flatMap fun c => if is c = 1 then [p c] else if is c = 2 then prsN (k c) else []).length =
    (prsOf (cs.map (slN is p k))).length + ((cs.filter fun c => is c == 2).map fun c => if is c = 2 then (prsN (k c)).length else 0).sum
  | [] => rfl
  | c :: cs => by
    have ih := flat_sum (is := is) (p := p) (k := k) cs
    rw [List.flatMap_cons, List.length_append, ih, List.map_cons]
    by_cases h1 : is c = 1
    · have e : slN is p k c = .pr (p c) := by unfold slN; rw [if_pos h1]
      rw [if_pos h1, e, prsOf_pr, List.filter_cons_of_neg (by simp; omega), List.length_cons]; simp; omega
    · by_cases h2 : is c = 2
      · have e : slN is p k c = .kid (k c) := by unfold slN; rw [if_neg h1, if_pos h2]
        rw [if_neg h1, if_pos h2, e, prsOf_kid, List.filter_cons_of_pos (by simp [h2]), List.map_cons, List.sum_cons, if_pos h2]; omega
      · have e : slN is p k c = .no := by unfold slN; rw [if_neg h1, if_neg h2]
        rw [if_neg h1, if_neg h2, e, prsOf_no, List.filter_cons_of_neg (by simp [h2])]; simp
theorem kid_le {is : Nat → Nat} {p : Nat → Pr} {k : Nat → NT} {c : Nat} (hc : c < 32) (h2 : is c = 2) : (prsN (k c)).length ≤ (prsN (.inn is p k)).length := by
  have hm : c ∈ List.range 32 := List.mem_range.2 hc
  obtain ⟨a, b, he⟩ := List.append_of_mem hm
  show _ ≤ ((List.range 32).flatMap _).length
  rw [he, List.flatMap_append, List.flatMap_cons, if_neg (by omega), if_pos h2]
  simp; omega
end Go.QS
namespace Go.Proofs.YtclcgelbcbnekaaDoor
open Go Go.RowKit Go.QS Go.QS.Nk
set_option linter.unusedVariables false
variable [Zero (Nat → Prop)]
set_option linter.unusedSectionVars false

theorem CanR.congr {W w' : World} {ok ok' : Prop} {n n' : Nat} {e : Ending} (h : CanR W ok n e w') (h1 : ok ↔ ok') (h2 : n = n') : CanR W ok' n' e w' := by
  subst h2
  exact ⟨h.1.imp (fun q => ⟨h1.1 q.1, q.2⟩) (fun q => ⟨fun x => q.1 (h1.2 x), q.2⟩), h.2⟩
theorem canonT_c (h : Hs) (hk : h.Ok) : ∀ (t : NT) (w : World) (g : Nat) (way : List Nat) (v : Value), RN w t g → NSm t → (prsN t).length ≤ 1000000000 → Tab32 w → way.length ≤ 13 → Sl w 1 v way.length (wayV way) →
    Calls Tryd.prog 34 #[hsV h, ptr g, v] w (CanR w (okN h.hash t way) (prsN t).length)
  | .bk l, w, g, way, v, hR, hs, h9, hT, hw, hS => canon_bk w h hk g l hR (by have := hs.2; omega) (fun p hp => by have := (hs.1 p hp).1; omega) way v hw hS
  | .inn is p k, w, g, way, v, ⟨sl, hN, hsl⟩, hs, h9, hT, hw, hS => by
    have h32 := hN.1
    obtain ⟨e1, e2, e3, e4, e5⟩ := slots_rel sl (slsN is p k) (by rw [h32, slsN_length]) (SlT.rel h32 hsl)
    have hlt : ∀ {c : Nat} {s : Slot Nat}, sl[c]? = some s → c < 32 := fun hc => by have := (List.getElem?_eq_some_iff.1 hc).1; omega
    refine (canon_in w h hk g sl hN hT (fun c q hc => ?_) way v hw hS (fun c => okN h.hash (k c) (way ++ [c])) (fun c => if is c = 2 ∧ c < 32 then (prsN (k c)).length else 0) (fun c => ?_) (fun hl c q hc W v' f hS' => ?_)).mono fun e w' hR => hR.congr ?_ ?_
    · obtain ⟨i1, rfl⟩ := hsl c _ hc
      have := ((hs c (hlt hc)).1 i1).1
      omega
    · by_cases hc : is c = 2 ∧ c < 32
      · rw [if_pos hc]
        exact Nat.le_trans (kid_le hc.2 hc.1) h9
      · rw [if_neg hc]; omega
    · obtain ⟨i2, hq⟩ := hsl c _ hc
      have hc' := hlt hc
      have := canonT_c h hk (k c) W q (way ++ [c]) v' (hq.ext f) ((hs c hc').2 i2) (Nat.le_trans (kid_le hc' i2) h9) (hT.ext f) (by rw [List.length_append, List.length_singleton]; omega) (by rw [List.length_append, List.length_singleton]; exact hS')
      rw [if_pos ⟨i2, hc'⟩]
      exact this
    · constructor
      · rintro ⟨h1, h2, h3⟩
        refine ⟨h1, fun c hc i1 => ?_, fun c hc i2 => ?_⟩
        · obtain ⟨s, hs'⟩ := get_of_lt sl (show c < sl.length by omega)
          have h0 := hsl c s hs'
          cases s with
          | no => exact absurd i1 h0.1
          | pr q => obtain ⟨_, rfl⟩ := h0; exact h2 c (p c) hs'
          | kid q => have := h0.1; omega
        · obtain ⟨s, hs'⟩ := get_of_lt sl (show c < sl.length by omega)
          have h0 := hsl c s hs'
          cases s with
          | no => exact absurd i2 h0.2
          | pr q => have := h0.1; omega
          | kid q =>
            have := h3 c q hs'
            rw [if_pos ⟨i2, hc⟩] at this
            exact this
      · rintro ⟨h1, h2, h3⟩
        refine ⟨h1, fun c q hc => ?_, fun c q hc => ?_⟩
        · obtain ⟨i1, rfl⟩ := hsl c _ hc
          exact h2 c (hlt hc) i1
        · obtain ⟨i2, _⟩ := hsl c _ hc
          rw [if_pos ⟨i2, hlt hc⟩]
          exact h3 c (hlt hc) i2
    · have h1 := flat_sum (is := is) (p := p) (k := k) (List.range 32)
      show _ = ((List.range 32).flatMap _).length
      rw [h1, e3]
      have hb : bitsI (nodesOf sl) = (List.range 32).filter fun c => is c == 2 := by
        unfold bitsI
        refine List.filter_congr fun c hc => ?_
        have hc' := List.mem_range.1 hc
        rw [e2, bitsOf_bit, slsN_get is p k hc']
        by_cases i1 : is c = 1
        · rw [slN_pr i1]; simp [i1]
        · by_cases i2 : is c = 2
          · rw [slN_kid i2]; simp [i2]
          · rw [slN_no i1 i2]; simp [i2]
      rw [hb]
      congr 2
      refine List.map_congr_left fun c hc => ?_
      have hc' := List.mem_range.1 (List.mem_filter.1 hc).1
      by_cases i2 : is c = 2
      · rw [if_pos ⟨i2, hc'⟩, if_pos i2]
      · rw [if_neg (fun x => i2 x.1), if_neg i2]
set_option maxRecDepth 100000 in
theorem canonR_c (w : World) (h : Hs) (hk : h.Ok) (g : Nat) (t : NT) (hR : RN w t g) (hs : NSm t) (h9 : (prsN t).length ≤ 1000000000) (hT : Tab32 w) :
    Calls Tryd.prog 11 #[hsV h, ptr g] w fun e w' => ((okN h.hash t [] ∧ e = .returned (.bool true)) ∨ (¬ okN h.hash t [] ∧ e = .returned (.bool false))) ∧ Ext w w' := by
  have HC : Hid (∀ W, Ext w W → Calls Tryd.prog 34 #[hsV h, ptr g, .slice none 0 0] W (CanR W (okN h.hash t []) (prsN t).length)) := Lib.hid (fun W f => canonT_c h hk t W g [] _ (hR.ext f) hs h9 (hT.ext f) (by decide) (Sl.nil _ _))
  clear hR hs h9 hT
  go_enter Tryd.func11, Tryd.ntmps11
  repeat' (go_not_at_region 1; (first | go_skip | go_guarded | go_step))
  obtain ⟨gh, hgh⟩ : ∃ x, x = w.heap.size := ⟨_, rfl⟩
  rw [← hgh]
  refine wp_nameS (fun w' => HsAt w' gh h ∧ Ext w w') ⟨by rw [hgh]; exact heap_newG w _, (Ext.refl _).alloc (Nat.le_refl _) _⟩ ?_
  clear hgh
  intro w1 H1
  obtain ⟨c0, c1, c2⟩ := H1.out.1.cells
  repeat' (first | go_at_call 34 | go_skip | go_guarded | go_step)
  refine (HC.out w1 H1.out.2).mono ?_
  rintro e w2 ⟨hLL, f2⟩
  have F2 := Lib.hid (Ext.trans H1.out.2 f2)
  clear f2 c0 c1 c2
  rcases hLL with ⟨hL, rfl⟩ | ⟨hL, rfl⟩
  · have HL := Lib.hid hL
    clear hL
    go_simp
    repeat' (first | go_skip | go_guarded | go_step)
    go_ret
    exact ⟨.inl ⟨HL.out, rfl⟩, F2.out⟩
  · have HL := Lib.hid hL
    clear hL
    go_simp
    repeat' (first | go_skip | go_guarded | go_step)
    go_ret
    exact ⟨.inr ⟨HL.out, rfl⟩, F2.out⟩
/-- A root, or none, looks so. -/
def LkAt (w : World) (v : Value) (B : List UInt8) : Prop := (v = .pointer none ∧ B = []) ∨ ∃ g t, v = ptr g ∧ RN w t g ∧ NFew t ∧ B = lookN t 13
theorem LkAt.ext {w w' : World} {v : Value} {B : List UInt8} (h : LkAt w v B) (f : Ext w w') : LkAt w' v B := by
  rcases h with h | ⟨g, t, h1, h2, h3, h4⟩
  · exact .inl h
  · exact .inr ⟨g, t, h1, h2.ext f, h3, h4⟩
set_option maxRecDepth 100000 in
theorem ofA_c (w : World) (v : Value) (B : List UInt8) (h : LkAt w v B) (h9 : B.length ≤ 70000000) : Calls Tryd.prog 9 #[v] w fun e w' => ∃ v', e = .returned v' ∧ BS w' v' B ∧ Ext w w' := by
  rcases h with ⟨rfl, rfl⟩ | ⟨g, t, rfl, h1, h2, rfl⟩
  · clear h9
    go_enter Tryd.func9, Tryd.ntmps9
    repeat' (first | go_skip | go_guarded | go_step)
    go_ret
    exact ⟨_, rfl, Sl.nil _ _, Ext.refl _⟩
  · refine (ofS_c w g _ (h1.sh 13 h2) (by omega)).mono ?_
    rintro e w' ⟨v', rfl, r, f⟩
    exact ⟨v', rfl, BS.of_own r, f⟩
set_option maxRecDepth 100000 in
theorem equalS_c (w : World) (v1 v2 : Value) (a b : List UInt8) (h1 : BS w v1 a) (h2 : BS w v2 b) :
    Calls Tryd.prog 50 #[v1, v2] w fun e w' => e = .returned (.bool (decide (a = b))) ∧ w = w' := by
  have c1 := conv_bs (P := Tryd.prog) Tryd.underlying34 Tryd.underlying5 Tryd.underlying9 h1
  have c2 := conv_bs (P := Tryd.prog) Tryd.underlying34 Tryd.underlying5 Tryd.underlying9 h2
  obtain ⟨A1, k1, rfl, _⟩ := sl_full h1
  obtain ⟨A2, k2, rfl, _⟩ := sl_full h2
  clear h1 h2
  go_enter Tryd.func50, Tryd.ntmps50
  repeat' (first | go_skip | go_guarded | go_step)
  go_ret
  refine ⟨?_, rfl⟩
  have e : (a == b) = decide (a = b) := by rw [Bool.eq_iff_iff]; simp
  rw [← e]; rfl
set_option maxRecDepth 100000 in
theorem sameN_c (w : World) (v1 v2 : Value) (a b : List UInt8) (h1 : LkAt w v1 a) (h2 : LkAt w v2 b) (ha : a.length ≤ 70000000) (hb : b.length ≤ 70000000) :
    Calls Tryd.prog 25 #[v1, v2] w fun e w' => e = .returned (.bool (decide (a = b))) ∧ Ext w w' := by
  have H := Lib.hid (And.intro h1 h2)
  clear h1 h2
  go_enter Tryd.func25, Tryd.ntmps25
  repeat' (first | go_at_call 9 | go_skip | go_guarded | go_step)
  refine (ofA_c w v1 a H.out.1 ha).mono ?_
  rintro e w1 ⟨u1, rfl, b1, f1⟩
  have H1 := Lib.hid (And.intro b1 f1)
  clear b1 f1
  go_simp
  repeat' (first | go_at_call 9 | go_skip | go_guarded | go_step)
  refine (ofA_c w1 v2 b (H.out.2.ext H1.out.2) hb).mono ?_
  rintro e w2 ⟨u2, rfl, b2, f2⟩
  have H2 := Lib.hid (And.intro b2 f2)
  clear b2 f2
  go_simp
  repeat' (first | go_at_call 50 | go_skip | go_guarded | go_step)
  refine (equalS_c w2 u1 u2 a b (H1.out.1.below H2.out.2) H2.out.1).mono ?_
  rintro e w3 ⟨rfl, rfl⟩
  go_simp
  repeat' (first | go_skip | go_guarded | go_step)
  go_ret
  exact ⟨rfl, H1.out.2.trans H2.out.2⟩
end Go.Proofs.YtclcgelbcbnekaaDoor
/- The document's trie: two rows grow: a law of its own. -/
namespace Go.Proofs.YtclcgelbcbnekaaDoor
open Go.RowKit Go.QS Go.QS.Nk
set_option linter.unusedVariables false
variable [Zero (Nat → Prop)]
set_option linter.unusedSectionVars false

theorem oper_appB {P : Program} {w : World} {o : Oper} {a : Act} {K : Act → World → Prop} {Q : Exit → Act → World → Prop} (hgd : o.guard = none) (s x : Operand) (t : TypeId)
    (ho : o.op = .call { callee := .builtin .append, args := #[s, x], argTypes := #[t, t] }) (base : Nat)
    (e : TypeId) (size bytes : Nat) (ht : P.underlying t = some (.slice e)) (hi : ∃ i z, P.info? e = some i ∧ i.zero = some z ∧ i.size = size ∧ i.bytes = bytes ∧ z.cells.size = size) (hsz : 0 < size)
    (v : Value) (n : Nat) (xs : List Value) (hs : a.eval s = v) (hown : w.ownsRow base e size v n xs)
    (A : Option Addr) (m c : Nat) (news : List Value) (hx : a.eval x = .slice A m c) (hl : news.length = m * size) (hr : Seg w A news) (h1 : ∀ u ∈ news, u.oneCell' = true)
    (h63 : n + m ≤ maxLen) (hbytes : (n + m) * bytes ≤ 140737488355328) (hbase : base ≤ w.heap.size)
    (h : ∀ v' w', w'.ownsRow base e size v' (n + m) (xs ++ news) → w.grownBy w' v.ownBlock → (∀ g, v.ownBlock = some g → base ≤ g) → K (a.put o.dst v') w') :
    Oper.wp P o a w K Q := by
  obtain ⟨i, z, hi, hz, hsize, hby, hzs⟩ := hi
  obtain ⟨v', w', hrun, h2, h3, h4⟩ := run_app (P := P) w base t o.type e i z size bytes ht hi hz hsize hby hzs hsz v n xs hown A m c news hl hr h1 h63 hbytes hbase
  unfold Oper.wp execOp
  simp only [ho, resolve, invoke, builtin, Sem.run_bind, Sem.run_pure, Result.andThen_ok, List.map_toArray, List.map_cons, List.map_nil, hs, hx, hrun]
  exact h v' w' h2 h3 (fun k hk => (hown.lt k hk).1)
theorem rows_ne {w : World} {B B' k k' n n' : Nat} {e e' : TypeId} {v v' : Value} {xs xs' : List Value} (h : w.ownsRow B e k v n xs) (h' : w.ownsRow B' e' k' v' n' xs') (he : e ≠ e') (b : Nat) (hb : v.ownBlock = some b) : v'.ownBlock ≠ some b := by
  intro hb'
  rcases h.2 with ⟨rfl, _⟩ | ⟨g, cap, cur, rfl, _, hg, _⟩
  · cases hb
  · rcases h'.2 with ⟨rfl, _⟩ | ⟨g', cap', cur', rfl, _, hg', _⟩
    · cases hb'
    · cases hb; cases hb'
      rw [hg] at hg'
      cases hg'
      exact he rfl
abbrev In13 (wr : World) (B gp bh oh i hp : Nat) (v9 v10 : Value) (X : List Pr) (Y : List Value) (p : Pr) : Prop := Hid (wr.ownsRow B RP 2 v9 X.length (flat X) ∧ wr.ownsRow B U64 1 v10 Y.length Y ∧ wr.cell? ⟨gp, 0, none⟩ = some (str p.1) ∧ wr.cell? ⟨gp, 1, none⟩ = some (str p.2) ∧ wr.cell? ⟨bh, oh + i, none⟩ = some (.int .u64 hp) ∧ v9.ownBlock ≠ some gp ∧ v10.ownBlock ≠ some gp ∧ v9.ownBlock ≠ some bh ∧ v10.ownBlock ≠ some bh)
abbrev Two13 (v9 v10 : Value) (k : Nat) : Prop := v9.ownBlock = some k ∨ v10.ownBlock = some k
theorem sS {wr W : World} {B gp bh oh i hp : Nat} {v9 v10 : Value} {X : List Pr} {Y : List Value} {p : Pr} (H : In13 wr B gp bh oh i hp v9 v10 X Y p) (h : Only (Two13 v9 v10) wr W) : W.cell? ⟨gp, 0, none⟩ = some (str p.1) ∧ W.cell? ⟨gp, 1, none⟩ = some (str p.2) ∧ W.cell? ⟨bh, oh + i, none⟩ = some (.int .u64 hp) := by
  obtain ⟨_, _, q0, q1, q2, n1, n2, n3, n4⟩ := H.out
  exact ⟨h.cell q0 (fun e => e.elim n1 n2), h.cell q1 (fun e => e.elim n1 n2), h.cell q2 (fun e => e.elim n3 n4)⟩
structure W13 (B : Nat) (X : List Pr) (Y : List Value) (v9 v10 : Value) (wr W : World) : Prop where
  only : Only (Two13 v9 v10) wr W
  r9 : W.ownsRow B RP 2 v9 X.length (flat X)
  r10 : W.ownsRow B U64 1 v10 Y.length Y
structure V13 (B : Nat) (X : List Pr) (Y : List Value) (p : Pr) (v9 v10 v9b : Value) (wr W : World) : Prop where
  only : Only (Two13 v9 v10) wr W
  r9b : W.ownsRow B RP 2 v9b (X.length + 1) (flat (X ++ [p]))
  r10 : W.ownsRow B U64 1 v10 Y.length Y
section
variable {B : Nat} {X : List Pr} {Y : List Value} {p : Pr} {v9 v10 v9b : Value} {wr W w3 : World}
theorem W13.alloc (h : W13 B X Y v9 v10 wr W) (o : Obj) : W13 B X Y v9 v10 wr (W.alloc o) := ⟨h.only.alloc o, row_ext h.r9 (ext_alloc (Ext.refl W) o), row_ext h.r10 (ext_alloc (Ext.refl W) o)⟩
theorem V13.alloc (h : V13 B X Y p v9 v10 v9b wr W) (o : Obj) : V13 B X Y p v9 v10 v9b wr (W.alloc o) := ⟨h.only.alloc o, row_ext h.r9b (ext_alloc (Ext.refl W) o), row_ext h.r10 (ext_alloc (Ext.refl W) o)⟩
theorem W13.app9 (h : W13 B X Y v9 v10 wr W) (hown : w3.ownsRow B RP 2 v9b (X.length + 1) (flat X ++ [str p.1, str p.2])) (hg : W.grownBy w3 v9.ownBlock) : V13 B X Y p v9 v10 v9b wr w3 :=
  ⟨h.only.trans' (Only.of_grown hg) (fun i _ hi => .inl hi), by rw [flat_append]; exact hown, (Only.of_grown hg).own h.r10 (fun b hb e => rows_ne h.r9 h.r10 (by decide) b e hb)⟩
theorem V13.app10 (h : V13 B X Y p v9 v10 v9b wr W) {v10b : Value} {hp : Nat} (hown : w3.ownsRow B U64 1 v10b (Y.length + 1) (Y ++ [.int .u64 hp])) (hg : W.grownBy w3 v10.ownBlock) : w3.ownsRow B RP 2 v9b (X.length + 1) (flat (X ++ [p])) ∧ w3.ownsRow B U64 1 v10b (Y.length + 1) (Y ++ [.int .u64 hp]) ∧ Only (Two13 v9 v10) wr w3 :=
  ⟨(Only.of_grown hg).own h.r9b (fun b hb e => rows_ne h.r10 h.r9b (by decide) b e hb), hown, h.only.trans' (Only.of_grown hg) (fun i _ hi => .inr hi)⟩
end
set_option maxRecDepth 100000 in
set_option maxHeartbeats 2000000 in
theorem of_13 (wr : World) (B gp bh oh n i ch hp : Nat) (v9 v10 : Value) (X : List Pr) (Y : List Value) (p : Pr) (H : Hid (wr.ownsRow B RP 2 v9 X.length (flat X) ∧ wr.ownsRow B U64 1 v10 Y.length Y ∧ wr.cell? ⟨gp, 0, none⟩ = some (str p.1) ∧ wr.cell? ⟨gp, 1, none⟩ = some (str p.2) ∧ wr.cell? ⟨bh, oh + i, none⟩ = some (.int .u64 hp) ∧ v9.ownBlock ≠ some gp ∧ v10.ownBlock ≠ some gp ∧ v9.ownBlock ≠ some bh ∧ v10.ownBlock ≠ some bh)) (hin : i < n) (hX : X.length ≤ 100000) (hY : Y.length ≤ 100000) (hB : B ≤ wr.heap.size) (c : Code) (Q : Exit → Act → World → Prop) (t0 t2 t3 t4 t5 t6 t7 t8 t13 t14 t15 t16 t17 t18 t19 t20 t21 t22 t23 t24 t25 t26 t27 t28 t29 t30 t31 t32 t33 t34 t35 t36 t37 t38 t39 t40 t41 t42 t43 t44 t45 t46 t47 t48 t49 t50 t51 t52 t53 t54 t55 t56 t57 t58 t59 t60 t61 t62 t63 t64 t65 t66 t67 t68 t69 t70 t71 t72 t73 t74 t75 t76 t77 t78 t79 t80 t81 t82 t83 t84 t85 : Value)
    (hc : (Tryd.f38.body.bind (findR 13)) = some c)
    (hQ : ∀ (u9 u10 u39 u40 u41 u42 u43 u44 u45 u46 u47 u48 u49 : Value) (wx : World), wx.ownsRow B RP 2 u9 (X.length + 1) (flat (X ++ [p])) ∧ wx.ownsRow B U64 1 u10 (Y.length + 1) (Y ++ [.int .u64 hp]) ∧ Only (fun k => v9.ownBlock = some k ∨ v10.ownBlock = some k) wr wx → Q .normal { tmps := List.toArray (t0 :: (.slice (some ⟨bh, oh, none⟩) n ch) :: t2 :: t3 :: t4 :: t5 :: t6 :: t7 :: t8 :: u9 :: u10 :: (.int .i64 i) :: (ptr gp) :: t13 :: t14 :: t15 :: t16 :: t17 :: t18 :: t19 :: t20 :: t21 :: t22 :: t23 :: t24 :: t25 :: t26 :: t27 :: t28 :: t29 :: t30 :: t31 :: t32 :: t33 :: t34 :: t35 :: t36 :: t37 :: t38 :: u39 :: u40 :: u41 :: u42 :: u43 :: u44 :: u45 :: u46 :: u47 :: u48 :: u49 :: t50 :: t51 :: t52 :: t53 :: t54 :: t55 :: t56 :: t57 :: t58 :: t59 :: t60 :: t61 :: t62 :: t63 :: t64 :: t65 :: t66 :: t67 :: t68 :: t69 :: t70 :: t71 :: t72 :: t73 :: t74 :: t75 :: t76 :: t77 :: t78 :: t79 :: t80 :: t81 :: t82 :: t83 :: t84 :: t85 :: []), defers := [] } wx) :
    c.wp Tryd.prog Q { tmps := List.toArray (t0 :: (.slice (some ⟨bh, oh, none⟩) n ch) :: t2 :: t3 :: t4 :: t5 :: t6 :: t7 :: t8 :: v9 :: v10 :: (.int .i64 i) :: (ptr gp) :: t13 :: t14 :: t15 :: t16 :: t17 :: t18 :: t19 :: t20 :: t21 :: t22 :: t23 :: t24 :: t25 :: t26 :: t27 :: t28 :: t29 :: t30 :: t31 :: t32 :: t33 :: t34 :: t35 :: t36 :: t37 :: t38 :: t39 :: t40 :: t41 :: t42 :: t43 :: t44 :: t45 :: t46 :: t47 :: t48 :: t49 :: t50 :: t51 :: t52 :: t53 :: t54 :: t55 :: t56 :: t57 :: t58 :: t59 :: t60 :: t61 :: t62 :: t63 :: t64 :: t65 :: t66 :: t67 :: t68 :: t69 :: t70 :: t71 :: t72 :: t73 :: t74 :: t75 :: t76 :: t77 :: t78 :: t79 :: t80 :: t81 :: t82 :: t83 :: t84 :: t85 :: []), defers := [] } wr := by
  change some _ = some c at hc
  cases hc
  have HQF := Lib.hid hQ
  clear hQ
  have hi1 : (i : Int) < (n : Int) := by omega
  obtain ⟨_, _, q0, q1, q2, _⟩ := H.out
  have T : W13 B X Y v9 v10 wr wr.drew := ⟨Only.of_ext (ext_drew (Ext.refl wr)), row_ext H.out.1 (ext_drew (Ext.refl wr)), row_ext H.out.2.1 (ext_drew (Ext.refl wr))⟩
  refine wp_region_noPanic ?_
  refine wp_region_T (n := 12) (S := (fun w' : World => w'.cell? ⟨gp, 0, none⟩ = some (str p.1) ∧ w'.cell? ⟨gp, 1, none⟩ = some (str p.2) ∧ w'.cell? ⟨bh, oh + i, none⟩ = some (.int .u64 hp))) (by kernel_rfl) ?_
  change wpAnyT _ _ _ _ _ _ 13 _ _ wr.drew
  have hH : (fun w' : World => w'.cell? ⟨gp, 0, none⟩ = some (str p.1) ∧ w'.cell? ⟨gp, 1, none⟩ = some (str p.2) ∧ w'.cell? ⟨bh, oh + i, none⟩ = some (.int .u64 hp)) wr.drew := sS H T.only
  refine wpAnyT_take (i := 0) (v := ?_) rfl (by kernel_rfl) (by kernel_rfl) (by kernel_rfl) (by kernel_rfl) (fun _ _ _ h => h) (Or.inl ⟨by rfl, ?_⟩) hH ?_
  rotate_left
  · (intro w hSw; (try dsimp only at hSw); obtain ⟨s0, s1, s2⟩ := hSw; go_simp; try with_reducible rfl)
  try simp only [Act.put, List.setIfInBounds_toArray, List.set_cons_zero, List.set_cons_succ]
  refine wpAnyT_take (i := 1) (v := ?_) rfl (by kernel_rfl) (by kernel_rfl) (by kernel_rfl) (by kernel_rfl) (fun _ _ _ h => h) (Or.inl ⟨by rfl, ?_⟩) hH ?_
  rotate_left
  · (intro w hSw; (try dsimp only at hSw); obtain ⟨s0, s1, s2⟩ := hSw; go_simp; try with_reducible rfl)
  try simp only [Act.put, List.setIfInBounds_toArray, List.set_cons_zero, List.set_cons_succ]
  refine wpAnyT_take (i := 4) (v := ?_) rfl (by kernel_rfl) (by kernel_rfl) (by kernel_rfl) (by kernel_rfl) (fun _ _ _ h => h) (Or.inl ⟨by rfl, ?_⟩) hH ?_
  rotate_left
  · (intro w hSw; (try dsimp only at hSw); obtain ⟨s0, s1, s2⟩ := hSw; go_simp; try with_reducible rfl)
  try simp only [Act.put, List.setIfInBounds_toArray, List.set_cons_zero, List.set_cons_succ]
  refine wpAnyT_take (i := 5) (v := ?_) rfl (by kernel_rfl) (by kernel_rfl) (by kernel_rfl) (by kernel_rfl) (fun _ _ _ h => h) (Or.inl ⟨by rfl, ?_⟩) hH ?_
  rotate_left
  · (intro w hSw; (try dsimp only at hSw); obtain ⟨s0, s1, s2⟩ := hSw; go_simp; try with_reducible rfl)
  try simp only [Act.put, List.setIfInBounds_toArray, List.set_cons_zero, List.set_cons_succ]
  refine wpAnyT_take (i := 6) (v := ?_) rfl (by kernel_rfl) (by kernel_rfl) (by kernel_rfl) (by kernel_rfl) (fun _ _ _ h => h) (Or.inl ⟨by rfl, ?_⟩) hH ?_
  rotate_left
  · (intro w hSw; (try dsimp only at hSw); obtain ⟨s0, s1, s2⟩ := hSw; go_simp; try with_reducible rfl)
  try simp only [Act.put, List.setIfInBounds_toArray, List.set_cons_zero, List.set_cons_succ]
  refine wpAnyT_take (i := 7) (v := ?_) rfl (by kernel_rfl) (by kernel_rfl) (by kernel_rfl) (by kernel_rfl) (fun _ _ _ h => h) (Or.inl ⟨by rfl, ?_⟩) hH ?_
  rotate_left
  · (intro w hSw; (try dsimp only at hSw); obtain ⟨s0, s1, s2⟩ := hSw; go_simp; try with_reducible rfl)
  try simp only [Act.put, List.setIfInBounds_toArray, List.set_cons_zero, List.set_cons_succ]
  refine wpAnyT_take (i := 8) (v := ?_) rfl (by kernel_rfl) (by kernel_rfl) (by kernel_rfl) (by kernel_rfl) (fun _ _ _ h => h) (Or.inl ⟨by rfl, ?_⟩) hH ?_
  rotate_left
  · (intro w hSw; (try dsimp only at hSw); obtain ⟨s0, s1, s2⟩ := hSw; go_simp; try with_reducible rfl)
  try simp only [Act.put, List.setIfInBounds_toArray, List.set_cons_zero, List.set_cons_succ]
  refine wpAnyT_all (rs := [2, 9]) (by kernel_rfl) (by simp) ?_
  intro i9 hi9
  simp only [List.mem_cons, List.not_mem_nil, or_false] at hi9
  rcases hi9 with rfl | rfl
  · refine wpOp_goK rfl rfl (fun K9 hK9 => ?_)
    go_simp
    have T2 := T.alloc (.cells #[str p.1, str p.2] RP)
    have hsa := Seg.new wr.drew ([str p.1, str p.2] : List Value) RP (g := wr.heap.size) (by simp)
    refine hK9.out _ _ ⟨.inr (sS H T2.only), ?_⟩
    clear hK9 K9
    refine wpAnyT_all (rs := [3, 9]) (by kernel_rfl) (by simp) ?_
    intro i9 hi9
    simp only [List.mem_cons, List.not_mem_nil, or_false] at hi9
    rcases hi9 with rfl | rfl
    · refine wpOp_goK rfl rfl (fun K9 hK9 => ?_)
      refine oper_appB rfl (.tmp 39) (.tmp 41) _ rfl B RP 2 32 Tryd.underlying46 infoRP (by decide) v9 X.length (flat X) rfl T2.r9 _ 1 1 [str p.1, str p.2] rfl rfl hsa (by intro u hu; simp at hu; rcases hu with rfl | rfl <;> rfl) (by unfold maxLen; omega) (by omega) (Nat.le_trans hB T2.only.size) ?_
      intro v9b w3 hown3 hg3 _
      have T23 := T2.app9 (p := p) hown3 hg3
      clear hown3 hg3 hsa
      refine hK9.out _ _ ⟨.inr (sS H T23.only), ?_⟩
      clear hK9 K9
      refine wpAnyT_all (rs := [9]) (by kernel_rfl) (by simp) ?_
      intro i9 hi9
      obtain rfl := List.mem_singleton.1 hi9
      refine wpOp_goK rfl rfl (fun K9 hK9 => ?_)
      go_simp
      have T239 := T23.alloc (.cells #[.int .u64 hp] U64)
      have hsb := Seg.new w3 ([.int .u64 hp] : List Value) U64 (g := w3.heap.size) (by simp)
      refine hK9.out _ _ ⟨.inr (sS H T239.only), ?_⟩
      clear hK9 K9
      refine wpAnyT_all (rs := [10]) (by kernel_rfl) (by simp) ?_
      intro i9 hi9
      obtain rfl := List.mem_singleton.1 hi9
      refine wpOp_goK rfl rfl (fun K9 hK9 => ?_)
      refine oper_appB rfl (.tmp 43) (.tmp 48) _ rfl B U64 1 8 Tryd.underlying87 infoU (by decide) v10 Y.length Y rfl T239.r10 _ 1 1 [.int .u64 hp] rfl rfl hsb (by intro u hu; simp at hu; subst hu; rfl) (by unfold maxLen; omega) (by omega) (Nat.le_trans hB T239.only.size) ?_
      intro v10b w5 hown5 hg5 _
      have T5 := T239.app10 hown5 hg5
      clear hown5 hg5
      refine hK9.out _ _ ⟨.inr (sS H T5.2.2), ?_⟩
      clear hK9 K9 hH
      have hH : (fun w' : World => w'.cell? ⟨gp, 0, none⟩ = some (str p.1) ∧ w'.cell? ⟨gp, 1, none⟩ = some (str p.2) ∧ w'.cell? ⟨bh, oh + i, none⟩ = some (.int .u64 hp)) w5 := sS H T5.2.2
      refine wpAnyT_take (i := 11) (v := ?_) rfl (by kernel_rfl) (by kernel_rfl) (by kernel_rfl) (by kernel_rfl) (fun _ _ _ h => h) (Or.inl ⟨by rfl, ?_⟩) hH ?_
      rotate_left
      · (intro w hSw; (try dsimp only at hSw); obtain ⟨s0, s1, s2⟩ := hSw; go_simp; try with_reducible rfl)
      try simp only [Act.put, List.setIfInBounds_toArray, List.set_cons_zero, List.set_cons_succ]
      refine wpAnyT_tail 12 (Nat.le_refl _) rfl (by kernel_rfl) ?_
      simp only [List.drop_succ_cons, List.drop_zero]
      repeat' go_step
      refine NoPanic.normal ?_
      exact HQF.out _ _ _ _ _ _ _ _ _ _ _ _ _ _ ⟨T5.1, T5.2.1, T5.2.2⟩
    · refine wpOp_goK rfl rfl (fun K9 hK9 => ?_)
      go_simp
      have T29 := T2.alloc (.cells #[.int .u64 hp] U64)
      have hsb := Seg.new (wr.drew.alloc (.cells #[str p.1, str p.2] RP)) ([.int .u64 hp] : List Value) U64 (g := wr.heap.size + 1) (by simp)
      have hsa := hsa.alloc (.cells #[.int .u64 hp] U64)
      refine hK9.out _ _ ⟨.inr (sS H T29.only), ?_⟩
      clear hK9 K9
      refine wpAnyT_all (rs := [3]) (by kernel_rfl) (by simp) ?_
      intro i9 hi9
      obtain rfl := List.mem_singleton.1 hi9
      refine wpOp_goK rfl rfl (fun K9 hK9 => ?_)
      refine oper_appB rfl (.tmp 39) (.tmp 41) _ rfl B RP 2 32 Tryd.underlying46 infoRP (by decide) v9 X.length (flat X) rfl T29.r9 _ 1 1 [str p.1, str p.2] rfl rfl hsa (by intro u hu; simp at hu; rcases hu with rfl | rfl <;> rfl) (by unfold maxLen; omega) (by omega) (Nat.le_trans hB T29.only.size) ?_
      intro v9b w3 hown3 hg3 _
      have T293 := T29.app9 (p := p) hown3 hg3
      have hsb := (Only.of_grown hg3).seg hsb (fun b o e h => by cases e; have := (H.out.1.lt _ h).2; omega)
      clear hown3 hg3 hsa
      refine hK9.out _ _ ⟨.inr (sS H T293.only), ?_⟩
      clear hK9 K9
      refine wpAnyT_all (rs := [10]) (by kernel_rfl) (by simp) ?_
      intro i9 hi9
      obtain rfl := List.mem_singleton.1 hi9
      refine wpOp_goK rfl rfl (fun K9 hK9 => ?_)
      refine oper_appB rfl (.tmp 43) (.tmp 48) _ rfl B U64 1 8 Tryd.underlying87 infoU (by decide) v10 Y.length Y rfl T293.r10 _ 1 1 [.int .u64 hp] rfl rfl hsb (by intro u hu; simp at hu; subst hu; rfl) (by unfold maxLen; omega) (by omega) (Nat.le_trans hB T293.only.size) ?_
      intro v10b w5 hown5 hg5 _
      have T5 := T293.app10 hown5 hg5
      clear hown5 hg5
      refine hK9.out _ _ ⟨.inr (sS H T5.2.2), ?_⟩
      clear hK9 K9 hH
      have hH : (fun w' : World => w'.cell? ⟨gp, 0, none⟩ = some (str p.1) ∧ w'.cell? ⟨gp, 1, none⟩ = some (str p.2) ∧ w'.cell? ⟨bh, oh + i, none⟩ = some (.int .u64 hp)) w5 := sS H T5.2.2
      refine wpAnyT_take (i := 11) (v := ?_) rfl (by kernel_rfl) (by kernel_rfl) (by kernel_rfl) (by kernel_rfl) (fun _ _ _ h => h) (Or.inl ⟨by rfl, ?_⟩) hH ?_
      rotate_left
      · (intro w hSw; (try dsimp only at hSw); obtain ⟨s0, s1, s2⟩ := hSw; go_simp; try with_reducible rfl)
      try simp only [Act.put, List.setIfInBounds_toArray, List.set_cons_zero, List.set_cons_succ]
      refine wpAnyT_tail 12 (Nat.le_refl _) rfl (by kernel_rfl) ?_
      simp only [List.drop_succ_cons, List.drop_zero]
      repeat' go_step
      refine NoPanic.normal ?_
      exact HQF.out _ _ _ _ _ _ _ _ _ _ _ _ _ _ ⟨T5.1, T5.2.1, T5.2.2⟩
  · refine wpOp_goK rfl rfl (fun K9 hK9 => ?_)
    go_simp
    have T9 := T.alloc (.cells #[.int .u64 hp] U64)
    have hsb := Seg.new wr.drew ([.int .u64 hp] : List Value) U64 (g := wr.heap.size) (by simp)
    refine hK9.out _ _ ⟨.inr (sS H T9.only), ?_⟩
    clear hK9 K9
    refine wpAnyT_all (rs := [2]) (by kernel_rfl) (by simp) ?_
    intro i9 hi9
    obtain rfl := List.mem_singleton.1 hi9
    refine wpOp_goK rfl rfl (fun K9 hK9 => ?_)
    go_simp
    have T92 := T9.alloc (.cells #[str p.1, str p.2] RP)
    have hsa := Seg.new (wr.drew.alloc (.cells #[.int .u64 hp] U64)) ([str p.1, str p.2] : List Value) RP (g := wr.heap.size + 1) (by simp)
    have hsb := hsb.alloc (.cells #[str p.1, str p.2] RP)
    refine hK9.out _ _ ⟨.inr (sS H T92.only), ?_⟩
    clear hK9 K9
    refine wpAnyT_all (rs := [3]) (by kernel_rfl) (by simp) ?_
    intro i9 hi9
    obtain rfl := List.mem_singleton.1 hi9
    refine wpOp_goK rfl rfl (fun K9 hK9 => ?_)
    refine oper_appB rfl (.tmp 39) (.tmp 41) _ rfl B RP 2 32 Tryd.underlying46 infoRP (by decide) v9 X.length (flat X) rfl T92.r9 _ 1 1 [str p.1, str p.2] rfl rfl hsa (by intro u hu; simp at hu; rcases hu with rfl | rfl <;> rfl) (by unfold maxLen; omega) (by omega) (Nat.le_trans hB T92.only.size) ?_
    intro v9b w3 hown3 hg3 _
    have T923 := T92.app9 (p := p) hown3 hg3
    have hsb := (Only.of_grown hg3).seg hsb (fun b o e h => by cases e; have := (H.out.1.lt _ h).2; omega)
    clear hown3 hg3 hsa
    refine hK9.out _ _ ⟨.inr (sS H T923.only), ?_⟩
    clear hK9 K9
    refine wpAnyT_all (rs := [10]) (by kernel_rfl) (by simp) ?_
    intro i9 hi9
    obtain rfl := List.mem_singleton.1 hi9
    refine wpOp_goK rfl rfl (fun K9 hK9 => ?_)
    refine oper_appB rfl (.tmp 43) (.tmp 48) _ rfl B U64 1 8 Tryd.underlying87 infoU (by decide) v10 Y.length Y rfl T923.r10 _ 1 1 [.int .u64 hp] rfl rfl hsb (by intro u hu; simp at hu; subst hu; rfl) (by unfold maxLen; omega) (by omega) (Nat.le_trans hB T923.only.size) ?_
    intro v10b w5 hown5 hg5 _
    have T5 := T923.app10 hown5 hg5
    clear hown5 hg5
    refine hK9.out _ _ ⟨.inr (sS H T5.2.2), ?_⟩
    clear hK9 K9 hH
    have hH : (fun w' : World => w'.cell? ⟨gp, 0, none⟩ = some (str p.1) ∧ w'.cell? ⟨gp, 1, none⟩ = some (str p.2) ∧ w'.cell? ⟨bh, oh + i, none⟩ = some (.int .u64 hp)) w5 := sS H T5.2.2
    refine wpAnyT_take (i := 11) (v := ?_) rfl (by kernel_rfl) (by kernel_rfl) (by kernel_rfl) (by kernel_rfl) (fun _ _ _ h => h) (Or.inl ⟨by rfl, ?_⟩) hH ?_
    rotate_left
    · (intro w hSw; (try dsimp only at hSw); obtain ⟨s0, s1, s2⟩ := hSw; go_simp; try with_reducible rfl)
    try simp only [Act.put, List.setIfInBounds_toArray, List.set_cons_zero, List.set_cons_succ]
    refine wpAnyT_tail 12 (Nat.le_refl _) rfl (by kernel_rfl) ?_
    simp only [List.drop_succ_cons, List.drop_zero]
    repeat' go_step
    refine NoPanic.normal ?_
    exact HQF.out _ _ _ _ _ _ _ _ _ _ _ _ _ _ ⟨T5.1, T5.2.1, T5.2.2⟩

end Go.Proofs.YtclcgelbcbnekaaDoor
