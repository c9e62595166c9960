/- Contract: law 11's tree: a node is just the document's tree of these pairs. -/
import Derived.Test.YtmpeniboccahdaaUh
namespace Go.Proofs.Ytmpeniboccahdaa
open Go.RowKit Go.QS
set_option linter.unusedVariables false

/-- A tree of keys and values of at most 40 bytes, of so many pairs at most, as it must be. -/
structure Ok (t : RT) (l : List Pr) : Prop where
  lab : t.lab = []
  kd : Kd 40 t.kids
  prs : t.prs = l
  short : ∀ q ∈ l, q.1.length ≤ 40 ∧ q.2.length ≤ 40

theorem Ok.rise {t : RT} {l : List Pr} (h : Ok t l) : Rise l := by rw [← h.prs]; exact h.kd.prs_rise
theorem Ok.shp {t : RT} {l : List Pr} (h : Ok t l) : t.shp.length ≤ 87 + 174 * l.length := by
  have := shp_len h.kd (Nat.le_refl _) (by rw [h.lab]; simp) (fun q hq => (h.short q (by rw [← h.prs]; exact hq)).2)
  rw [h.prs] at this
  exact this
theorem Ok.sml {t : RT} {l : List Pr} (h : Ok t l) : Sml t :=
  root_sml h.kd (Nat.le_refl _) (by rw [h.lab]; simp) (fun q hq => (h.short q (by rw [← h.prs]; exact hq)).2)
theorem Ok.uniq {t t' : RT} {l : List Pr} (h : Ok t l) (h' : Ok t' l) : t = t' :=
  root_uniq (h.lab.trans h'.lab.symm) h.kd h'.kd (h.prs.trans h'.prs.symm)

set_option maxRecDepth 100000 in
set_option maxHeartbeats 1000000 in
theorem tree11_c (w : World) (g : Nat) (v : Value) (t : RT) (l : List Pr) (h : Rep NT w g t) (ho : Ok t l) (hp : PS w v l) (h9 : l.length ≤ 50000) :
    Calls Try.prog 28 #[ptr g, v] w fun e w' => e = .returned (.bool true) ∧ Ext w w' := by
  have H := Lib.hid (And.intro h (And.intro ho hp))
  have hs9 : t.shp.length ≤ 10000000 := by have := ho.shp; omega
  have hlen : t.prs.length = l.length := by rw [ho.prs]
  obtain ⟨A, C, rfl, hl, hn, hC, hs⟩ := hp
  obtain ⟨n, hn2⟩ : ∃ n, n = l.length := ⟨_, rfl⟩
  rw [← hn2] at H hn hlen h9 ⊢
  have HL := Lib.hid hn2
  have HW := Lib.hid (And.intro hs9 hlen)
  clear h ho hl hs hn2 hs9 hlen
  go_enter Try.func28, Try.ntmps28
  repeat' (first | go_at_call 57 | go_skip | go_guarded | go_step)
  refine (rof_c 40 (by decide) w _ l H.out.2.2 H.out.2.1.rise (fun p hp => (H.out.2.1.short p hp).1) (by have := HL.out; omega)).mono ?_
  rintro e w1 ⟨q, t', rfl, r1, l1, k1, p1, f1⟩
  have et : t = t' := Ok.uniq H.out.2.1 ⟨l1, k1, p1, H.out.2.1.short⟩
  have H1 := Lib.hid (And.intro r1 f1)
  rw [← et] at H1
  clear et r1 l1 k1 p1 f1
  go_simp
  repeat' (first | go_at_call 21 | go_skip | go_guarded | go_step)
  refine (like_c _ _ w1 g q t (Nat.lt_succ_self _) (H.out.1.ext H1.out.2) H1.out.1 H.out.2.1.sml.wide).mono ?_
  rintro e w2 ⟨rfl, f2⟩
  have H2 := Lib.hid (And.intro f2 (H1.out.2.trans f2))
  clear f2
  go_simp
  repeat' (first | go_at_call 31 | go_skip | go_guarded | go_step)
  refine (lenR_c _ w2 g t (Nat.lt_succ_self _) (H.out.1.ext H2.out.2) (by have := HW.out.2; omega) (fun _ _ => trivial) H.out.2.1.sml.wide).mono ?_
  rintro e w3 ⟨rfl, f3⟩
  have H3 := Lib.hid (And.intro f3 (H2.out.2.trans f3))
  rw [HW.out.2]
  clear f3
  go_simp
  repeat' (first | go_at_call 23 | go_skip | go_guarded | go_step)
  refine (shape_c w3 g t (H.out.1.ext H3.out.2) (by have := HW.out.1; omega)).mono ?_
  rintro e w4 ⟨v4, rfl, o4, f4⟩
  have H4 := Lib.hid (And.intro (bs_of_own o4) (H3.out.2.trans f4))
  have F4 := Lib.hid (H2.out.1.trans (H3.out.1.trans f4))
  obtain ⟨A4, C4, rfl⟩ := own_slice' o4
  clear f4 o4
  go_simp
  repeat' (first | go_at_call 24 | go_skip | go_guarded | go_step)
  refine (rshape_c _ _ w4 q t (Nat.lt_succ_self _) (H1.out.1.ext F4.out) HW.out.1).mono ?_
  rintro e w5 ⟨v5, rfl, o5, f5⟩
  have H5 := Lib.hid (And.intro (bs_of_own o5) (And.intro (H4.out.2.trans f5) (Sl.below H4.out.1 f5)))
  obtain ⟨A5, C5, rfl⟩ := own_slice' o5
  clear f5 o5
  go_simp
  repeat' (first | go_at_call 22 | go_skip | go_guarded | go_step)
  refine (rsame_c w5 _ _ t.shp t.shp H5.out.2.2 H5.out.1).mono ?_
  rintro e w6 ⟨rfl, f6⟩
  have H6 := Lib.hid (H5.out.2.1.trans f6)
  have hd : decide (t.shp = t.shp) = true := by simp
  rw [hd]
  clear f6 hd
  go_simp
  repeat' (first | go_at_call 25 | go_skip | go_guarded | go_step)
  refine (canon_c w6 g t (H.out.1.ext H6.out)).mono ?_
  rintro e w7 ⟨rfl, f7⟩
  have H7 := Lib.hid (H6.out.trans f7)
  rw [Kd.canB H.out.2.1.lab H.out.2.1.kd]
  clear f7
  go_simp
  repeat' (first | go_skip | go_guarded | go_step)
  go_ret
  exact ⟨rfl, H7.out⟩
end Go.Proofs.Ytmpeniboccahdaa
