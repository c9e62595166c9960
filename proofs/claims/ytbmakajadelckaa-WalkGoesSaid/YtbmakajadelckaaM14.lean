/- Texts joined. -/
import Derived.OrdersHeld
import Derived.StillTail
import Derived.Test.YtbmakajadelckaaM00
import Derived.Test.YtbmakajadelckaaM13
set_option linter.unusedVariables false
set_option linter.unusedSimpArgs false
/- A region that draws its order, whose last operations wait for all others: a condition on the world is kept up to these alone. After the kit's own law (its condition is kept to the end). No program. -/
namespace Go.QS
open Go Go.RowKit
section
variable {P : Program} {ops : Array Oper} {Q : Exit → Act → World → Prop} {md : Region.Mode} {S : World → Prop} {n : Nat}

/-- Whatever order is picked; behind each operation ahead of number n the condition holds. -/
def wpAnyT (P : Program) (md : Region.Mode) (ops : Array Oper) (Q : Exit → Act → World → Prop) (S : World → Prop) (n : Nat) : Nat → Array Bool → Act → World → Prop
  | 0, listed, a, w => Region.ready md ops listed = [] ∧ Q .normal a w
  | fuel + 1, listed, a, w =>
    (Region.ready md ops listed = [] → Q .normal a w) ∧
    ∀ i ∈ Region.ready md ops listed, wpOp P ops Q i (fun a' w' => (n ≤ i ∨ S w') ∧ wpAnyT P md ops Q S n fuel (listed.setIfInBounds i true) a' w') a w
theorem wpAny_of_T : ∀ (fuel : Nat) (listed : Array Bool) (a : Act) (w : World), wpAnyT P md ops Q S n fuel listed a w → wpAny P md ops Q fuel listed a w
  | 0, _, _, _, h => h
  | fuel + 1, _, _, _, h => ⟨h.1, fun i hi => wpOp_mono (fun a' w' h' => wpAny_of_T fuel _ a' w' h'.2) (h.2 i hi)⟩
/-- Each operation from number n on waits for number i. -/
def awaited (md : Region.Mode) (ops : Array Oper) (n i : Nat) : Bool := (List.range ops.size).all fun j => decide (j < n) || Region.waitsFor md ops j i
theorem wpAnyT_first {i : Nat} {oi : Oper} {v : Value} (hi : ops[i]? = some oi) (hsel : ∀ (j : Nat) (o : Oper) cs b, ops[j]? = some o → o.op ≠ .select cs b)
    (hQ : ∀ c a w, Q (.panic c) (a.put oi.dst v) w → Q (.panic c) a w) (hin : i < n) (haw : awaited md ops n i = true) :
    ∀ (fuel : Nat) (listed : Array Bool) (a : Act) (w : World),
      (∀ j oj, ops[j]? = some oj → j ≠ i → listed.getD j true = false → (∀ e ∈ oj.after, Region.binds md e = true → e.on ≠ i) → oi.apart ops oj = true) →
      i ∈ Region.ready md ops listed → YieldsIf P ops S oi v a → S w →
      wpAnyT P md ops Q S n fuel (listed.setIfInBounds i true) (a.put oi.dst v) w → wpAnyT P md ops Q S n (fuel + 1) listed a w := by
  intro fuel
  induction fuel with
  | zero =>
    intro listed a w _ hr hy hS H
    refine ⟨fun h => (by rw [h] at hr; cases hr), fun j hj => ?_⟩
    by_cases hji : j = i
    · subst hji; exact hy.wpOp hi hS ⟨.inr hS, H⟩
    · have := ready_mono hj hji
      rw [H.1] at this
      cases this
  | succ fuel ih =>
    intro listed a w hfree hr hy hS H
    refine ⟨fun h => (by rw [h] at hr; cases hr), fun j hj => ?_⟩
    by_cases hji : j = i
    · subst hji; exact hy.wpOp hi hS ⟨.inr hS, H⟩
    · have h1 := H.2 j (ready_mono hj hji)
      obtain ⟨hjun, oj, hoj, hall⟩ := mem_ready.1 hj
      have hnot : ∀ e ∈ oj.after, Region.binds md e = true → e.on ≠ i := fun e he hb heq => by
        have h1 := hall e he hb
        have h0 := (mem_ready.1 hr).1
        rw [heq] at h1
        rw [getD_both h0] at h1
        cases h1
      have hjn : j < n := by
        rcases Nat.lt_or_ge j n with h | h
        · exact h
        · exfalso
          have hjs : j < ops.size := (Array.getElem?_eq_some_iff.1 hoj).1
          have h2 := List.all_eq_true.1 haw j (List.mem_range.2 hjs)
          simp only [Bool.or_eq_true, decide_eq_true_eq] at h2
          rcases h2 with h2 | h2
          · omega
          · obtain ⟨o', ho', e, he, hb, hon⟩ := Region.waitsFor_spec h2
            have : o' = oj := Option.some.inj (ho'.symm.trans hoj)
            subst this
            exact hnot e he hb hon
      have h2 := wpOp_putIf hoj (hfree j oj hoj hji hjun hnot) (fun cs b => hsel i oi cs b hi) (fun cs b => hsel j oj cs b hoj) hQ hy h1
      have hfree' : ∀ k ok, ops[k]? = some ok → k ≠ i → (listed.setIfInBounds j true).getD k true = false →
          (∀ e ∈ ok.after, Region.binds md e = true → e.on ≠ i) → oi.apart ops ok = true := fun k ok hk hki hun hno => by
        refine hfree k ok hk hki ?_ hno
        by_cases hjk : j = k
        · subst hjk; exact hjun
        · rw [getD_set_ne true hjk] at hun; exact hun
      refine wpOp_mono (fun a' w' h3 => ?_) h2
      have hSw : S w' := h3.2.1.resolve_left (by omega)
      refine ⟨.inr hSw, ih (listed.setIfInBounds j true) a' w' hfree' (ready_mono hr (Ne.symm hji)) h3.1 hSw ?_⟩
      rw [Array.setIfInBounds_comm _ _ hji]
      exact h3.2.2
theorem wpAnyT_take {i : Nat} {oi : Oper} {v : Value} {fuel : Nat} {listed : Array Bool} {a : Act} {w : World} (hi : ops[i]? = some oi)
    (hs : Region.noSelect ops = true) (hf : Region.free md ops listed i = true) (hr : (Region.ready md ops listed).contains i = true) (haw : (decide (i < n) && awaited md ops n i) = true)
    (hQ : ∀ c a w, Q (.panic c) (a.put oi.dst v) w → Q (.panic c) a w) (hy : YieldsIf P ops S oi v a) (hS : S w)
    (h : wpAnyT P md ops Q S n fuel (listed.setIfInBounds i true) (a.put oi.dst v) w) : wpAnyT P md ops Q S n (fuel + 1) listed a w := by
  simp only [Bool.and_eq_true, decide_eq_true_eq] at haw
  exact wpAnyT_first hi (Region.noSelect_spec hs) hQ haw.1 haw.2 fuel listed a w (Region.free_spec hi hf) (by simpa using hr) hy hS h
theorem wpAnyT_all {rs : List Nat} {fuel : Nat} {listed : Array Bool} {a : Act} {w : World} (hr : Region.ready md ops listed = rs) (hne : rs ≠ [])
    (h : ∀ i ∈ rs, wpOp P ops Q i (fun a' w' => (n ≤ i ∨ S w') ∧ wpAnyT P md ops Q S n fuel (listed.setIfInBounds i true) a' w') a w) : wpAnyT P md ops Q S n (fuel + 1) listed a w :=
  ⟨fun h0 => absurd (hr ▸ h0) hne, hr ▸ h⟩
/-- The last operations, one behind the other. -/
theorem wpAnyT_seq : ∀ (l : List Oper) (k : Nat) (listed : Array Bool) (a : Act) (w : World), n ≤ k → (∀ j, l[j]? = ops[k + j]?) →
    Region.seqB md ops l.length k listed = true → wpList P ops Q l a w → wpAnyT P md ops Q S n l.length listed a w
  | [], _, _, _, _, _, _, hB, h => ⟨by simpa [Region.seqB] using hB, h⟩
  | o :: l, k, listed, a, w, hk, hl, hB, h => by
    have h0 : ops[k]? = some o := by simpa using (hl 0).symm
    simp only [List.length_cons, Region.seqB, Bool.and_eq_true, decide_eq_true_eq] at hB
    refine ⟨fun h1 => (by rw [hB.1] at h1; cases h1), fun i hi => ?_⟩
    rw [hB.1] at hi
    have hik : i = k := by simpa using hi
    subst hik
    have hw : wpOp P ops Q i (wpList P ops Q l) a w := by unfold wpOp; simp only [h0]; exact h
    exact wpOp_mono (fun a' w' h' => ⟨.inl hk, wpAnyT_seq l (i + 1) _ a' w' (Nat.le_succ_of_le hk) (fun j => by have := hl (j + 1); simpa [Nat.add_assoc, Nat.add_comm 1 j] using this) hB.2 h'⟩) hw
theorem wp_region_T {id : Nat} {a : Act} {w : World} (hm : P.follows .mixedOrders = true)
    (h : wpAnyT P .any ops Q S n ops.size (Array.replicate ops.size false) a { w with drawn := w.drawn + 1 }) : (Code.region id ops true).wp P Q a w :=
  wp_region_any hm (wpAny_of_T _ _ _ _ h)
/-- An operation that is not guarded, as it is carried out. -/
theorem wpOp_go {i : Nat} {o : Oper} {a : Act} {w : World} {K : Act → World → Prop} (hi : ops[i]? = some o) (hg : o.guard = none) (h : o.wp P a w K Q) : wpOp P ops Q i K a w := by
  unfold wpOp
  simp only [hi]
  have hw : Region.wanted o (yielded ops a.tmps) = true := by simp [Region.wanted, hg]
  rw [if_pos hw]
  exact .inl h
theorem wpOp_goK {i : Nat} {o : Oper} {a : Act} {w : World} {K : Act → World → Prop} (hi : ops[i]? = some o) (hg : o.guard = none) (h : ∀ K' : Act → World → Prop, Hid (∀ a w, K a w → K' a w) → o.wp P a w K' Q) : wpOp P ops Q i K a w :=
  wpOp_go hi hg (h K fun _ _ h => h)
theorem wpAnyT_tail (k : Nat) {fuel : Nat} {listed : Array Bool} {a : Act} {w : World} (hk : n ≤ k) (hf : (ops.toList.drop k).length = fuel) (hB : Region.seqB md ops fuel k listed = true) (h : wpList P ops Q (ops.toList.drop k) a w) : wpAnyT P md ops Q S n fuel listed a w := by
  subst hf
  exact wpAnyT_seq (ops.toList.drop k) k listed a w hk (fun j => by rw [List.getElem?_drop, Array.getElem?_toList]) hB h
end
end Go.QS
/- SetPair's region that inserts: a law of its own. -/
namespace Go.Proofs.Ytbmakajadelckaa
open Go.RowKit Go.QS Go.QS.Nk
set_option linter.unusedVariables false

theorem keep3n {w w' : World} {a1 a2 a3 : Addr} {u1 u2 u3 : Value} (f : Ext w w') (h : w.cell? a1 = some u1 ∧ w.cell? a2 = some u2 ∧ w.cell? a3 = some u3) : w'.cell? a1 = some u1 ∧ w'.cell? a2 = some u2 ∧ w'.cell? a3 = some u3 :=
  ⟨Ext.cell' f h.1, Ext.cell' f h.2.1, Ext.cell' f h.2.2⟩
theorem keep3s {w : World} {c g : Nat} {v u1 u2 u3 : Value} (h : w.cell? ⟨c, 0, none⟩ = some u1 ∧ w.cell? ⟨g, 0, none⟩ = some u2 ∧ w.cell? ⟨g, 1, none⟩ = some u3) (hne : g ≠ c) :
    (w.setCell ⟨c, 2, none⟩ v).cell? ⟨c, 0, none⟩ = some u1 ∧ (w.setCell ⟨c, 2, none⟩ v).cell? ⟨g, 0, none⟩ = some u2 ∧ (w.setCell ⟨c, 2, none⟩ v).cell? ⟨g, 1, none⟩ = some u3 :=
  ⟨(World.cell?_setCell_other _ _ _ _ (by intro e; simp only [Addr.mk.injEq] at e; omega)).trans h.1, (World.cell?_setCell_other _ _ _ _ (by intro e; simp only [Addr.mk.injEq] at e; omega)).trans h.2.1, (World.cell?_setCell_other _ _ _ _ (by intro e; simp only [Addr.mk.injEq] at e; omega)).trans h.2.2⟩
set_option maxRecDepth 100000 in
set_option maxHeartbeats 2000000 in
theorem setp_8 (base : Nat) (wr : World) (cn gp i : Nat) (sl : List (Slot Nat)) (ow : Option Addr) (pv kv : Value) (p : Pr) (H : Hid (InO base wr cn sl ow pv kv ∧ sl[i]? = some .no ∧ wr.heap[gp]? = some (.cells #[str p.1, str p.2] NP (0, 0)) ∧ pv.ownBlock ≠ some gp)) (hbase : base ≤ wr.heap.size) (c : Code) (Q : Exit → Act → World → Prop) (t0 t1 t3 t4 t5 t6 t8 t10 t11 t12 t13 t14 t15 t16 t17 t18 t19 t20 t21 t22 t23 t24 t25 t26 t27 t28 t29 t30 t31 t32 t33 t34 t35 t36 t37 t38 t39 t40 t41 t42 t43 t44 t45 t46 t47 t48 t49 t50 t51 t52 t53 t54 t55 t56 t57 t58 t59 t60 t61 t62 t63 t64 t65 t66 t67 t68 t69 t70 t71 t72 t73 t74 t75 : Value)
    (hc : (Try.f85.body.bind (findR 8)) = some c)
    (hQ : ∀ (u45 u46 u47 u48 u49 u50 u51 u52 u53 u54 u55 u56 u57 u58 u59 u60 u61 u62 u63 : Value) (wx : World), ∀ pv' : Value, NdAt ND wx cn (dataOf sl) (nodesOf sl) pv' kv false ow → wx.ownsRow base NP 2 pv' (prsOf (sl.set i (.pr p))).length (flat (prsOf (sl.set i (.pr p)))) → wx.ownsRow base NK 1 kv (kdsOf (sl.set i (.pr p))).length (ptrs (kdsOf (sl.set i (.pr p)))) → Only (fun k => k = cn ∨ pv.ownBlock = some k ∨ kv.ownBlock = some k) wr wx → (pv'.ownBlock = pv.ownBlock ∨ ∃ b, pv'.ownBlock = some b ∧ wr.heap.size ≤ b) → Q .normal { tmps := List.toArray (t0 :: t1 :: (.int .i64 i) :: t3 :: t4 :: t5 :: t6 :: (ptr gp) :: t8 :: (ptr cn) :: t10 :: t11 :: t12 :: t13 :: t14 :: t15 :: t16 :: t17 :: t18 :: t19 :: t20 :: t21 :: t22 :: t23 :: t24 :: t25 :: t26 :: t27 :: t28 :: t29 :: t30 :: t31 :: t32 :: t33 :: t34 :: t35 :: t36 :: t37 :: t38 :: t39 :: t40 :: t41 :: t42 :: t43 :: t44 :: u45 :: u46 :: u47 :: u48 :: u49 :: u50 :: u51 :: u52 :: u53 :: u54 :: u55 :: u56 :: u57 :: u58 :: u59 :: u60 :: u61 :: u62 :: u63 :: t64 :: t65 :: t66 :: t67 :: t68 :: t69 :: t70 :: t71 :: t72 :: t73 :: t74 :: t75 :: []), defers := [] } wx) :
    c.wp Try.prog Q { tmps := List.toArray (t0 :: t1 :: (.int .i64 i) :: t3 :: t4 :: t5 :: t6 :: (ptr gp) :: t8 :: (ptr cn) :: t10 :: t11 :: t12 :: t13 :: t14 :: t15 :: t16 :: t17 :: t18 :: t19 :: t20 :: t21 :: t22 :: t23 :: t24 :: t25 :: t26 :: t27 :: t28 :: t29 :: t30 :: t31 :: t32 :: t33 :: t34 :: t35 :: t36 :: t37 :: t38 :: t39 :: t40 :: t41 :: t42 :: t43 :: t44 :: t45 :: t46 :: t47 :: t48 :: t49 :: t50 :: t51 :: t52 :: t53 :: t54 :: t55 :: t56 :: t57 :: t58 :: t59 :: t60 :: t61 :: t62 :: t63 :: t64 :: t65 :: t66 :: t67 :: t68 :: t69 :: t70 :: t71 :: t72 :: t73 :: t74 :: t75 :: []), defers := [] } wr := by
  change some _ = some c at hc
  cases hc
  have HQF := Lib.hid hQ
  clear hQ
  have hO := H.out.1
  have hs := H.out.2.1
  have hi : i < 32 := by have := get_lt hs; rw [hO.1] at this; exact this
  obtain ⟨d, hd⟩ : ∃ d, d = dataOf sl := ⟨_, rfl⟩
  have hd9 : d < 4294967296 := by rw [hd]; exact bits32 _ hO.1
  have HB : Hid (rnk d i = rkP sl i) := Lib.hid (by rw [hd]; exact rk_data (by rw [hO.1]; decide) i)
  have h2 := hO.2
  rw [← hd] at h2
  obtain ⟨c0, c1, c2, c3, c4, c5⟩ := h2.node.cells
  have hf := h2.node.free
  obtain ⟨r, hr⟩ : ∃ r, r = rkP sl i := ⟨_, rfl⟩
  have hrl := rkP_le sl i
  rw [← hr] at HB hrl
  have hp32 := prsOf_len sl
  rw [hO.1] at hp32
  have hne : pv.ownBlock ≠ some cn := own_block_ne h2.pairs h2.node (by decide)
  have hnk : kv.ownBlock ≠ some cn := own_block_ne h2.kids h2.node (by decide)
  have hgl : gp < wr.heap.size := heap_lt H.out.2.2.1
  have hcl : cn < wr.heap.size := h2.node.lt
  obtain ⟨b0, b1, bf⟩ := box_facts H.out.2.2.1
  have HN := Lib.hid h2
  have HK := Lib.hid (And.intro c0 (And.intro c2 (And.intro b0 b1)))
  have HX := Lib.hid (And.intro hne (And.intro hnk hr))
  have HX3 : Hid (gp ≠ cn) := Lib.hid (fun e => by
    have h1 := h2.node
    unfold NdAt at h1
    rw [← e, H.out.2.2.1] at h1
    simp at h1)
  have HK3 := Lib.hid (And.intro c0 (And.intro b0 b1))
  have h9p : pv.ownBlock ≠ some gp := H.out.2.2.2
  have HKV : Hid (∀ (x : World), Ext wr x → ∀ b, kv.ownBlock = some b → ¬ pv.ownBlock = some b) := Lib.hid (fun x f b hb e => by
    rcases HN.out.pairs.2 with ⟨h, _⟩ | ⟨g', cap, cur, h1, h2, h3, h4⟩
    · rw [h] at e; cases e
    · rw [h1] at e
      cases e
      exact own_block_ne HN.out.kids h3 (by decide) hb)
  have HD := Lib.hid hd
  clear hO hs hd h2 c1 c3 c4 c5 hr hne hnk bf
  refine wp_region_noPanic ?_
  refine wp_region_T (n := 16) (S := fun w' => w'.cell? ⟨cn, 0, none⟩ = some (.int .u32 d) ∧ w'.cell? ⟨cn, 2, none⟩ = some pv ∧ w'.cell? ⟨gp, 0, none⟩ = some (str p.1) ∧ w'.cell? ⟨gp, 1, none⟩ = some (str p.2)) (by kernel_rfl) ?_
  change wpAnyT _ _ _ _ _ _ 20 _ _ wr.drew
  have hH : (fun w' : World => w'.cell? ⟨cn, 0, none⟩ = some (.int .u32 d) ∧ w'.cell? ⟨cn, 2, none⟩ = some pv ∧ w'.cell? ⟨gp, 0, none⟩ = some (str p.1) ∧ w'.cell? ⟨gp, 1, none⟩ = some (str p.2)) wr.drew := keep4c (ext_drew (Ext.refl wr)) HK.out
  refine wpAnyT_take (i := 0) (v := ?_) rfl (by kernel_rfl) (by kernel_rfl) (by kernel_rfl) (by kernel_rfl) (fun _ _ _ h => h) (Or.inl ⟨by rfl, ?_⟩) hH ?_
  rotate_left
  · (intro w hSw; (try dsimp only at hSw); obtain ⟨s0, s1, s2, s3⟩ := hSw; go_simp; try with_reducible rfl)
  try simp only [Act.put, List.setIfInBounds_toArray, List.set_cons_zero, List.set_cons_succ]
  refine wpAnyT_take (i := 1) (v := ?_) rfl (by kernel_rfl) (by kernel_rfl) (by kernel_rfl) (by kernel_rfl) (fun _ _ _ h => h) (Or.inl ⟨by rfl, ?_⟩) hH ?_
  rotate_left
  · (intro w hSw; (try dsimp only at hSw); obtain ⟨s0, s1, s2, s3⟩ := hSw; go_simp; try with_reducible rfl)
  try simp only [Act.put, List.setIfInBounds_toArray, List.set_cons_zero, List.set_cons_succ]
  refine wpAnyT_take (i := 2) (v := ?_) rfl (by kernel_rfl) (by kernel_rfl) (by kernel_rfl) (by kernel_rfl) (fun _ _ _ h => h) (Or.inl ⟨by rfl, ?_⟩) hH ?_
  rotate_left
  · (intro w hSw; (try dsimp only at hSw); obtain ⟨s0, s1, s2, s3⟩ := hSw; go_simp; try with_reducible rfl)
  try simp only [Act.put, List.setIfInBounds_toArray, List.set_cons_zero, List.set_cons_succ]
  refine wpAnyT_take (i := 3) (v := ?_) rfl (by kernel_rfl) (by kernel_rfl) (by kernel_rfl) (by kernel_rfl) (fun _ _ _ h => h) (Or.inl ⟨by rfl, ?_⟩) hH ?_
  rotate_left
  · (intro w hSw; (try dsimp only at hSw); obtain ⟨s0, s1, s2, s3⟩ := hSw; go_simp; try with_reducible rfl)
  try simp only [Act.put, List.setIfInBounds_toArray, List.set_cons_zero, List.set_cons_succ]
  refine wpAnyT_take (i := 4) (v := ?_) rfl (by kernel_rfl) (by kernel_rfl) (by kernel_rfl) (by kernel_rfl) (fun _ _ _ h => h) (Or.inl ⟨by rfl, ?_⟩) hH ?_
  rotate_left
  · (intro w hSw; (try dsimp only at hSw); obtain ⟨s0, s1, s2, s3⟩ := hSw; go_simp; try with_reducible rfl)
  try simp only [Act.put, List.setIfInBounds_toArray, List.set_cons_zero, List.set_cons_succ]
  refine wpAnyT_take (i := 5) (v := ?_) rfl (by kernel_rfl) (by kernel_rfl) (by kernel_rfl) (by kernel_rfl) (fun _ _ _ h => h) (Or.inl ⟨by rfl, ?_⟩) hH ?_
  rotate_left
  · (intro w hSw; (try dsimp only at hSw); obtain ⟨s0, s1, s2, s3⟩ := hSw; go_simp; try with_reducible rfl)
  try simp only [Act.put, List.setIfInBounds_toArray, List.set_cons_zero, List.set_cons_succ]
  refine wpAnyT_take (i := 6) (v := ?_) rfl (by kernel_rfl) (by kernel_rfl) (by kernel_rfl) (by kernel_rfl) (fun _ _ _ h => h) (Or.inl ⟨by rfl, ?_⟩) hH ?_
  rotate_left
  · (intro w hSw; (try dsimp only at hSw); obtain ⟨s0, s1, s2, s3⟩ := hSw; go_simp; try with_reducible rfl)
  try simp only [Act.put, List.setIfInBounds_toArray, List.set_cons_zero, List.set_cons_succ]
  refine wpAnyT_take (i := 7) (v := ?_) rfl (by kernel_rfl) (by kernel_rfl) (by kernel_rfl) (by kernel_rfl) (fun _ _ _ h => h) (Or.inl ⟨by rfl, ?_⟩) hH ?_
  rotate_left
  · (intro w hSw; (try dsimp only at hSw); obtain ⟨s0, s1, s2, s3⟩ := hSw; go_simp; try with_reducible rfl)
  try simp only [Act.put, List.setIfInBounds_toArray, List.set_cons_zero, List.set_cons_succ]
  refine wpAnyT_take (i := 8) (v := ?_) rfl (by kernel_rfl) (by kernel_rfl) (by kernel_rfl) (by kernel_rfl) (fun _ _ _ h => h) (Or.inl ⟨by rfl, ?_⟩) hH ?_
  rotate_left
  · (intro w hSw; (try dsimp only at hSw); obtain ⟨s0, s1, s2, s3⟩ := hSw; go_simp; try with_reducible rfl)
  try simp only [Act.put, List.setIfInBounds_toArray, List.set_cons_zero, List.set_cons_succ]
  refine wpAnyT_take (i := 9) (v := ?_) rfl (by kernel_rfl) (by kernel_rfl) (by kernel_rfl) (by kernel_rfl) (fun _ _ _ h => h) (Or.inl ⟨by rfl, ?_⟩) hH ?_
  rotate_left
  · (intro w hSw; (try dsimp only at hSw); obtain ⟨s0, s1, s2, s3⟩ := hSw; go_simp; try with_reducible rfl)
  try simp only [Act.put, List.setIfInBounds_toArray, List.set_cons_zero, List.set_cons_succ]
  refine wpAnyT_take (i := 10) (v := ?_) rfl (by kernel_rfl) (by kernel_rfl) (by kernel_rfl) (by kernel_rfl) (fun _ _ _ h => h) (Or.inl ⟨by rfl, ?_⟩) hH ?_
  rotate_left
  · (intro w hSw; (try dsimp only at hSw); obtain ⟨s0, s1, s2, s3⟩ := hSw; go_simp; try with_reducible rfl)
  try simp only [Act.put, List.setIfInBounds_toArray, List.set_cons_zero, List.set_cons_succ]
  refine wpAnyT_take (i := 11) (v := ?_) rfl (by kernel_rfl) (by kernel_rfl) (by kernel_rfl) (by kernel_rfl) (fun _ _ _ h => h) (Or.inl ⟨by rfl, ?_⟩) hH ?_
  rotate_left
  · (intro w hSw; (try dsimp only at hSw); obtain ⟨s0, s1, s2, s3⟩ := hSw; go_simp; try with_reducible rfl)
  try simp only [Act.put, List.setIfInBounds_toArray, List.set_cons_zero, List.set_cons_succ]
  refine wpAnyT_take (i := 13) (v := ?_) rfl (by kernel_rfl) (by kernel_rfl) (by kernel_rfl) (by kernel_rfl) (fun _ _ _ h => h) (Or.inl ⟨by rfl, ?_⟩) hH ?_
  rotate_left
  · (intro w hSw; (try dsimp only at hSw); obtain ⟨s0, s1, s2, s3⟩ := hSw; go_simp; try with_reducible rfl)
  try simp only [Act.put, List.setIfInBounds_toArray, List.set_cons_zero, List.set_cons_succ]
  refine wpAnyT_all (rs := [12, 14]) (by kernel_rfl) (by simp) ?_
  intro i9 hi9
  simp only [List.mem_cons, List.not_mem_nil, or_false] at hi9
  rcases hi9 with rfl | rfl
  · skip
    refine wpOp_goK rfl rfl (fun K9 hK9 => ?_)
    go_simp
    refine (rank_c _ d i hd9 hi).mono ?_
    rintro e x1 ⟨rfl, f1⟩
    rw [HB.out]
    have k0 := Lib.hid f1
    have k1 : Hid (Ext wr x1) := Lib.hid (Ext.trans (ext_drew (Ext.refl wr)) f1)
    have N1 := Lib.hid (HN.out.ext k1.out)
    have hx1 := k1.out.size
    clear f1
    go_simp
    refine hK9.out _ _ ⟨.inr (keep4c k1.out HK.out), ?_⟩
    clear hK9 K9
    refine wpAnyT_all (rs := [14]) (by kernel_rfl) (by simp) ?_
    intro i9 hi9
    obtain rfl := List.mem_singleton.1 hi9
    refine wpOp_goK rfl rfl (fun K9 hK9 => ?_)
    go_simp
    refine hK9.out _ _ ⟨.inr (keep4c (ext_alloc k1.out _) HK.out), ?_⟩
    clear hK9 K9
    refine wpAnyT_all (rs := [15]) (by kernel_rfl) (by simp) ?_
    intro i9 hi9
    obtain rfl := List.mem_singleton.1 hi9
    refine wpOp_goK rfl rfl (fun K9 hK9 => ?_)
    go_simp
    have e1 : Ext x1 (x1.alloc (.cells #[str p.1, str p.2] NP)) := (Ext.refl _).alloc (Nat.le_refl _) _
    refine (pinsert_c base (x1.alloc (.cells #[str p.1, str p.2] NP)) pv (prsOf sl) r x1.heap.size p (row_ext N1.out.pairs e1) hrl (heap_new x1 _) (fun e => by have := (N1.out.pairs.lt _ e).2; omega) (by omega) (by (try simp); omega)).mono ?_
    rintro e x2 ⟨v2, rfl, o2, f2, b2⟩
    obtain ⟨q, hq⟩ : ∃ q, q = (prsOf sl).take r ++ p :: (prsOf sl).drop r := ⟨_, rfl⟩
    rw [← hq] at o2
    obtain ⟨A2, C2, rfl⟩ := own_slice o2
    have N2 : Hid (NdAt ND x2 cn d (nodesOf sl) pv kv false ow) := Lib.hid (NdAt.only (N1.out.node.ext e1) (Only.of_grown f2) HX.out.1)
    have K2 : Hid (Only (fun k => k = cn ∨ pv.ownBlock = some k ∨ kv.ownBlock = some k) wr x2) := Lib.hid (((Only.of_ext k1.out).trans (Only.of_ext e1)).trans ((Only.of_grown f2).mono fun j _ hj => .inr (.inl hj)))
    have O2 := Lib.hid (And.intro o2 (And.intro hq b2))
    have R2 : Hid (x2.ownsRow base NK 1 kv (kdsOf sl).length (ptrs (kdsOf sl))) := Lib.hid ((Only.of_grown f2).own (row_ext N1.out.kids e1) (HKV.out x1 k1.out))
    obtain ⟨z0, z1, z2, z3, z4, z5⟩ := N2.out.cells
    have zf := N2.out.free
    have K3 := Lib.hid (And.intro z0 (And.intro z2 (And.intro (f2.cell (Ext.cell' (k1.out.trans e1) HK.out.2.2.1) (fun h => h9p h.symm)) (f2.cell (Ext.cell' (k1.out.trans e1) HK.out.2.2.2) (fun h => h9p h.symm)))))
    clear e1 o2 hq f2 b2
    go_simp
    refine hK9.out _ _ ⟨.inr K3.out, ?_⟩
    clear hK9 K9
    refine wpAnyT_tail 16 (Nat.le_refl _) rfl (by kernel_rfl) ?_
    simp only [List.drop_succ_cons, List.drop_zero]
    repeat' go_step
    have hfin : NdAt ND (x2.setCell ⟨cn, 2, none⟩ (.slice A2 q.length C2)) cn d (nodesOf sl) (.slice A2 q.length C2) kv false ow := N2.out.set2 _
    refine NoPanic.normal ?_
    refine HQF.out _ _ _ _ _ _ _ _ _ _ _ _ _ _ _ _ _ _ _ _ (.slice A2 q.length C2) ?_ ?_ ?_ ?_ ?_
    · rw [HD.out] at hfin; exact hfin
    · rw [prs_set_np H.out.2.1, ← HX.out.2.2, ← O2.out.2.1]; exact own_other O2.out.1 N2.out (by decide) 2 _
    · rw [kds_set_nn H.out.2.1 rfl (s := .pr p) rfl]; exact own_other R2.out N2.out (by decide) 2 _
    · exact K2.out.setCell (p := ⟨cn, 2, none⟩) (.inl (.inl rfl)) _
    · rcases O2.out.2.2 with h | h
      · exact .inl h
      · exact .inr ⟨_, h, by (try simp); omega⟩
  · skip
    refine wpOp_goK rfl rfl (fun K9 hK9 => ?_)
    go_simp
    refine hK9.out _ _ ⟨.inr (keep4c (ext_alloc (ext_drew (Ext.refl wr)) _) HK.out), ?_⟩
    clear hK9 K9
    refine wpAnyT_all (rs := [12]) (by kernel_rfl) (by simp) ?_
    intro i9 hi9
    obtain rfl := List.mem_singleton.1 hi9
    refine wpOp_goK rfl rfl (fun K9 hK9 => ?_)
    go_simp
    refine (rank_c _ d i hd9 hi).mono ?_
    rintro e x1 ⟨rfl, f1⟩
    rw [HB.out]
    have k0 := Lib.hid f1
    have k1 : Hid (Ext wr x1) := Lib.hid (Ext.trans (ext_alloc (ext_drew (Ext.refl wr)) _) f1)
    have N1 := Lib.hid (HN.out.ext k1.out)
    have hx1 := k1.out.size
    clear f1
    go_simp
    refine hK9.out _ _ ⟨.inr (keep4c k1.out HK.out), ?_⟩
    clear hK9 K9
    refine wpAnyT_all (rs := [15]) (by kernel_rfl) (by simp) ?_
    intro i9 hi9
    obtain rfl := List.mem_singleton.1 hi9
    refine wpOp_goK rfl rfl (fun K9 hK9 => ?_)
    go_simp
    have e1 : Ext x1 x1 := Ext.refl _
    refine (pinsert_c base x1 pv (prsOf sl) r wr.heap.size p (row_ext N1.out.pairs e1) hrl (box_ext' (w := wr.drew.alloc (.cells #[str p.1, str p.2] NP)) (heap_new wr.drew _) k0.out) (fun e => by have := (HN.out.pairs.lt _ e).2; omega) (by omega) (by (try simp); omega)).mono ?_
    rintro e x2 ⟨v2, rfl, o2, f2, b2⟩
    obtain ⟨q, hq⟩ : ∃ q, q = (prsOf sl).take r ++ p :: (prsOf sl).drop r := ⟨_, rfl⟩
    rw [← hq] at o2
    obtain ⟨A2, C2, rfl⟩ := own_slice o2
    have N2 : Hid (NdAt ND x2 cn d (nodesOf sl) pv kv false ow) := Lib.hid (NdAt.only (N1.out.node.ext e1) (Only.of_grown f2) HX.out.1)
    have K2 : Hid (Only (fun k => k = cn ∨ pv.ownBlock = some k ∨ kv.ownBlock = some k) wr x2) := Lib.hid (((Only.of_ext k1.out).trans (Only.of_ext e1)).trans ((Only.of_grown f2).mono fun j _ hj => .inr (.inl hj)))
    have O2 := Lib.hid (And.intro o2 (And.intro hq b2))
    have R2 : Hid (x2.ownsRow base NK 1 kv (kdsOf sl).length (ptrs (kdsOf sl))) := Lib.hid ((Only.of_grown f2).own (row_ext N1.out.kids e1) (HKV.out x1 k1.out))
    obtain ⟨z0, z1, z2, z3, z4, z5⟩ := N2.out.cells
    have zf := N2.out.free
    have K3 := Lib.hid (And.intro z0 (And.intro z2 (And.intro (f2.cell (Ext.cell' (k1.out.trans e1) HK.out.2.2.1) (fun h => h9p h.symm)) (f2.cell (Ext.cell' (k1.out.trans e1) HK.out.2.2.2) (fun h => h9p h.symm)))))
    clear e1 o2 hq f2 b2
    go_simp
    refine hK9.out _ _ ⟨.inr K3.out, ?_⟩
    clear hK9 K9
    refine wpAnyT_tail 16 (Nat.le_refl _) rfl (by kernel_rfl) ?_
    simp only [List.drop_succ_cons, List.drop_zero]
    repeat' go_step
    have hfin : NdAt ND (x2.setCell ⟨cn, 2, none⟩ (.slice A2 q.length C2)) cn d (nodesOf sl) (.slice A2 q.length C2) kv false ow := N2.out.set2 _
    refine NoPanic.normal ?_
    refine HQF.out _ _ _ _ _ _ _ _ _ _ _ _ _ _ _ _ _ _ _ _ (.slice A2 q.length C2) ?_ ?_ ?_ ?_ ?_
    · rw [HD.out] at hfin; exact hfin
    · rw [prs_set_np H.out.2.1, ← HX.out.2.2, ← O2.out.2.1]; exact own_other O2.out.1 N2.out (by decide) 2 _
    · rw [kds_set_nn H.out.2.1 rfl (s := .pr p) rfl]; exact own_other R2.out N2.out (by decide) 2 _
    · exact K2.out.setCell (p := ⟨cn, 2, none⟩) (.inl (.inl rfl)) _
    · rcases O2.out.2.2 with h | h
      · exact .inl h
      · exact .inr ⟨_, h, by (try simp); omega⟩

end Go.Proofs.Ytbmakajadelckaa
