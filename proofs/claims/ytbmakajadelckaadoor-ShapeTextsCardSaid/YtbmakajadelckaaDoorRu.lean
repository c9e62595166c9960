/- Plain law: kids that are as they must be are told by their pairs. No program. -/
import Derived.Test.YtbmakajadelckaaDoorRn
set_option linter.unusedVariables false
set_option linter.unusedSimpArgs false
namespace Go.QS

theorem prs_ne {N : Nat} {t : RT} (h : Br N t) : t.prs ≠ [] := by
  obtain ⟨_, _, h3, h4⟩ := h
  rw [below_eq]
  rcases h3 with h3 | h3
  · cases hv : t.val with
    | none => rw [hv] at h3; cases h3
    | some v => simp [ownP]
  · cases hk : t.kids with
    | nil => rw [hk] at h3; simp at h3
    | cons k r =>
      rw [hk] at h4
      have hb := h4.br (List.mem_cons_self ..)
      have := prs_ne hb
      intro e
      rw [belows_cons] at e
      have e2 := (List.append_eq_nil_iff.1 e).2
      have e3 := (List.append_eq_nil_iff.1 e2).1
      simp only [pre, List.map_eq_nil_iff] at e3
      exact this e3
termination_by SizeOf.sizeOf t
decreasing_by
  obtain ⟨a, b, c⟩ := t
  simp only [RT.kids_node] at hk
  subst hk
  simp
  omega

/-- All that all keys of a branch begin with is what its label begins with. -/
theorem common_lab {N : Nat} {t : RT} (h : Br N t) {l : List UInt8} (hl : ∀ q ∈ pre t.lab t.prs, q.1.take l.length = l) : t.lab.take l.length = l := by
  obtain ⟨h1, h2, h3, h4⟩ := h
  by_cases hv : t.val.isSome = true
  · obtain ⟨v, hv⟩ := Option.isSome_iff_exists.1 hv
    have : (t.lab ++ [], v) ∈ pre t.lab t.prs := mem_pre.2 ⟨([], v), mem_below.2 (.inl ⟨rfl, hv⟩), rfl⟩
    have := hl _ this
    simpa using this
  · have h3' : 2 ≤ t.kids.length := by
      rcases h3 with h | h
      · exact absurd h hv
      · exact h
    obtain ⟨a, ha⟩ := get_of_lt t.kids (show 0 < t.kids.length by omega)
    obtain ⟨b, hb⟩ := get_of_lt t.kids (show 1 < t.kids.length by omega)
    have hab : a.hd < b.hd := by
      obtain ⟨e1, e2⟩ := List.getElem?_eq_some_iff.1 ha
      obtain ⟨e3, e4⟩ := List.getElem?_eq_some_iff.1 hb
      have := List.pairwise_iff_getElem.1 h4.heads _ _ e1 e3 (by decide)
      rwa [e2, e4] at this
    have key : ∀ k ∈ t.kids, ∃ c m v, (t.lab ++ c :: m, v) ∈ pre t.lab t.prs ∧ c.toNat = k.hd := by
      intro k hk
      obtain ⟨q, hq⟩ := List.exists_mem_of_ne_nil _ (prs_ne (h4.br hk))
      have hm : (k.lab ++ q.1, q.2) ∈ pre k.lab k.prs := mem_pre.2 ⟨q, hq, rfl⟩
      obtain ⟨c, m, e, hc⟩ := pre_head (h4.ne k hk) hm
      simp only at e
      exact ⟨c, m, q.2, mem_pre.2 ⟨(k.lab ++ q.1, q.2), mem_below.2 (.inr (mem_belows.2 ⟨k, hk, hm⟩)), by simp only [e]⟩, hc⟩
    obtain ⟨c, m, v, hm1, hc1⟩ := key a (List.mem_of_getElem? ha)
    obtain ⟨d, m', v', hm2, hc2⟩ := key b (List.mem_of_getElem? hb)
    have e1 := hl _ hm1
    have e2 := hl _ hm2
    simp only at e1 e2
    rcases Nat.lt_or_ge t.lab.length l.length with hlt | hge
    · exfalso
      have g1 : (t.lab ++ c :: m)[t.lab.length]? = l[t.lab.length]? := by
        rw [← e1, List.getElem?_take_of_lt hlt]
      have g2 : (t.lab ++ d :: m')[t.lab.length]? = l[t.lab.length]? := by
        rw [← e2, List.getElem?_take_of_lt hlt]
      rw [← g1] at g2
      simp at g2
      rw [g2] at hc2
      omega
    · rw [List.take_append_of_le_length hge] at e1
      exact e1

theorem lab_eq {N N' : Nat} {t t' : RT} (h : Br N t) (h' : Br N' t') (e : pre t.lab t.prs = pre t'.lab t'.prs) : t.lab = t'.lab := by
  have k1 : t.lab.take t'.lab.length = t'.lab := by
    refine common_lab h fun q hq => ?_
    rw [e] at hq
    obtain ⟨p, _, rfl⟩ := mem_pre.1 hq
    exact List.take_left' rfl
  have k2 : t'.lab.take t.lab.length = t.lab := by
    refine common_lab h' fun q hq => ?_
    rw [← e] at hq
    obtain ⟨p, _, rfl⟩ := mem_pre.1 hq
    exact List.take_left' rfl
  have l1 := congrArg List.length k1
  have l2 := congrArg List.length k2
  simp only [List.length_take] at l1 l2
  rw [← k1, List.take_of_length_le (by omega)]

theorem pre_inj {l : List UInt8} {x y : List Pr} (h : pre l x = pre l y) : x = y := by
  unfold pre at h
  refine (List.map_inj_right ?_).1 h
  rintro ⟨a, b⟩ ⟨c, d⟩ e
  simp at e
  exact Prod.ext e.1 e.2

def fstB (q : Pr) : Nat := (q.1.headD 0).toNat
theorem fstB_pre {k : RT} (hne : k.lab ≠ []) {q : Pr} (h : q ∈ pre k.lab k.prs) : fstB q = k.hd := by
  obtain ⟨c, l, e, hc⟩ := pre_head hne h
  simp [fstB, e, hc]
theorem kd_part {N : Nat} {t : RT} {r : List RT} (h : Kd N (t :: r)) : (belows (t :: r)).filter (fun q => fstB q == t.hd) = pre t.lab t.prs ∧ (belows (t :: r)).filter (fun q => fstB q != t.hd) = belows r := by
  cases h with
  | cons h1 h2 h3 h4 h5 h6 =>
    rw [belows_cons, List.filter_append, List.filter_append]
    have a1 : ∀ q ∈ pre t.lab t.prs, fstB q = t.hd := fun q hq => fstB_pre h1 hq
    have a2 : ∀ q ∈ belows r, fstB q ≠ t.hd := by
      intro q hq
      obtain ⟨k, hk, hm⟩ := mem_belows.1 hq
      rw [fstB_pre (h6.ne k hk) hm]
      have := h5 k hk
      omega
    constructor
    · rw [List.filter_eq_self.2 (fun q hq => by simp [a1 q hq]), List.filter_eq_nil_iff.2 (fun q hq => by simp [a2 q hq]), List.append_nil]
    · rw [List.filter_eq_nil_iff.2 (fun q hq => by simp [a1 q hq]), List.filter_eq_self.2 (fun q hq => by simp [a2 q hq]), List.nil_append]

theorem own_split {v v' : Option (List UInt8)} {x x' : List Pr} (hx : ∀ q ∈ x, q.1 ≠ []) (hx' : ∀ q ∈ x', q.1 ≠ []) (e : ownP v ++ x = ownP v' ++ x') : v = v' ∧ x = x' := by
  cases v with
  | none =>
    cases v' with
    | none => exact ⟨rfl, by simpa [ownP] using e⟩
    | some b =>
      simp only [ownP, List.nil_append, List.cons_append] at e
      exact absurd rfl (hx ([], b) (by rw [e]; simp))
  | some a =>
    cases v' with
    | none =>
      simp only [ownP, List.nil_append, List.cons_append] at e
      exact absurd rfl (hx' ([], a) (by rw [← e]; simp))
    | some b =>
      simp only [ownP, List.cons_append, List.nil_append, List.cons.injEq, Prod.mk.injEq, true_and] at e
      exact ⟨by rw [e.1], e.2⟩

theorem kd_uniq : ∀ (ks ks' : List RT) (N N' : Nat), Kd N ks → Kd N' ks' → belows ks = belows ks' → ks = ks'
  | [], [], _, _, _, _, _ => rfl
  | [], t' :: r', _, N', _, h', e => by
    have := prs_ne (h'.br (List.mem_cons_self ..))
    rw [belows_nil, belows_cons] at e
    have := (List.append_eq_nil_iff.1 e.symm).1
    simp only [pre, List.map_eq_nil_iff] at this
    contradiction
  | t :: r, [], N, _, h, _, e => by
    have := prs_ne (h.br (List.mem_cons_self ..))
    rw [belows_nil, belows_cons] at e
    have := (List.append_eq_nil_iff.1 e).1
    simp only [pre, List.map_eq_nil_iff] at this
    contradiction
  | .node lab val kids :: r, t' :: r', N, N', h, h', e => by
    have hb := h.br (List.mem_cons_self ..)
    have hb' := h'.br (List.mem_cons_self ..)
    have hhd : (RT.node lab val kids).hd = t'.hd := by
      obtain ⟨q, hq⟩ := List.exists_cons_of_ne_nil (prs_ne hb)
      obtain ⟨q', hq'⟩ := List.exists_cons_of_ne_nil (prs_ne hb')
      obtain ⟨x, hx⟩ := hq
      obtain ⟨x', hx'⟩ := hq'
      rw [belows_cons, belows_cons, hx, hx'] at e
      simp only [pre, List.map_cons, List.cons_append, List.cons.injEq] at e
      have f1 := fstB_pre (k := RT.node lab val kids) hb.1 (q := ((RT.node lab val kids).lab ++ q.1, q.2)) (by rw [hx]; simp [pre])
      have f2 := fstB_pre (k := t') hb'.1 (q := (t'.lab ++ q'.1, q'.2)) (by rw [hx']; simp [pre])
      rw [← f1, ← f2, e.1]
    obtain ⟨p1, p2⟩ := kd_part h
    obtain ⟨p1', p2'⟩ := kd_part h'
    rw [e, hhd, p1'] at p1
    rw [e, hhd, p2'] at p2
    have hlab := lab_eq hb hb' p1.symm
    rw [hlab] at p1
    have hprs := pre_inj p1
    rw [below_eq, below_eq (RT.node lab val kids)] at hprs
    obtain ⟨hv, hk⟩ := own_split (fun q hq => hb'.2.2.2.key_ne hq) (fun q hq => hb.2.2.2.key_ne hq) hprs
    have hkk := kd_uniq kids t'.kids _ _ hb.2.2.2 hb'.2.2.2 hk.symm
    have hrr := kd_uniq r r' N N' (by cases h with | cons h1 h2 h3 h4 h5 h6 => exact h6) (by cases h' with | cons h1 h2 h3 h4 h5 h6 => exact h6) p2.symm
    rw [hrr]
    congr 1
    rw [← RT.eta t', ← hlab, hv, ← hkk]
    rfl

/-- A root is told by its pairs. -/
theorem root_uniq {N N' : Nat} {t t' : RT} (hl : t.lab = t'.lab) (h : Kd N t.kids) (h' : Kd N' t'.kids) (e : t.prs = t'.prs) : t = t' := by
  rw [below_eq, below_eq t'] at e
  obtain ⟨hv, hk⟩ := own_split (fun q hq => h.key_ne hq) (fun q hq => h'.key_ne hq) e
  rw [← RT.eta t, ← RT.eta t', hl, hv, kd_uniq _ _ _ _ h h' hk]
end Go.QS
