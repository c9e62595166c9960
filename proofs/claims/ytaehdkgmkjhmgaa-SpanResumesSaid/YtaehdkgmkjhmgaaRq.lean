/- Plain laws: what drop does to a tree. No program. -/
import Derived.Test.YtaehdkgmkjhmgaaRn
namespace Go.QS

/-- What is left of a branch. -/
def tmend (t : RT) : Option RT :=
  if t.val.isSome = true ∨ 2 ≤ t.kids.length then some t
  else match t.kids with
    | [] => none
    | k :: _ => some (RT.node (t.lab ++ k.lab) k.val k.kids)
def tdrop : Nat → RT → List UInt8 → RT × Bool
  | _, t, [] => if t.val.isSome then (RT.node t.lab none t.kids, true) else (t, false)
  | 0, t, _ :: _ => (t, false)
  | n + 1, t, c :: key =>
    if fH t.kids c.toNat then
      match t.kids[fI t.kids c.toNat]? with
      | none => (t, false)
      | some kid =>
        if (c :: key).take kid.lab.length == kid.lab then
          let r := tdrop n kid ((c :: key).drop kid.lab.length)
          if r.2 then (RT.node t.lab t.val (match tmend r.1 with | none => t.kids.take (fI t.kids c.toNat) ++ t.kids.drop (fI t.kids c.toNat + 1) | some k => t.kids.set (fI t.kids c.toNat) k), true) else (t, false)
        else (t, false)
    else (t, false)

structure DOK (N : Nat) (t : RT) (key : List UInt8) (r : RT × Bool) : Prop where
  lab : r.1.lab = t.lab
  kd : Kd N r.1.kids
  mem : ∀ q, q ∈ r.1.prs ↔ (q ∈ t.prs ∧ q.1 ≠ key)
  gone : r.2 = true ↔ ∃ u, (key, u) ∈ t.prs
  same : r.2 = false → r.1 = t

theorem DOK.no {N : Nat} {t : RT} {key : List UInt8} (hk : Kd N t.kids) (h : ∀ q ∈ t.prs, q.1 ≠ key) : DOK N t key (t, false) :=
  ⟨rfl, hk, fun q => ⟨fun hq => ⟨hq, h q hq⟩, fun hq => hq.1⟩, ⟨fun h => by (cases h), fun ⟨u, hu⟩ => absurd rfl (h _ hu)⟩, fun _ => rfl⟩

theorem kid_of {N : Nat} {t kid : RT} {c : UInt8} {i : Nat} (hk : Kd N t.kids) (hkid : t.kids[i]? = some kid) (hhd : kid.hd = c.toNat) {q : Pr} {key : List UInt8} (hq : q ∈ t.prs) (e : q.1 = c :: key) : q ∈ pre kid.lab kid.prs := by
  rcases mem_below.1 hq with ⟨h, _⟩ | h
  · rw [e] at h; cases h
  · obtain ⟨x, hx, hm⟩ := mem_belows.1 h
    obtain ⟨d, l, e', hd⟩ := pre_head (hk.ne x hx) hm
    rw [e] at e'; cases e'
    have hxk : x = kid := by
      obtain ⟨j, hj⟩ := List.getElem?_of_mem hx
      obtain ⟨e1, e2⟩ := List.getElem?_eq_some_iff.1 hj
      obtain ⟨e3, e4⟩ := List.getElem?_eq_some_iff.1 hkid
      rcases Nat.lt_trichotomy j i with h | h | h
      · have := List.pairwise_iff_getElem.1 hk.heads _ _ e1 e3 h
        rw [e2, e4] at this; omega
      · subst h; rw [hkid] at hj; exact (Option.some.inj hj).symm
      · have := List.pairwise_iff_getElem.1 hk.heads _ _ e3 e1 h
        rw [e2, e4] at this; omega
    subst hxk
    exact hm

theorem pre_key {l key : List UInt8} (hb : key.take l.length = l) {x : List Pr} {q : Pr} : q ∈ pre l x ∧ q.1 = key ↔ ∃ p ∈ x, p.1 = key.drop l.length ∧ q = (l ++ p.1, p.2) := by
  constructor
  · rintro ⟨h, e⟩
    obtain ⟨p, hp, rfl⟩ := mem_pre.1 h
    refine ⟨p, hp, ?_, rfl⟩
    rw [← e]
    exact (List.drop_left' rfl).symm
  · rintro ⟨p, hp, e, rfl⟩
    refine ⟨mem_pre.2 ⟨p, hp, rfl⟩, ?_⟩
    show l ++ p.1 = key
    rw [e]
    conv => lhs; lhs; rw [← hb]
    exact List.take_append_drop _ _

theorem tmend_ok {N : Nat} {t : RT} (h1 : t.lab ≠ []) (h2 : t.lab.length ≤ N) (h4 : Kd (N - t.lab.length) t.kids) :
    match tmend t with
    | none => t.prs = []
    | some k => Br N k ∧ k.hd = t.hd ∧ pre k.lab k.prs = pre t.lab t.prs := by
  unfold tmend
  by_cases h : t.val.isSome = true ∨ 2 ≤ t.kids.length
  · rw [if_pos h]
    exact ⟨⟨h1, h2, h, h4⟩, rfl, rfl⟩
  · rw [if_neg h]
    have hv : t.val = none := by
      cases hv : t.val with
      | none => rfl
      | some v => exact absurd (.inl (by rw [hv]; rfl)) h
    cases hk : t.kids with
    | nil =>
      show t.prs = []
      rw [below_eq, hv, hk]; rfl
    | cons k r =>
      have hr : r = [] := by
        cases r with
        | nil => rfl
        | cons a b => exact absurd (.inr (by rw [hk]; simp)) h
      subst hr
      rw [hk] at h4
      have hb := h4.br (List.mem_singleton_self k)
      refine ⟨⟨?_, ?_, hb.2.2.1, ?_⟩, ?_, ?_⟩
      · simp only [RT.lab_node]
        intro e
        exact h1 (List.append_eq_nil_iff.1 e).1
      · simp only [RT.lab_node, List.length_append]; have := hb.2.1; omega
      · simp only [RT.lab_node, RT.kids_node, List.length_append]
        have := hb.2.2.2
        rwa [Nat.sub_sub] at this
      · obtain ⟨x, l, hl⟩ := List.exists_cons_of_ne_nil h1
        simp [RT.hd, hl]
      · have e1 : t.prs = pre k.lab k.prs := by rw [below_eq, hv, hk]; simp [ownP, belows_cons, belows_nil]
        have e2 : (RT.node (t.lab ++ k.lab) k.val k.kids).prs = k.prs := by rw [below_eq, below_eq k]; rfl
        rw [e1, pre_pre, e2]; rfl

theorem tdrop_ok : ∀ (n N : Nat) (t : RT) (key : List UInt8), key.length ≤ n → Kd N t.kids → DOK N t key (tdrop n t key)
  | n, N, t, [], _, hk => by
    have hown : ∀ u, ([], u) ∈ t.prs ↔ t.val = some u := by
      intro u
      rw [mem_below]
      constructor
      · rintro (⟨_, h⟩ | h)
        · exact h
        · exact absurd rfl (hk.key_ne h)
      · intro h; exact .inl ⟨rfl, h⟩
    cases hv : t.val with
    | none =>
      have e : tdrop n t [] = (t, false) := by cases n <;> simp [tdrop, hv]
      rw [e]
      refine DOK.no hk fun q hq e => ?_
      obtain ⟨a, b⟩ := q
      simp only at e; subst e
      have := (hown b).1 hq
      rw [hv] at this; cases this
    | some v =>
      have e : tdrop n t [] = (RT.node t.lab none t.kids, true) := by cases n <;> simp [tdrop, hv]
      rw [e]
      refine ⟨rfl, hk, fun q => ?_, ?_, fun h => by (cases h)⟩
      · rw [mem_below, mem_below]
        simp only [RT.val_node, RT.kids_node]
        constructor
        · rintro (⟨_, h⟩ | h)
          · cases h
          · exact ⟨.inr h, hk.key_ne h⟩
        · rintro ⟨h1 | h1, h2⟩
          · exact absurd h1.1 h2
          · exact .inr h1
      · exact ⟨fun _ => ⟨v, (hown v).2 hv⟩, fun _ => by simp⟩
  | 0, N, t, c :: key, hn, _ => by simp at hn
  | n + 1, N, t, c :: key, hn, hk => by
    by_cases hf : fH t.kids c.toNat = true
    · obtain ⟨kid, hkid, hhd⟩ := fH_get hk.heads hf
      have hbr := hk.br (List.mem_of_getElem? hkid)
      have hkey1 : ∀ q ∈ t.prs, q.1 = c :: key → q ∈ pre kid.lab kid.prs := fun q hq e => kid_of hk hkid hhd hq e
      by_cases hb : (c :: key).take kid.lab.length = kid.lab
      · obtain ⟨r, hr⟩ : ∃ r, r = tdrop n kid ((c :: key).drop kid.lab.length) := ⟨_, rfl⟩
        have e0 : tdrop (n + 1) t (c :: key) = (if r.2 then (RT.node t.lab t.val (match tmend r.1 with | none => t.kids.take (fI t.kids c.toNat) ++ t.kids.drop (fI t.kids c.toNat + 1) | some k => t.kids.set (fI t.kids c.toNat) k), true) else (t, false)) := by
          subst hr
          conv => lhs; unfold tdrop
          rw [if_pos hf, hkid]
          simp only
          rw [if_pos (by rw [beq_iff_eq]; exact hb)]
        rw [e0]
        have hl1 : 1 ≤ kid.lab.length := List.length_pos_iff.2 hbr.1
        have hdl := List.length_drop (i := kid.lab.length) (l := c :: key)
        have ih := tdrop_ok n (N - kid.lab.length) kid ((c :: key).drop kid.lab.length) (by simp at hdl hn ⊢; omega) hbr.2.2.2
        rw [← hr] at ih
        have hkin : ∀ u, (c :: key, u) ∈ t.prs ↔ ((c :: key).drop kid.lab.length, u) ∈ kid.prs := by
          intro u
          constructor
          · intro h
            obtain ⟨p, hp, e1, e2⟩ := (pre_key hb).1 ⟨hkey1 _ h rfl, rfl⟩
            simp only [Prod.mk.injEq] at e2
            obtain ⟨_, rfl⟩ := e2
            rw [← e1]; exact hp
          · intro h
            refine mem_below.2 (.inr (mem_belows.2 ⟨kid, List.mem_of_getElem? hkid, ?_⟩))
            have := ((pre_key hb (x := kid.prs) (q := (c :: key, u))).2 ⟨_, h, rfl, ?_⟩).1
            · exact this
            · simp only [Prod.mk.injEq, and_true]
              conv => rhs; lhs; rw [← hb]
              exact (List.take_append_drop _ _).symm
        cases hc : r.2 with
        | false =>
          rw [if_neg (by simp)]
          refine DOK.no hk fun q hq e => ?_
          have : ∃ u, ((c :: key).drop kid.lab.length, u) ∈ kid.prs := ⟨q.2, (hkin q.2).1 (by rw [← e]; exact hq)⟩
          have := ih.gone.2 this
          rw [hc] at this; cases this
        | true =>
          rw [if_pos rfl]
          obtain ⟨_, hs2⟩ := set_cut (y := kid) hkid
          obtain ⟨A, hA⟩ : ∃ A, A = t.kids.take (fI t.kids c.toNat) := ⟨_, rfl⟩
          obtain ⟨B, hB⟩ : ∃ B, B = t.kids.drop (fI t.kids c.toNat + 1) := ⟨_, rfl⟩
          rw [← hA, ← hB] at hs2
          have hhh := hk.heads
          rw [hs2] at hhh
          have hother : ∀ q, (q ∈ belows A ∨ q ∈ belows B) → q.1 ≠ c :: key := by
            intro q hq e
            have : q ∈ belows (A ++ B) := by rw [belows_append, List.mem_append]; exact hq
            obtain ⟨x, hx, hm⟩ := mem_belows.1 this
            have hxt : x ∈ t.kids := by rw [hs2]; rcases List.mem_append.1 hx with h | h <;> simp [h]
            obtain ⟨d, l, e', hd⟩ := pre_head (hk.ne x hxt) hm
            rw [e] at e'; cases e'
            have hh := hhh
            unfold Heads at hh
            rw [List.pairwise_append, List.pairwise_cons] at hh
            obtain ⟨_, ⟨h2, _⟩, h4⟩ := hh
            rcases List.mem_append.1 hx with h | h
            · have := h4 x h kid (List.mem_cons_self ..); omega
            · have := h2 x h; omega
          have hmid : ∀ q, q ∈ pre kid.lab r.1.prs ↔ q ∈ pre kid.lab kid.prs ∧ q.1 ≠ c :: key := by
            intro q
            rw [mem_pre, mem_pre]
            constructor
            · rintro ⟨p, hp, rfl⟩
              obtain ⟨h1, h2⟩ := (ih.mem p).1 hp
              refine ⟨⟨p, h1, rfl⟩, fun e => h2 ?_⟩
              simp only at e
              rw [← e]
              exact (List.drop_left' rfl).symm
            · rintro ⟨⟨p, hp, rfl⟩, h2⟩
              refine ⟨p, (ih.mem p).2 ⟨hp, fun e => h2 ?_⟩, rfl⟩
              simp only [e]
              conv => lhs; lhs; rw [← hb]
              exact List.take_append_drop _ _
          have hrl := ih.lab
          have hm := tmend_ok (N := N) (t := r.1) (by rw [hrl]; exact hbr.1) (by rw [hrl]; exact hbr.2.1) (by rw [hrl]; exact ih.kd)
          have hgone : (true = true ↔ ∃ u, (c :: key, u) ∈ t.prs) := by
            refine ⟨fun _ => ?_, fun _ => rfl⟩
            obtain ⟨u, hu⟩ := ih.gone.1 hc
            exact ⟨u, (hkin u).2 hu⟩
          have hmt : ∀ q, q ∈ t.prs ↔ (q.1 = [] ∧ t.val = some q.2) ∨ q ∈ belows A ∨ q ∈ pre kid.lab kid.prs ∨ q ∈ belows B := by
            intro q
            rw [mem_below]
            conv => lhs; rw [hs2]
            simp only [belows_append, belows_cons, List.mem_append]
          cases hmd : tmend r.1 with
          | none =>
            rw [hmd] at hm
            simp only at hm
            refine ⟨rfl, ?_, fun q => ?_, hgone, fun h => by (cases h)⟩
            · show Kd N (t.kids.take _ ++ t.kids.drop _)
              rw [← hA, ← hB]
              refine kd_iff.2 ⟨?_, fun x hx => hk.br (by rw [hs2]; rcases List.mem_append.1 hx with h | h <;> simp [h])⟩
              unfold Heads at hhh ⊢
              rw [List.pairwise_append, List.pairwise_cons] at hhh
              rw [List.pairwise_append]
              exact ⟨hhh.1, hhh.2.1.2, fun a ha b hb' => hhh.2.2 a ha b (List.mem_cons_of_mem _ hb')⟩
            · rw [mem_below, hmt]
              show (q.1 = [] ∧ t.val = some q.2) ∨ q ∈ belows (t.kids.take _ ++ t.kids.drop _) ↔ _
              rw [← hA, ← hB, belows_append, List.mem_append]
              have hz := hmid q
              rw [hm] at hz
              simp only [pre, List.map_nil, List.not_mem_nil, false_iff, not_and] at hz
              constructor
              · rintro (⟨h1, h2⟩ | h | h)
                · exact ⟨.inl ⟨h1, h2⟩, by rw [h1]; simp⟩
                · exact ⟨.inr (.inl h), hother q (.inl h)⟩
                · exact ⟨.inr (.inr (.inr h)), hother q (.inr h)⟩
              · rintro ⟨h1 | h1 | h1 | h1, h2⟩
                · exact .inl h1
                · exact .inr (.inl h1)
                · exact absurd h2 (hz h1)
                · exact .inr (.inr h1)
          | some k =>
            rw [hmd] at hm
            obtain ⟨hm1, hm2, hm3⟩ := hm
            obtain ⟨hs1, _⟩ := set_cut (y := k) hkid
            rw [← hA, ← hB] at hs1
            have hkhd : k.hd = kid.hd := by rw [hm2]; unfold RT.hd; rw [hrl]
            refine ⟨rfl, ?_, fun q => ?_, hgone, fun h => by (cases h)⟩
            · show Kd N (t.kids.set _ k)
              rw [hs1]
              refine kd_iff.2 ⟨heads_mid hhh hkhd, fun x hx => ?_⟩
              rcases List.mem_append.1 hx with h | h
              · exact hk.br (by rw [hs2]; simp [h])
              · rcases List.mem_cons.1 h with rfl | h
                · exact hm1
                · exact hk.br (by rw [hs2]; simp [h])
            · rw [mem_below, hmt]
              show (q.1 = [] ∧ t.val = some q.2) ∨ q ∈ belows (t.kids.set _ k) ↔ _
              rw [hs1, belows_append, belows_cons, List.mem_append, List.mem_append, hm3, hrl, hmid]
              constructor
              · rintro (⟨h1, h2⟩ | h | ⟨h1, h2⟩ | h)
                · exact ⟨.inl ⟨h1, h2⟩, by rw [h1]; simp⟩
                · exact ⟨.inr (.inl h), hother q (.inl h)⟩
                · exact ⟨.inr (.inr (.inl h1)), h2⟩
                · exact ⟨.inr (.inr (.inr h)), hother q (.inr h)⟩
              · rintro ⟨h1 | h1 | h1 | h1, h2⟩
                · exact .inl h1
                · exact .inr (.inl h1)
                · exact .inr (.inr (.inl ⟨h1, h2⟩))
                · exact .inr (.inr (.inr h1))
      · have e0 : tdrop (n + 1) t (c :: key) = (t, false) := by
          conv => lhs; unfold tdrop
          rw [if_pos hf, hkid]
          simp only
          rw [if_neg (by rw [beq_iff_eq]; exact hb)]
        rw [e0]
        refine DOK.no hk fun q hq e => hb ?_
        obtain ⟨p, _, rfl⟩ := mem_pre.1 (hkey1 q hq e)
        simp only at e
        rw [← e]
        exact List.take_left' rfl
    · have e0 : tdrop (n + 1) t (c :: key) = (t, false) := by
        conv => lhs; unfold tdrop
        rw [if_neg hf]
      rw [e0]
      refine DOK.no hk fun q hq e => ?_
      rcases mem_below.1 hq with ⟨h, _⟩ | h
      · rw [h] at e; cases e
      · exact not_head hk (fun k hkm e => hf (fH_iff.2 ⟨k, hkm, e⟩)) h e

theorem tdrop_prs {n N : Nat} {t : RT} {key : List UInt8} (hn : key.length ≤ n) (hk : Kd N t.kids) : (tdrop n t key).1.prs = rdrop t.prs key := by
  have h := tdrop_ok n N t key hn hk
  refine rise_ext _ _ h.kd.prs_rise (rdrop_rise hk.prs_rise _) fun p => ?_
  rw [h.mem, mem_rdrop]
end Go.QS
