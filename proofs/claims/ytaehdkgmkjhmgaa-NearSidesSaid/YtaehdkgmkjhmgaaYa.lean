/- Plain laws: who is near a key, in a tree and in its list. No program. -/
import Derived.Test.YtaehdkgmkjhmgaaRn
namespace Go.QS

/-- How a label lies to what is left of a key. -/
def trn : List UInt8 → List UInt8 → Int
  | [], _ => 0
  | _ :: _, [] => 1
  | a :: x, b :: y => if a = b then trn x y else if b < a then 1 else -1

theorem trn_zero : ∀ {lab key : List UInt8}, trn lab key = 0 → key = lab ++ key.drop lab.length
  | [], key, _ => by simp
  | a :: x, [], h => by simp [trn] at h
  | a :: x, b :: y, h => by
    unfold trn at h
    by_cases e : a = b
    · rw [if_pos e] at h
      subst e
      have := trn_zero h
      simp only [List.length_cons, List.drop_succ_cons, List.cons_append]
      rw [← this]
    · rw [if_neg e] at h
      split at h <;> cases h
theorem trn_self : ∀ (lab r : List UInt8), trn lab (lab ++ r) = 0
  | [], _ => rfl
  | a :: x, r => by rw [List.cons_append]; unfold trn; rw [if_pos rfl, trn_self x r]
theorem trn_pos : ∀ {lab key : List UInt8}, trn lab key = 1 → ∀ x, key < lab ++ x
  | [], key, h, _ => by simp [trn] at h
  | a :: l, [], _, x => List.nil_lt_cons _ _
  | a :: l, b :: y, h, x => by
    unfold trn at h
    rw [List.cons_append, List.cons_lt_cons_iff]
    by_cases e : a = b
    · rw [if_pos e] at h
      exact .inr ⟨e.symm, trn_pos h x⟩
    · rw [if_neg e] at h
      by_cases e2 : b < a
      · exact .inl e2
      · rw [if_neg e2] at h; cases h
theorem trn_neg : ∀ {lab key : List UInt8}, trn lab key = -1 → ∀ x, lab ++ x < key
  | [], key, h, _ => by simp [trn] at h
  | a :: l, [], h, x => by simp [trn] at h
  | a :: l, b :: y, h, x => by
    unfold trn at h
    rw [List.cons_append, List.cons_lt_cons_iff]
    by_cases e : a = b
    · rw [if_pos e] at h
      exact .inr ⟨e, trn_neg h x⟩
    · rw [if_neg e] at h
      by_cases e2 : b < a
      · rw [if_pos e2] at h; cases h
      · left
        rw [UInt8.lt_iff_toNat_lt] at *
        have : a.toNat ≠ b.toNat := fun h => e (UInt8.toNat_inj.1 h)
        omega
theorem trn_cases : ∀ (lab key : List UInt8), trn lab key = 0 ∨ trn lab key = 1 ∨ trn lab key = -1
  | [], key => .inl rfl
  | a :: x, [] => .inr (.inl rfl)
  | a :: x, b :: y => by
    unfold trn
    by_cases e : a = b
    · rw [if_pos e]; exact trn_cases x y
    · rw [if_neg e]
      by_cases e2 : b < a
      · rw [if_pos e2]; exact .inr (.inl rfl)
      · rw [if_neg e2]; exact .inr (.inr rfl)
/-- As the code has it. -/
theorem trn_common : ∀ (lab key : List UInt8), trn lab key = if common lab key = lab.length then 0 else if common lab key = key.length then 1 else if key[common lab key]?.getD 0 < lab[common lab key]?.getD 0 then 1 else -1
  | [], key => by simp [trn, common]
  | a :: x, [] => by simp [trn, common]
  | a :: x, b :: y => by
    unfold trn common
    by_cases e : a = b
    · rw [if_pos e, if_pos e, trn_common x y]
      simp
    · rw [if_neg e, if_neg e]
      simp

/-! ### The list's side -/
/-- Does a pair count? -/
def prd (down itself : Bool) (key : List UInt8) (p : Pr) : Bool :=
  if down then decide (p.1 < key) || (itself && p.1 == key) else decide (key < p.1) || (itself && p.1 == key)
def pick (down : Bool) (x : List Pr) : Option Pr := if down then x.getLast? else x.head?
def nearL (down itself : Bool) (key : List UInt8) (x : List Pr) : Option Pr := pick down (x.filter (prd down itself key))
def opre (a : List UInt8) (o : Option Pr) : Option Pr := o.map fun p => (a ++ p.1, p.2)
theorem opre_opre (a b : List UInt8) (o : Option Pr) : opre a (opre b o) = opre (a ++ b) o := by cases o <;> simp [opre]
theorem opre_none (a : List UInt8) : opre a none = none := rfl
theorem opre_or (a : List UInt8) (o p : Option Pr) : opre a (o.or p) = (opre a o).or (opre a p) := by cases o <;> simp [opre]
theorem pick_pre (d : Bool) (a : List UInt8) (x : List Pr) : pick d (pre a x) = opre a (pick d x) := by
  cases d <;> simp [pick, pre, opre]
theorem pick_app (d : Bool) (a b : List Pr) : pick d (a ++ b) = if d then (pick d b).or (pick d a) else (pick d a).or (pick d b) := by
  cases d <;> simp [pick]
theorem nearL_app (d i : Bool) (key : List UInt8) (a b : List Pr) : nearL d i key (a ++ b) = if d then (nearL d i key b).or (nearL d i key a) else (nearL d i key a).or (nearL d i key b) := by
  unfold nearL; rw [List.filter_append, pick_app]
theorem nearL_nil (d i : Bool) (key : List UInt8) : nearL d i key [] = none := by cases d <;> rfl

theorem prd_pre (d i : Bool) (lab r : List UInt8) (p : Pr) : prd d i (lab ++ r) (lab ++ p.1, p.2) = prd d i r p := by
  unfold prd
  have h1 : (lab ++ p.1 == lab ++ r) = (p.1 == r) := by rw [Bool.eq_iff_iff]; simp
  simp only [app_lt, h1]
theorem nearL_zero {d i : Bool} {lab key : List UInt8} (h : trn lab key = 0) (x : List Pr) : nearL d i key (pre lab x) = opre lab (nearL d i (key.drop lab.length) x) := by
  obtain ⟨r, hr⟩ : ∃ r, r = key.drop lab.length := ⟨_, rfl⟩
  have hk := trn_zero h
  rw [← hr] at hk ⊢
  rw [hk]
  unfold nearL
  rw [← pick_pre]
  congr 1
  unfold pre
  rw [List.filter_map]
  congr 1
  exact List.filter_congr fun p _ => prd_pre d i lab r p
theorem nearL_neg {d i : Bool} {lab key : List UInt8} (h : trn lab key = -1) (x : List Pr) : nearL d i key (pre lab x) = if d then opre lab (pick d x) else none := by
  have hx : ∀ p ∈ pre lab x, p.1 < key := by
    intro p hp
    obtain ⟨q, _, rfl⟩ := mem_pre.1 hp
    exact trn_neg h _
  cases d with
  | true =>
    rw [if_pos rfl, ← pick_pre]
    unfold nearL
    rw [List.filter_eq_self.2]
    intro p hp
    simp [prd, hx p hp]
  | false =>
    rw [if_neg (by simp)]
    unfold nearL
    rw [List.filter_eq_nil_iff.2]
    · rfl
    · intro p hp
      have := hx p hp
      simp only [prd, Bool.false_eq_true, if_false, Bool.or_eq_true, decide_eq_true_eq, Bool.and_eq_true, beq_iff_eq, not_or, not_and]
      exact ⟨k_asymm this, fun _ => k_ne this⟩
theorem nearL_pos {d i : Bool} {lab key : List UInt8} (h : trn lab key = 1) (x : List Pr) : nearL d i key (pre lab x) = if d then none else opre lab (pick d x) := by
  have hx : ∀ p ∈ pre lab x, key < p.1 := by
    intro p hp
    obtain ⟨q, _, rfl⟩ := mem_pre.1 hp
    exact trn_pos h _
  cases d with
  | false =>
    rw [if_neg (by simp), ← pick_pre]
    unfold nearL
    rw [List.filter_eq_self.2]
    intro p hp
    simp [prd, hx p hp]
  | true =>
    rw [if_pos rfl]
    unfold nearL
    rw [List.filter_eq_nil_iff.2]
    · rfl
    · intro p hp
      have := hx p hp
      simp only [prd, if_true, Bool.or_eq_true, decide_eq_true_eq, Bool.and_eq_true, beq_iff_eq, not_or, not_and]
      exact ⟨k_asymm this, fun _ => fun e => k_ne this e.symm⟩

/-! ### The tree's side -/
theorem br_ne : ∀ (N : Nat) {k : RT}, Br N k → k.prs ≠ []
  | N, k, h => by
    obtain ⟨h1, h2, h3, h4⟩ := h
    rw [below_eq]
    intro e
    rw [List.append_eq_nil_iff] at e
    rcases h3 with h3 | h3
    · cases hv : k.val with
      | none => rw [hv] at h3; cases h3
      | some v => rw [hv] at e; cases e.1
    · cases hk : k.kids with
      | nil => rw [hk] at h3; simp at h3
      | cons k' r =>
        have hb := h4.br (k := k') (by rw [hk]; exact List.mem_cons_self ..)
        have hl : 0 < k.lab.length := List.length_pos_iff.2 h1
        have := br_ne (N - k.lab.length) hb
        rw [hk, belows_cons, List.append_eq_nil_iff] at e
        simp [pre] at e
        exact this e.2.1
termination_by N _ => N
decreasing_by omega

theorem head_own {t : RT} {v : List UInt8} (h : t.val = some v) : pick false t.prs = some ([], v) := by rw [below_eq, h]; rfl
theorem head_kid {t k : RT} {r : List RT} (h : t.val = none) (hk : t.kids = k :: r) (hne : k.prs ≠ []) : pick false t.prs = opre k.lab (pick false k.prs) := by
  rw [below_eq, h, hk, belows_cons, ← pick_pre]
  obtain ⟨p, l, e⟩ := List.exists_cons_of_ne_nil hne
  rw [e]; rfl
theorem head_no {t : RT} (h : t.val = none) (hk : t.kids = []) : pick false t.prs = none := by rw [below_eq, h, hk]; rfl
theorem last_kid {t k : RT} {r : List RT} (hk : t.kids = r ++ [k]) (hne : k.prs ≠ []) : pick true t.prs = opre k.lab (pick true k.prs) := by
  rw [below_eq, hk, belows_append, belows_cons, belows_nil, List.append_nil, ← pick_pre, ← List.append_assoc, pick_app, if_pos rfl]
  have : ∃ p, pick true (pre k.lab k.prs) = some p := by
    rw [pick_pre]
    unfold pick
    rw [if_pos rfl, List.getLast?_eq_some_getLast hne]
    exact ⟨_, rfl⟩
  obtain ⟨p, hp⟩ := this
  rw [hp]; rfl
theorem last_own {t : RT} (hk : t.kids = []) : pick true t.prs = (t.val.map fun v => ([], v)) := by
  rw [below_eq, hk, belows_nil, List.append_nil]
  cases t.val <;> rfl

/-- What a node's own pair counts for, going down. -/
def ownDown (key : List UInt8) (t : RT) : Option Pr := if key = [] then none else t.val.map fun v => ([], v)
theorem near_itself {d : Bool} {N : Nat} {t : RT} {v : List UInt8} (hk : Kd N t.kids) (h : t.val = some v) : nearL d true [] t.prs = some ([], v) := by
  rw [below_eq, h, nearL_app]
  have h1 : ∀ d, nearL d true [] (ownP (some v)) = some ([], v) := by intro d; cases d <;> rfl
  cases d with
  | false => rw [if_neg (by simp), h1]; rfl
  | true =>
    rw [if_pos rfl, h1]
    have : nearL true true [] (belows t.kids) = none := by
      unfold nearL
      rw [List.filter_eq_nil_iff.2]
      · rfl
      · intro p hp
        have := hk.key_ne hp
        simp [prd, this]
    rw [this]; rfl
theorem near_node {d i : Bool} {N : Nat} {t : RT} {key : List UInt8} (_hk : Kd N t.kids) (h : ¬ (key = [] ∧ t.val.isSome = true ∧ i = true)) : nearL d i key t.prs = if d then (nearL d i key (belows t.kids)).or (ownDown key t) else nearL d i key (belows t.kids) := by
  rw [below_eq, nearL_app]
  have h1 : nearL d i key (ownP t.val) = if d then ownDown key t else none := by
    cases hv : t.val with
    | none => cases d <;> simp [nearL, pick, ownP, ownDown, hv]
    | some v =>
      unfold nearL ownP ownDown
      cases key with
      | nil =>
        have hi : i = false := by simpa [hv] using h
        subst hi
        cases d <;> simp [prd, pick]
      | cons c key => cases d <;> simp [prd, pick, hv]
  rw [h1]
  cases d <;> simp

/-- Going up or down through kids: from a place on, those ahead having told nothing. -/
theorem near_up {i : Bool} {key : List UInt8} {ks : List RT} {j : Nat} {k : RT} (hk : ks[j]? = some k) : nearL false i key (belows (ks.drop j)) = (nearL false i key (pre k.lab k.prs)).or (nearL false i key (belows (ks.drop (j + 1)))) := by
  obtain ⟨hj, rfl⟩ := List.getElem?_eq_some_iff.1 hk
  rw [← List.getElem_cons_drop hj, belows_cons, nearL_app]; rfl
theorem near_down {i : Bool} {key : List UInt8} {ks : List RT} {j : Nat} {k : RT} (hk : ks[j]? = some k) : nearL true i key (belows (ks.take (j + 1))) = (nearL true i key (pre k.lab k.prs)).or (nearL true i key (belows (ks.take j))) := by
  obtain ⟨hj, rfl⟩ := List.getElem?_eq_some_iff.1 hk
  rw [List.take_add_one, List.getElem?_eq_getElem hj, belows_append, nearL_app]
  show (nearL true i key (belows [ks[j]])).or _ = _
  rw [belows_cons, belows_nil, List.append_nil]

/-! ### Longest -/
def begB (s w : List UInt8) : Bool := s.take w.length == w
theorem begB_iff {s w : List UInt8} : begB s w = true ↔ ∃ r, s = w ++ r := by
  unfold begB
  rw [beq_iff_eq]
  constructor
  · intro h
    refine ⟨s.drop w.length, ?_⟩
    conv => lhs; rw [← List.take_append_drop w.length s, h]
  · rintro ⟨r, rfl⟩; exact List.take_left
theorem begB_app (l a b : List UInt8) : begB (l ++ a) (l ++ b) = begB a b := by
  rw [Bool.eq_iff_iff, begB_iff, begB_iff]
  constructor
  · rintro ⟨r, h⟩
    exact ⟨r, by rw [List.append_assoc] at h; exact List.append_cancel_left h⟩
  · rintro ⟨r, rfl⟩; exact ⟨r, by simp⟩
def longL (key : List UInt8) (x : List Pr) : Option Pr := (x.filter fun p => begB key p.1).getLast?
theorem longL_app (key : List UInt8) (a b : List Pr) : longL key (a ++ b) = (longL key b).or (longL key a) := by simp [longL]
theorem longL_zero {lab key : List UInt8} (h : begB key lab = true) (x : List Pr) : longL key (pre lab x) = opre lab (longL (key.drop lab.length) x) := by
  obtain ⟨r, rfl⟩ := begB_iff.1 h
  unfold longL opre pre
  rw [List.filter_map, List.drop_left, List.getLast?_map]
  congr 2
  exact List.filter_congr fun p _ => begB_app lab r p.1
theorem longL_none {lab key : List UInt8} (h : begB key lab = false) (x : List Pr) : longL key (pre lab x) = none := by
  unfold longL
  rw [List.filter_eq_nil_iff.2]
  · rfl
  · intro p hp hb
    obtain ⟨q, _, rfl⟩ := mem_pre.1 hp
    obtain ⟨r, hr⟩ := begB_iff.1 hb
    have : begB key lab = true := begB_iff.2 ⟨q.1 ++ r, by rw [hr]; simp⟩
    rw [h] at this; cases this
theorem begB_hd {key : List UInt8} {k : RT} (hne : k.lab ≠ []) (h : begB key k.lab = true) : key ≠ [] ∧ (key.headD 0).toNat = k.hd := by
  obtain ⟨c, l, hl⟩ := List.exists_cons_of_ne_nil hne
  obtain ⟨r, hr⟩ := begB_iff.1 h
  rw [hl] at hr
  subst hr
  exact ⟨by simp, (hd_eq hl).symm⟩
/-- Kids' labels that no key shares but one's. -/
theorem longL_kids {N : Nat} {ks : List RT} (h : Kd N ks) {j : Nat} {k : RT} (hk : ks[j]? = some k) {key : List UInt8} (hb : begB key k.lab = true) : longL key (belows ks) = opre k.lab (longL (key.drop k.lab.length) k.prs) := by
  have hz : ∀ (l : List RT), (∀ q ∈ l, q ∈ ks ∧ q.hd ≠ k.hd) → longL key (belows l) = none := by
    intro l
    induction l with
    | nil => intro _; rfl
    | cons q l ih =>
      intro hl
      rw [belows_cons, longL_app, ih fun q hq => hl q (List.mem_cons_of_mem _ hq), longL_none]
      · rfl
      · obtain ⟨h1, h2⟩ := hl q (List.mem_cons_self ..)
        rw [Bool.eq_false_iff]
        intro hq
        have e1 := (begB_hd (h.ne q h1) hq).2
        have e2 := (begB_hd (h.ne k (List.mem_of_getElem? hk)) hb).2
        exact h2 (by rw [← e1, ← e2])
  obtain ⟨hj, rfl⟩ := List.getElem?_eq_some_iff.1 hk
  have hs := h.heads
  have e : ks = ks.take j ++ ks[j] :: ks.drop (j + 1) := by rw [List.getElem_cons_drop, List.take_append_drop]
  have e2 : belows ks = belows (ks.take j) ++ (pre ks[j].lab ks[j].prs ++ belows (ks.drop (j + 1))) := by rw [← belows_cons, ← belows_append, ← e]
  rw [e] at hs
  unfold Heads at hs
  rw [List.pairwise_append, List.pairwise_cons] at hs
  obtain ⟨_, ⟨h2, _⟩, h4⟩ := hs
  rw [e2, longL_app, longL_app, hz (ks.drop (j + 1)), hz (ks.take j), longL_zero hb]
  · simp
  · intro q hq; exact ⟨List.mem_of_mem_take hq, Nat.ne_of_lt (h4 q hq _ (List.mem_cons_self ..))⟩
  · intro q hq; exact ⟨List.mem_of_mem_drop hq, (Nat.ne_of_lt (h2 q hq)).symm⟩
theorem longL_nokid {ks : List RT} {key : List UInt8} (hb : ∀ k ∈ ks, begB key k.lab = false) : longL key (belows ks) = none := by
  induction ks with
  | nil => rfl
  | cons k ks ih => rw [belows_cons, longL_app, ih fun q hq => hb q (List.mem_cons_of_mem _ hq), longL_none (hb k (List.mem_cons_self ..))]; rfl
theorem longL_node (key : List UInt8) (t : RT) : longL key t.prs = (longL key (belows t.kids)).or (t.val.map fun v => ([], v)) := by
  rw [below_eq, longL_app]
  cases t.val with
  | none => rfl
  | some v => cases key <;> rfl

/-! ### Rank -/
def rankL (key : List UInt8) (x : List Pr) : Nat := (x.filter fun p => decide (p.1 < key)).length
theorem rankL_app (key : List UInt8) (a b : List Pr) : rankL key (a ++ b) = rankL key a + rankL key b := by simp [rankL]
theorem rankL_zero {lab key : List UInt8} (h : trn lab key = 0) (x : List Pr) : rankL key (pre lab x) = rankL (key.drop lab.length) x := by
  obtain ⟨r, hr⟩ : ∃ r, r = key.drop lab.length := ⟨_, rfl⟩
  have hk := trn_zero h
  rw [← hr] at hk ⊢
  rw [hk]
  unfold rankL pre
  rw [List.filter_map, List.length_map]
  congr 1
  refine List.filter_congr fun p _ => ?_
  simp only [Function.comp, app_lt]
theorem rankL_neg {lab key : List UInt8} (h : trn lab key = -1) (x : List Pr) : rankL key (pre lab x) = x.length := by
  unfold rankL
  rw [List.filter_eq_self.2]
  · simp [pre]
  · intro p hp
    obtain ⟨q, _, rfl⟩ := mem_pre.1 hp
    simpa using trn_neg h q.1
theorem rankL_pos {lab key : List UInt8} (h : trn lab key = 1) (x : List Pr) : rankL key (pre lab x) = 0 := by
  unfold rankL
  rw [List.filter_eq_nil_iff.2]
  · rfl
  · intro p hp
    obtain ⟨q, _, rfl⟩ := mem_pre.1 hp
    simpa using k_asymm (trn_pos h q.1)
theorem rankL_own (key : List UInt8) (t : RT) : rankL key t.prs = (if t.val.isSome = true ∧ key ≠ [] then 1 else 0) + rankL key (belows t.kids) := by
  rw [below_eq, rankL_app]
  congr 1
  cases t.val with
  | none => rfl
  | some v => cases key <;> simp [rankL, ownP]
theorem rankL_step {key : List UInt8} {ks : List RT} {j : Nat} {k : RT} (hk : ks[j]? = some k) : rankL key (belows (ks.drop j)) = rankL key (pre k.lab k.prs) + rankL key (belows (ks.drop (j + 1))) := by
  obtain ⟨hj, rfl⟩ := List.getElem?_eq_some_iff.1 hk
  rw [← List.getElem_cons_drop hj, belows_cons, rankL_app]
theorem rankL_tail {N : Nat} {ks : List RT} (h : Kd N ks) {key : List UInt8} {j : Nat} {k : RT} (hk : ks[j]? = some k) (h0 : trn k.lab key = 0) : rankL key (belows (ks.drop (j + 1))) = 0 := by
  obtain ⟨hj, rfl⟩ := List.getElem?_eq_some_iff.1 hk
  have hp := h.heads
  have hb := trn_zero h0
  have hne := h.ne _ (List.getElem_mem hj)
  obtain ⟨c, l, hl⟩ := List.exists_cons_of_ne_nil hne
  have hd := hd_eq hl
  have hkey : ∃ r, key = c :: r := ⟨_, by rw [hb, hl]; rfl⟩
  obtain ⟨r, rfl⟩ := hkey
  unfold rankL
  rw [List.filter_eq_nil_iff.2]
  · rfl
  · intro p hp2
    obtain ⟨q, hq, hq2⟩ := mem_belows.1 hp2
    obtain ⟨t, ht⟩ := List.getElem?_of_mem hq
    rw [List.getElem?_drop] at ht
    obtain ⟨ht1, ht2⟩ := List.getElem?_eq_some_iff.1 ht
    have hlt := List.pairwise_iff_getElem.1 hp j (j + 1 + t) hj ht1 (by omega)
    rw [ht2] at hlt
    obtain ⟨d, m, e, hd2⟩ := pre_head (h.ne q (List.mem_of_mem_drop hq)) hq2
    rw [e]
    simp only [decide_eq_true_eq]
    exact k_asymm (head_lt (by omega))
end Go.QS
