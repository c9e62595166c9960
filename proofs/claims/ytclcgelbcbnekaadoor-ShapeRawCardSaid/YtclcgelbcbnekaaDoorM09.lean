/- Texts joined. -/
import Derived.Test.YtclcgelbcbnekaaDoorM08
import Derived.Test.YtclcgelbcbnekaaDoorM00
set_option linter.unusedVariables false
set_option linter.unusedSimpArgs false
/- A node as a tree, chunk by chunk: how it looks, which pairs it has, when it is the trie of its pairs. Plain. -/
namespace Go.QS
open Go.RowKit Go.QS.Nk
variable [Zero (Nat → Prop)]
set_option linter.unusedSectionVars false

/-- A node and all below it. -/
inductive NT where
  | bk (l : List Pr)
  | inn (is : Nat → Nat) (p : Nat → Pr) (k : Nat → NT)
/-- A chunk. -/
def slN (is : Nat → Nat) (p : Nat → Pr) (k : Nat → NT) (c : Nat) : Slot NT := if is c = 1 then .pr (p c) else if is c = 2 then .kid (k c) else .no
def slsN (is : Nat → Nat) (p : Nat → Pr) (k : Nat → NT) : List (Slot NT) := (List.range 32).map (slN is p k)
theorem slsN_length (is : Nat → Nat) (p : Nat → Pr) (k : Nat → NT) : (slsN is p k).length = 32 := by simp [slsN]
theorem slsN_get (is : Nat → Nat) (p : Nat → Pr) (k : Nat → NT) {c : Nat} (h : c < 32) : (slsN is p k)[c]? = some (slN is p k c) := by
  unfold slsN
  rw [List.getElem?_map, List.getElem?_range h]; rfl
/-- All its pairs. -/
def prsN : NT → List Pr
  | .bk l => l
  | .inn is p k => (List.range 32).flatMap fun c => if is c = 1 then [p c] else if is c = 2 then prsN (k c) else []
/-- Those of so many levels. -/
def allN : NT → Nat → List Pr
  | .bk l, _ => l
  | .inn is p k, f => (List.range 32).flatMap fun c => if is c = 1 then [p c] else if is c = 2 then (match f with | 0 => [] | f' + 1 => allN (k c) f') else []
/-- A hash leads along a way. -/
def Leads (x : Nat) (way : List Nat) : Prop := ∀ (i c : Nat), way[i]? = some c → chk x i = c
theorem Leads.snoc {x : Nat} {way : List Nat} {c : Nat} (h : Leads x way) (hc : chk x way.length = c) : Leads x (way ++ [c]) := by
  intro i d hi
  rcases Nat.lt_or_ge i way.length with hl | hg
  · rw [List.getElem?_append_left hl] at hi; exact h i d hi
  · rw [List.getElem?_append_right hg] at hi
    have h0 : i - way.length = 0 := by
      rcases Nat.eq_zero_or_pos (i - way.length) with h0 | h0
      · exact h0
      · rw [List.getElem?_eq_none (by simp; omega)] at hi; cases hi
    rw [h0] at hi
    simp at hi
    have e : i = way.length := by omega
    rw [e, hc, hi]
theorem Leads.init {x : Nat} {way : List Nat} {c : Nat} (h : Leads x (way ++ [c])) : Leads x way ∧ chk x way.length = c :=
  ⟨fun i d hi => h i d (by rw [List.getElem?_append_left (List.getElem?_eq_some_iff.1 hi).1]; exact hi), h way.length c (by simp)⟩
/-- Is it the trie of its pairs, at the end of a way? -/
def okN (H : List UInt8 → Nat) : NT → List Nat → Prop
  | .bk l, way => way.length = 13 ∧ Rise l ∧ ∀ p ∈ l, Leads (H p.1) way
  | .inn is p k, way => way.length < 13 ∧ (∀ c, c < 32 → is c = 1 → Leads (H (p c).1) (way ++ [c])) ∧ ∀ c, c < 32 → is c = 2 → okN H (k c) (way ++ [c]) ∧ 2 ≤ (prsN (k c)).length
/-- The trie of a list. -/
def trT (H : List UInt8 → Nat) : Nat → List Pr → NT
  | 0, l => .bk l
  | f + 1, l => .inn (fun c => min 2 (part H (12 - f) c l).length) (fun c => (part H (12 - f) c l).headD ([], [])) (fun c => trT H f (part H (12 - f) c l))
/-- A chunk has just these pairs. -/
def SlotM {α : Type} (R : α → List Pr → Prop) (s : Slot α) (x : List Pr) : Prop :=
  match s with
  | .no => x = []
  | .pr p => x = [p]
  | .kid k => 2 ≤ x.length ∧ R k x
theorem slots_m {α β : Type} {g : α → List β} {h : List Pr → List β} : ∀ (cs : List Nat) (S : Nat → Slot α) (P : Nat → List Pr), (∀ c ∈ cs, SlotM (fun k x => g k = h x) (S c) (P c)) →
    bitsOf Slot.isP (cs.map S) = bitsL isOne (cs.map P) ∧ bitsOf Slot.isK (cs.map S) = bitsL isTwo (cs.map P) ∧ prsOf (cs.map S) = ones (cs.map P) ∧ (kdsOf (cs.map S)).flatMap g = ((twos (cs.map P)).map h).flatten
  | [], _, _, _ => ⟨rfl, rfl, rfl, rfl⟩
  | c :: cs, S, P, hs => by
    obtain ⟨i1, i2, i3, i4⟩ := slots_m cs S P (fun d hd => hs d (List.mem_cons_of_mem _ hd))
    have h0 := hs c (List.mem_cons_self ..)
    simp only [List.map_cons]
    generalize S c = s at h0
    generalize P c = x at h0
    cases s with
    | no =>
      have e : x = [] := h0
      subst e
      rw [(ones_e _).1, (ones_e _).2]
      exact ⟨by simp [bitsOf, bitsL, isOne, i1], by simp [bitsOf, bitsL, isTwo, i2], i3, i4⟩
    | pr p =>
      have e : x = [p] := h0
      subst e
      rw [(ones_p p _).1, (ones_p p _).2]
      exact ⟨by simp [bitsOf, bitsL, isOne, i1], by simp [bitsOf, bitsL, isTwo, i2], by rw [prsOf_pr, i3], i4⟩
    | kid q =>
      have e : 2 ≤ x.length ∧ g q = h x := h0
      match x, e with
      | a :: b :: r, e =>
        rw [(ones_t a b r _).1, (ones_t a b r _).2]
        refine ⟨by simp [bitsOf, bitsL, isOne, i1], by simp [bitsOf, bitsL, isTwo, i2], i3, ?_⟩
        rw [kdsOf_kid, List.flatMap_cons, List.map_cons, List.flatten_cons, i4, e.2]
theorem kds_flat {β : Type} (is : Nat → Nat) (p : Nat → Pr) (k : Nat → NT) (g : NT → List β) : ∀ cs : List Nat, cs.flatMap (fun c => if is c = 2 then g (k c) else []) = (kdsOf (cs.map (slN is p k))).flatMap g
  | [] => rfl
  | c :: cs => by
    have ih := kds_flat is p k g cs
    rw [List.flatMap_cons, List.map_cons, ih]
    by_cases h2 : is c = 2
    · have e : slN is p k c = .kid (k c) := by unfold slN; rw [if_neg (by omega), if_pos h2]
      rw [if_pos h2, e, kdsOf_kid, List.flatMap_cons]
    · rw [if_neg h2, List.nil_append]
      by_cases h1 : is c = 1
      · have e : slN is p k c = .pr (p c) := by unfold slN; rw [if_pos h1]
        rw [e, kdsOf_pr]
      · have e : slN is p k c = .no := by unfold slN; rw [if_neg h1, if_neg h2]
        rw [e, kdsOf_no]
/-- Of lists that are told apart by a number, one is cut out by it. -/
theorem flat_filter {F : Nat → List Pr} {q : Pr → Nat} {c : Nat} : ∀ {cs : List Nat}, cs.Nodup → (∀ d ∈ cs, ∀ p ∈ F d, q p = d) → (cs.flatMap F).filter (fun p => q p == c) = if c ∈ cs then F c else []
  | [], _, _ => by simp
  | d :: cs, hn, h => by
    obtain ⟨h1, h2⟩ := List.nodup_cons.1 hn
    rw [List.flatMap_cons, List.filter_append, flat_filter h2 (fun e he => h e (List.mem_cons_of_mem _ he))]
    by_cases e : c = d
    · subst e
      rw [if_neg h1, if_pos (List.mem_cons_self ..), List.append_nil]
      refine List.filter_eq_self.2 fun p hp => ?_
      rw [h c (List.mem_cons_self ..) p hp]; simp
    · have e1 : (F d).filter (fun p => q p == c) = [] := by
        refine List.filter_eq_nil_iff.2 fun p hp => ?_
        rw [h d (List.mem_cons_self ..) p hp]; simp; exact fun e' => e e'.symm
      rw [e1, List.nil_append]
      by_cases hc : c ∈ cs
      · rw [if_pos hc, if_pos (List.mem_cons_of_mem _ hc)]
      · rw [if_neg hc, if_neg (by simp [e, hc])]
theorem flat_perm {F G : Nat → List Pr} : ∀ {cs : List Nat}, (∀ c ∈ cs, (F c).Perm (G c)) → (cs.flatMap F).Perm (cs.flatMap G)
  | [], _ => List.Perm.refl _
  | c :: cs, h => by
    rw [List.flatMap_cons, List.flatMap_cons]
    exact (h c (List.mem_cons_self ..)).append (flat_perm fun d hd => h d (List.mem_cons_of_mem _ hd))
theorem flat_len {F G : Nat → List Pr} : ∀ {cs : List Nat}, (∀ c ∈ cs, (F c).length = (G c).length) → (cs.flatMap F).length = (cs.flatMap G).length
  | [], _ => rfl
  | c :: cs, h => by
    rw [List.flatMap_cons, List.flatMap_cons, List.length_append, List.length_append, h c (List.mem_cons_self ..), flat_len fun d hd => h d (List.mem_cons_of_mem _ hd)]
theorem parts_flat (H : List UInt8 → Nat) (lv : Nat) (l : List Pr) : (parts H lv l).flatten = (List.range 32).flatMap fun c => part H lv c l := by
  unfold parts
  rw [List.flatMap_def]
theorem min_two {n : Nat} : (min 2 n = 1 ↔ n = 1) ∧ (min 2 n = 2 ↔ 2 ≤ n) := by omega
theorem prsN_trT (H : List UInt8 → Nat) : ∀ (f : Nat) (l : List Pr), (prsN (trT H f l)).Perm l
  | 0, l => List.Perm.refl _
  | f + 1, l => by
    refine List.Perm.trans ?_ (parts_perm H (12 - f) l)
    rw [parts_flat]
    show ((List.range 32).flatMap fun c => if min 2 (part H (12 - f) c l).length = 1 then [(part H (12 - f) c l).headD ([], [])] else if min 2 (part H (12 - f) c l).length = 2 then prsN (trT H f (part H (12 - f) c l)) else []).Perm _
    refine flat_perm fun c _ => ?_
    generalize part H (12 - f) c l = x
    match x with
    | [] => exact List.Perm.refl _
    | [p] => exact List.Perm.refl _
    | a :: b :: r =>
      rw [if_neg (by simp), if_pos (by simp)]
      exact prsN_trT H f _
/-- The pairs of a tree that is canonical lie all in reach. -/
theorem allN_ok {H : List UInt8 → Nat} : ∀ (t : NT) (way : List Nat), okN H t way → allN t (13 - way.length) = prsN t
  | .bk l, way, _ => rfl
  | .inn is p k, way, ⟨h1, _, h3⟩ => by
    have e : 13 - way.length = (12 - way.length) + 1 := by omega
    rw [e]
    show (List.range 32).flatMap _ = (List.range 32).flatMap _
    rw [List.flatMap_def, List.flatMap_def]
    congr 1
    refine List.map_congr_left fun c hc => ?_
    by_cases i1 : is c = 1
    · rw [if_pos i1, if_pos i1]
    · rw [if_neg i1, if_neg i1]
      by_cases i2 : is c = 2
      · rw [if_pos i2, if_pos i2]
        have := allN_ok (k c) (way ++ [c]) (h3 c (List.mem_range.1 hc) i2).1
        rw [List.length_append, List.length_singleton] at this
        rw [← this]
        show allN (k c) (12 - way.length) = _
        congr 1
        omega
      · rw [if_neg i2, if_neg i2]
end Go.QS
namespace Go.Proofs.YtclcgelbcbnekaaDoor
open Go.RowKit Go.QS Go.QS.Nk
set_option linter.unusedVariables false
variable [Zero (Nat → Prop)]
set_option linter.unusedSectionVars false

/-- How a node looks, so many levels above the last one. -/
def lookN : NT → Nat → List UInt8
  | .bk l, _ => buckB l
  | .inn is p k, f => headB (dataOf (slsN is p k)) (nodesOf (slsN is p k)) (prsOf (slsN is p k)) ++ (match f with | 0 => [] | f' + 1 => (List.range 32).flatMap fun c => if is c = 2 then lookN (k c) f' else [])
theorem lookN_succ (is : Nat → Nat) (p : Nat → Pr) (k : Nat → NT) (f : Nat) : lookN (.inn is p k) (f + 1) = headB (dataOf (slsN is p k)) (nodesOf (slsN is p k)) (prsOf (slsN is p k)) ++ (kdsOf (slsN is p k)).flatMap (fun t => lookN t f) := by
  show headB _ _ _ ++ (List.range 32).flatMap _ = _
  rw [kds_flat is p k (fun t => lookN t f)]; rfl
/-- Short texts, few pairs in a bucket. -/
def NSm : NT → Prop
  | .bk l => PSm l ∧ l.length < 65536
  | .inn is p k => ∀ c, c < 32 → (is c = 1 → (p c).1.length < 65536 ∧ (p c).2.length < 65536) ∧ (is c = 2 → NSm (k c))
theorem look_of_slots {H : List UInt8 → Nat} {is : Nat → Nat} {p : Nat → Pr} {k : Nat → NT} {f : Nat} {l : List Pr} (h : ∀ c, c < 32 → SlotM (fun t x => lookN t f = shp H f x) (slN is p k c) (Go.QS.part H (12 - f) c l)) : lookN (.inn is p k) (f + 1) = shp H (f + 1) l := by
  obtain ⟨i1, i2, i3, i4⟩ := slots_m (g := fun t => lookN t f) (h := shp H f) (List.range 32) (slN is p k) (fun c => Go.QS.part H (12 - f) c l) (fun c hc => h c (List.mem_range.1 hc))
  rw [lookN_succ]
  show headB (bitsOf Slot.isP ((List.range 32).map (slN is p k))) (bitsOf Slot.isK ((List.range 32).map (slN is p k))) (prsOf ((List.range 32).map (slN is p k))) ++ (kdsOf ((List.range 32).map (slN is p k))).flatMap _ = _
  rw [i1, i2, i3, i4]
  rfl
theorem lookN_trT (H : List UInt8 → Nat) : ∀ (f : Nat) (l : List Pr), lookN (trT H f l) f = shp H f l
  | 0, l => rfl
  | f + 1, l => by
    refine look_of_slots fun c _ => ?_
    have ih := lookN_trT H f (Go.QS.part H (12 - f) c l)
    simp only [slN]
    generalize Go.QS.part H (12 - f) c l = x at ih
    match x with
    | [] => rw [if_neg (by simp), if_neg (by simp)]; rfl
    | [p] => rw [if_pos (by simp)]; rfl
    | a :: b :: r =>
      rw [if_neg (by simp), if_pos (by simp)]
      exact ⟨by simp, ih⟩
/-- What is canonical looks as the trie of its pairs. -/
theorem ok_look {H : List UInt8 → Nat} : ∀ (t : NT) (way : List Nat), okN H t way →
    (∀ p ∈ prsN t, Leads (H p.1) way) ∧ ((prsN t).Pairwise fun p q => p.1 ≠ q.1) ∧ ∀ l, Rise l → l.Perm (prsN t) → lookN t (13 - way.length) = shp H (13 - way.length) l
  | .bk l0, way, ⟨h1, h2, h3⟩ => by
    refine ⟨h3, List.Pairwise.imp (fun h e => by rw [e] at h; exact List.lt_irrefl _ h) h2, fun l hl hp => ?_⟩
    have e : l = l0 := rise_of_perm hl h2 hp
    rw [h1, e]; rfl
  | .inn is p k, way, ⟨h1, h2, h3⟩ => by
    have ih := fun c (hc : c < 32) (i2 : is c = 2) => ok_look (k c) (way ++ [c]) (h3 c hc i2).1
    obtain ⟨F, hF⟩ : ∃ F : Nat → List Pr, F = fun c => if is c = 1 then [p c] else if is c = 2 then prsN (k c) else [] := ⟨_, rfl⟩
    have e0 : prsN (.inn is p k) = (List.range 32).flatMap F := by rw [hF]; rfl
    have hl : ∀ c, c < 32 → ∀ q ∈ F c, Leads (H q.1) (way ++ [c]) := fun c hc q hq => by
      rw [hF] at hq
      simp only at hq
      by_cases i1 : is c = 1
      · rw [if_pos i1] at hq
        rw [List.mem_singleton.1 hq]
        exact h2 c hc i1
      · rw [if_neg i1] at hq
        by_cases i2 : is c = 2
        · rw [if_pos i2] at hq
          exact (ih c hc i2).1 q hq
        · rw [if_neg i2] at hq; cases hq
    rw [e0]
    refine ⟨fun q hq => ?_, ?_, fun l hl1 hp => ?_⟩
    · obtain ⟨c, hc, hq⟩ := List.mem_flatMap.1 hq
      exact (hl c (List.mem_range.1 hc) q hq).init.1
    · rw [List.pairwise_flatMap]
      refine ⟨fun c hc => ?_, ?_⟩
      · rw [hF]
        simp only
        by_cases i1 : is c = 1
        · rw [if_pos i1]; exact List.pairwise_singleton ..
        · rw [if_neg i1]
          by_cases i2 : is c = 2
          · rw [if_pos i2]; exact (ih c (List.mem_range.1 hc) i2).2.1
          · rw [if_neg i2]; exact List.Pairwise.nil
      · refine List.Pairwise.imp_of_mem ?_ (List.nodup_range (n := 32))
        intro a b ha hb hab x hx y hy e
        have q1 := (hl a (List.mem_range.1 ha) x hx).init.2
        have q2 := (hl b (List.mem_range.1 hb) y hy).init.2
        rw [e] at q1
        exact hab (q1.symm.trans q2)
    · have e : 13 - way.length = (12 - way.length) + 1 := by omega
      have e2 : 12 - (12 - way.length) = way.length := by omega
      rw [e]
      refine look_of_slots fun c hc => ?_
      rw [e2]
      have hpc : (Go.QS.part H way.length c l).Perm (F c) := by
        have := (hp.filter (fun q => chk (H q.1) way.length == c))
        rw [flat_filter (q := fun q => chk (H q.1) way.length) List.nodup_range (fun d hd q hq => (hl d (List.mem_range.1 hd) q hq).init.2), if_pos (List.mem_range.2 hc)] at this
        exact this
      have hrc : Rise (Go.QS.part H way.length c l) := part_rise hl1
      rw [hF] at hpc
      simp only at hpc
      unfold slN
      by_cases i1 : is c = 1
      · rw [if_pos i1] at hpc ⊢
        exact hpc.eq_singleton
      · rw [if_neg i1] at hpc ⊢
        by_cases i2 : is c = 2
        · rw [if_pos i2] at hpc ⊢
          refine ⟨by rw [hpc.length_eq]; exact (h3 c hc i2).2, ?_⟩
          have := (ih c hc i2).2.2 _ hrc hpc
          rw [List.length_append, List.length_singleton] at this
          have e3 : 13 - (way.length + 1) = 12 - way.length := by omega
          rw [e3] at this
          exact this
        · rw [if_neg i2] at hpc ⊢
          exact hpc.eq_nil
/-! What looks as the trie of some pairs is canonical. -/
theorem bits_m {α : Type} {q : Slot α → Bool} {b : List Pr → Bool} {S : Nat → Slot α} {P : Nat → List Pr} : ∀ {cs : List Nat}, bitsOf q (cs.map S) = bitsL b (cs.map P) → ∀ c ∈ cs, q (S c) = b (P c)
  | [], _, c, hc => by cases hc
  | d :: cs, h, c, hc => by
    simp only [List.map_cons, bitsOf, bitsL] at h
    have h1 : q (S d) = b (P d) ∧ bitsOf q (cs.map S) = bitsL b (cs.map P) := by
      cases hx : q (S d) <;> cases hy : b (P d) <;> simp [hx, hy] at h <;> first | exact ⟨rfl, by omega⟩ | (exfalso; omega)
    rcases List.mem_cons.1 hc with rfl | hc
    · exact h1.1
    · exact bits_m h1.2 c hc
theorem prs_count {S : Nat → Slot NT} {P : Nat → List Pr} : ∀ {cs : List Nat}, (∀ c ∈ cs, (S c).isP = isOne (P c)) → (prsOf (cs.map S)).length = (ones (cs.map P)).length
  | [], _ => rfl
  | d :: cs, h => by
    have ih := prs_count fun c hc => h c (List.mem_cons_of_mem _ hc)
    have h0 := h d (List.mem_cons_self ..)
    rw [List.map_cons, List.map_cons]
    revert h0
    generalize S d = s
    generalize P d = x
    intro h0
    match s, x, h0 with
    | .no, [], _ => rw [(ones_e _).1]; exact ih
    | .no, [q], h0 => simp [isOne] at h0
    | .no, a :: b :: r, _ => rw [(ones_t a b r _).1]; exact ih
    | .pr p, [], h0 => simp [isOne] at h0
    | .pr p, [q], _ => rw [(ones_p q _).1, prsOf_pr, List.length_cons, List.length_cons, ih]
    | .pr p, a :: b :: r, h0 => simp [isOne] at h0
    | .kid t, [], _ => rw [(ones_e _).1]; exact ih
    | .kid t, [q], h0 => simp [isOne] at h0
    | .kid t, a :: b :: r, _ => rw [(ones_t a b r _).1]; exact ih
theorem prs_each {S : Nat → Slot NT} {P : Nat → List Pr} : ∀ {cs : List Nat}, (∀ c ∈ cs, (S c).isP = isOne (P c)) → prsOf (cs.map S) = ones (cs.map P) → ∀ c ∈ cs, ∀ p, S c = .pr p → P c = [p]
  | [], _, _, c, hc => by cases hc
  | d :: cs, h, he, c, hc => by
    have h0 := h d (List.mem_cons_self ..)
    have hs : (prsOf (cs.map S) = ones (cs.map P)) ∧ ∀ p, S d = .pr p → P d = [p] := by
      rw [List.map_cons, List.map_cons] at he
      revert h0 he
      generalize S d = s
      generalize P d = x
      intro he h0
      match s, x, h0, he with
      | .no, [], _, he => rw [(ones_e _).1] at he; exact ⟨he, fun p e => by cases e⟩
      | .no, [q], h0, _ => simp [isOne] at h0
      | .no, a :: b :: r, _, he => rw [(ones_t a b r _).1] at he; exact ⟨he, fun p e => by cases e⟩
      | .pr p, [], h0, _ => simp [isOne] at h0
      | .pr p, [q], _, he =>
        rw [(ones_p q _).1, prsOf_pr] at he
        obtain ⟨e1, e2⟩ := List.cons.inj he
        exact ⟨e2, fun p' e => by cases e; rw [e1]⟩
      | .pr p, a :: b :: r, h0, _ => simp [isOne] at h0
      | .kid t, [], _, he => rw [(ones_e _).1] at he; exact ⟨he, fun p e => by cases e⟩
      | .kid t, [q], h0, _ => simp [isOne] at h0
      | .kid t, a :: b :: r, _, he => rw [(ones_t a b r _).1] at he; exact ⟨he, fun p e => by cases e⟩
    rcases List.mem_cons.1 hc with rfl | hc
    · exact hs.2
    · exact prs_each (fun c hc => h c (List.mem_cons_of_mem _ hc)) hs.1 c hc
theorem kds_each {S : Nat → Slot NT} {P : Nat → List Pr} {g : NT → List UInt8} {h : List Pr → List UInt8} {Q : NT → List Pr → Prop} : ∀ {cs : List Nat}, (∀ c ∈ cs, (S c).isK = isTwo (P c)) →
    (∀ c ∈ cs, ∀ t, S c = .kid t → ∀ r r', g t ++ r = h (P c) ++ r' → r = r' ∧ Q t (P c)) → ∀ r r', (kdsOf (cs.map S)).flatMap g ++ r = ((twos (cs.map P)).map h).flatten ++ r' → r = r' ∧ ∀ c ∈ cs, ∀ t, S c = .kid t → Q t (P c)
  | [], _, _, r, r', e => ⟨by simpa [kdsOf, twos] using e, fun c hc => by cases hc⟩
  | d :: cs, hk, hq, r, r', e => by
    have h0 := hk d (List.mem_cons_self ..)
    have q0 := hq d (List.mem_cons_self ..)
    have ih := kds_each (fun c hc => hk c (List.mem_cons_of_mem _ hc)) (fun c hc => hq c (List.mem_cons_of_mem _ hc))
    have hs : r = r' ∧ (∀ c ∈ cs, ∀ t, S c = .kid t → Q t (P c)) ∧ ∀ t, S d = .kid t → Q t (P d) := by
      rw [List.map_cons, List.map_cons] at e
      revert h0 q0 e
      generalize S d = s
      generalize P d = x
      intro e h0 q0
      match s, x, h0, q0, e with
      | .no, [], _, _, e => rw [(ones_e _).2, kdsOf_no] at e; exact ⟨(ih r r' e).1, (ih r r' e).2, fun p e => by cases e⟩
      | .no, [q], _, _, e => rw [(ones_p q _).2, kdsOf_no] at e; exact ⟨(ih r r' e).1, (ih r r' e).2, fun p e => by cases e⟩
      | .no, a :: b :: r, h0, _, _ => simp [isTwo] at h0
      | .pr p, [], _, _, e => rw [(ones_e _).2, kdsOf_pr] at e; exact ⟨(ih r r' e).1, (ih r r' e).2, fun p e => by cases e⟩
      | .pr p, [q], _, _, e => rw [(ones_p q _).2, kdsOf_pr] at e; exact ⟨(ih r r' e).1, (ih r r' e).2, fun p e => by cases e⟩
      | .pr p, a :: b :: r, h0, _, _ => simp [isTwo] at h0
      | .kid t, [], h0, _, _ => simp [isTwo] at h0
      | .kid t, [q], h0, _, _ => simp [isTwo] at h0
      | .kid t, a :: b :: s, _, q0, e =>
        rw [(ones_t a b s _).2, kdsOf_kid, List.flatMap_cons, List.map_cons, List.flatten_cons, List.append_assoc, List.append_assoc] at e
        obtain ⟨e1, e2⟩ := q0 t rfl _ _ e
        exact ⟨(ih r r' e1).1, (ih r r' e1).2, fun t' e => by cases e; exact e2⟩
    refine ⟨hs.1, fun c hc => ?_⟩
    rcases List.mem_cons.1 hc with rfl | hc
    · exact hs.2.2
    · exact hs.2.1 c hc
theorem slN_pr {is : Nat → Nat} {p : Nat → Pr} {k : Nat → NT} {c : Nat} (h : is c = 1) : slN is p k c = .pr (p c) := by unfold slN; rw [if_pos h]
theorem slN_kid {is : Nat → Nat} {p : Nat → Pr} {k : Nat → NT} {c : Nat} (h : is c = 2) : slN is p k c = .kid (k c) := by unfold slN; rw [if_neg (by omega), if_pos h]
theorem slN_no {is : Nat → Nat} {p : Nat → Pr} {k : Nat → NT} {c : Nat} (h1 : is c ≠ 1) (h2 : is c ≠ 2) : slN is p k c = .no := by unfold slN; rw [if_neg h1, if_neg h2]
theorem prsOf_mem {is : Nat → Nat} {p : Nat → Pr} {k : Nat → NT} {q : Pr} (h : q ∈ prsOf (slsN is p k)) : ∃ c, c < 32 ∧ is c = 1 ∧ q = p c := by
  unfold prsOf slsN at h
  obtain ⟨s, hs, hq⟩ := List.mem_filterMap.1 h
  obtain ⟨c, hc, rfl⟩ := List.mem_map.1 hs
  by_cases h1 : is c = 1
  · rw [slN_pr h1] at hq
    exact ⟨c, List.mem_range.1 hc, h1, by cases hq; rfl⟩
  · by_cases h2 : is c = 2
    · rw [slN_kid h2] at hq; cases hq
    · rw [slN_no h1 h2] at hq; cases hq
theorem isOne_of {x : List Pr} (h : isOne x = true) : x.length = 1 := by simpa [isOne] using h
theorem isTwo_of {x : List Pr} (h : isTwo x = true) : 2 ≤ x.length := by simpa [isTwo] using h
theorem look_cut (H : List UInt8 → Nat) : ∀ (t : NT) (f : Nat) (l : List Pr) (r r' : List UInt8), f ≤ 13 → NSm t → ShOk l → lookN t f ++ r = shp H f l ++ r' →
    r = r' ∧ (prsN t).length = l.length ∧ ∀ way, way.length = 13 - f → (∀ p ∈ l, Leads (H p.1) way) → okN H t way
  | .bk l0, 0, l, r, r', _, hs, hl, h => by
    simp only [lookN, shp, buckB, List.cons_append, List.append_assoc, List.cons.injEq, true_and] at h
    obtain ⟨h1, h2⟩ := List.append_inj h (by rw [layB_len, layB_len])
    rw [layB_two, layB_two] at h1
    obtain ⟨e1, e2⟩ := prsB_cut (twoB_inj hs.2 hl.2.2 h1) hs.1 hl.2.1 h2
    subst e1
    exact ⟨e2, rfl, fun way h1 h2 => ⟨h1, hl.1, h2⟩⟩
  | .bk l0, f + 1, l, r, r', _, hs, hl, h => by simp [lookN, shp, buckB, headB] at h
  | .inn is p k, 0, l, r, r', _, hs, hl, h => by simp [lookN, shp, buckB, headB] at h
  | .inn is p k, f + 1, l, r, r', hf, hs, hl, h => by
    rw [lookN_succ] at h
    simp only [shp, headB, List.cons_append, List.append_assoc, List.cons.injEq, true_and] at h
    obtain ⟨h1, h2⟩ := List.append_inj h (by rw [layB_len, layB_len])
    obtain ⟨h3, h4⟩ := List.append_inj h2 (by rw [layB_len, layB_len])
    have lt : ∀ (b : List Pr → Bool), bitsL b (parts H (12 - f) l) < 4294967296 := fun b => by
      have := bitsL_lt b (parts H (12 - f) l)
      rw [parts_length] at this
      exact this
    have m1 := bits_m (layB4_inj (bits32 Slot.isP (slsN_length is p k)) (lt _) h1)
    have m2 := bits_m (layB4_inj (bits32 Slot.isK (slsN_length is p k)) (lt _) h3)
    have sub1 : PSm (ones (parts H (12 - f) l)) := fun p hp => by
      have h1 : p ∈ (parts H (12 - f) l).flatten := (ones_perm _).mem_iff.1 (List.mem_append_left _ hp)
      exact hl.2.1 p ((parts_perm H (12 - f) l).mem_iff.1 h1)
    have sub0 : PSm (prsOf (slsN is p k)) := fun q hq => by
      obtain ⟨c, hc, i1, rfl⟩ := prsOf_mem hq
      exact (hs c hc).1 i1
    obtain ⟨o1, h5⟩ := prsB_cut (prs_count m1) sub0 sub1 h4
    have p1 := prs_each m1 o1
    obtain ⟨e6, p2⟩ := kds_each (g := fun t => lookN t f) (h := shp H f) (Q := fun t x => (prsN t).length = x.length ∧ ∀ way, way.length = 13 - f → (∀ p ∈ x, Leads (H p.1) way) → okN H t way) m2
      (fun c hc t ht r r' e => by
        have hc' := List.mem_range.1 hc
        by_cases i1 : is c = 1
        · rw [slN_pr i1] at ht; cases ht
        · by_cases i2 : is c = 2
          · rw [slN_kid i2] at ht
            cases ht
            exact look_cut H (k c) f _ r r' (by omega) ((hs c hc').2 i2) (hl.part (List.mem_map_of_mem hc)) e
          · rw [slN_no i1 i2] at ht; cases ht) r r' h5
    have hlen : ∀ c ∈ List.range 32, (if is c = 1 then [p c] else if is c = 2 then prsN (k c) else []).length = (Go.QS.part H (12 - f) c l).length := fun c hc => by
      by_cases i1 : is c = 1
      · rw [if_pos i1, p1 c hc _ (slN_pr i1)]
      · rw [if_neg i1]
        by_cases i2 : is c = 2
        · rw [if_pos i2]; exact (p2 c hc _ (slN_kid i2)).1
        · rw [if_neg i2]
          have a1 := m1 c hc
          have a2 := m2 c hc
          rw [slN_no i1 i2] at a1 a2
          simp [isOne, isTwo] at a1 a2
          simp only [List.length_nil]
          omega
    refine ⟨e6, ?_, fun way hw hL => ?_⟩
    · have e : prsN (.inn is p k) = (List.range 32).flatMap fun c => if is c = 1 then [p c] else if is c = 2 then prsN (k c) else [] := rfl
      rw [e, flat_len hlen, ← parts_flat]
      exact (parts_perm H (12 - f) l).length_eq
    · have hwl : 12 - f = way.length := by omega
      rw [hwl] at p1 p2 m2 hlen
      have hpart : ∀ c, ∀ q ∈ Go.QS.part H way.length c l, Leads (H q.1) (way ++ [c]) := fun c q hq => by
        obtain ⟨q1, q2⟩ := mem_part.1 hq
        exact (hL q q1).snoc q2
      refine ⟨by omega, fun c hc i1 => ?_, fun c hc i2 => ?_⟩
      · have := p1 c (List.mem_range.2 hc) _ (slN_pr i1)
        exact hpart c _ (by show p c ∈ Go.QS.part H way.length c l; rw [this]; exact List.mem_singleton_self _)
      · have h7 := p2 c (List.mem_range.2 hc) _ (slN_kid i2)
        have a2 := m2 c (List.mem_range.2 hc)
        rw [slN_kid i2] at a2
        refine ⟨h7.2 _ (by rw [List.length_append, List.length_singleton]; omega) (hpart c), ?_⟩
        rw [h7.1]
        exact isTwo_of a2.symm
theorem look_ok (H : List UInt8 → Nat) {t : NT} {l : List Pr} (ht : NSm t) (hl : ShOk l) (h : lookN t 13 = shp H 13 l) : okN H t [] ∧ (prsN t).length = l.length := by
  obtain ⟨_, h1, h2⟩ := look_cut H t 13 l [] [] (Nat.le_refl _) ht hl (by rw [h])
  exact ⟨h2 [] rfl (fun p _ i c hi => by simp at hi), h1⟩
theorem NSm_trT (H : List UInt8 → Nat) : ∀ (f : Nat) {l : List Pr}, PSm l → l.length < 65536 → NSm (trT H f l)
  | 0, l, h, h9 => ⟨h, h9⟩
  | f + 1, l, h, h9 => by
    intro c _
    have hp : PSm (Go.QS.part H (12 - f) c l) := fun q hq => h q (mem_part.1 hq).1
    refine ⟨fun i1 => ?_, fun _ => NSm_trT H f hp (Nat.lt_of_le_of_lt part_length h9)⟩
    have i1' := min_two.1.1 i1
    show ((Go.QS.part H (12 - f) c l).headD ([], [])).1.length < 65536 ∧ ((Go.QS.part H (12 - f) c l).headD ([], [])).2.length < 65536
    revert i1'
    generalize Go.QS.part H (12 - f) c l = x at hp
    intro i1'
    match x, i1', hp with
    | [q], _, hp => exact hp q (List.mem_singleton_self _)
/-- A trie by one hasher is canonical by another one just if that makes the very same. -/
theorem trT_ok (H G : List UInt8 → Nat) {l : List Pr} (hl : ShOk l) : okN G (trT H 13 l) [] ↔ shp H 13 l = shp G 13 l := by
  rw [← lookN_trT H 13 l]
  exact ⟨fun h => (ok_look _ [] h).2.2 l hl.1 (prsN_trT H 13 l).symm, fun h => (look_ok G (NSm_trT H 13 hl.2.1 hl.2.2) hl h).1⟩
end Go.Proofs.YtclcgelbcbnekaaDoor
/- Plain: sixty-four bits turned left, a bit at a time and at once. -/
namespace Go.QS

/-- One bit to the left, round. -/
def rot1 (x : Nat) : Nat := x * 2 % 18446744073709551616 + x / 9223372036854775808
def turnN : Nat → Nat → Nat
  | 0, x => x
  | k + 1, x => turnN k (rot1 x)
theorem rot1_lt {x : Nat} (h : x < 18446744073709551616) : rot1 x < 18446744073709551616 := by
  unfold rot1; omega
theorem turnN_lt : ∀ (k : Nat) {x : Nat}, x < 18446744073709551616 → turnN k x < 18446744073709551616
  | 0, _, h => h
  | k + 1, _, h => turnN_lt k (rot1_lt h)
theorem turnN_succ : ∀ (k x : Nat), turnN (k + 1) x = rot1 (turnN k x)
  | 0, _ => rfl
  | k + 1, x => turnN_succ k (rot1 x)
/-- What lies above goes below. -/
def rotA (x k : Nat) : Nat := x % 2 ^ (64 - k) * 2 ^ k + x / 2 ^ (64 - k)
theorem rotA_zero {x : Nat} (h : x < 18446744073709551616) : rotA x 0 = x := by
  unfold rotA
  rw [show (64 - 0 : Nat) = 64 from rfl, Nat.mod_eq_of_lt (by simpa using h), Nat.div_eq_of_lt (by simpa using h)]
  simp
theorem rotA_succ {x k : Nat} (hk : k < 64) (h : x < 18446744073709551616) : rot1 (rotA x k) = rotA x (k + 1) := by
  obtain ⟨m, hm⟩ : ∃ m, 64 - (k + 1) = m := ⟨_, rfl⟩
  have e1 : 64 - k = m + 1 := by omega
  have e2 : k + 1 + m = 64 := by omega
  unfold rotA
  rw [hm, e1]
  obtain ⟨P, hP⟩ : ∃ P, 2 ^ m = P := ⟨_, rfl⟩
  obtain ⟨K, hK⟩ : ∃ K, 2 ^ k = K := ⟨_, rfl⟩
  have hPK : 2 * (K * P) = 18446744073709551616 := by
    rw [← hP, ← hK, ← Nat.pow_add, ← Nat.pow_succ', show (k + m).succ = 64 by omega]
  have hP0 : 0 < P := by rw [← hP]; exact Nat.two_pow_pos m
  have hK0 : 0 < K := by rw [← hK]; exact Nat.two_pow_pos k
  rw [Nat.pow_succ 2 m, Nat.pow_succ 2 k, hP, hK]
  obtain ⟨a, ha⟩ : ∃ a, x / (P * 2) = a := ⟨_, rfl⟩
  obtain ⟨y, hy⟩ : ∃ y, x % (P * 2) = y := ⟨_, rfl⟩
  have hx : x = P * 2 * a + y := by rw [← ha, ← hy]; exact (Nat.div_add_mod x (P * 2)).symm
  have hy2 : y < P * 2 := by rw [← hy]; exact Nat.mod_lt _ (by omega)
  obtain ⟨c, hc⟩ : ∃ c, y / P = c := ⟨_, rfl⟩
  obtain ⟨d, hd⟩ : ∃ d, y % P = d := ⟨_, rfl⟩
  have hyc : y = P * c + d := by rw [← hc, ← hd]; exact (Nat.div_add_mod y P).symm
  have hd2 : d < P := by rw [← hd]; exact Nat.mod_lt _ hP0
  have hc2 : c < 2 := by
    rw [← hc]; exact (Nat.div_lt_iff_lt_mul hP0).2 (by omega)
  have ha2 : a < K := by
    rw [← ha]
    refine (Nat.div_lt_iff_lt_mul (by omega)).2 ?_
    have : K * (P * 2) = 18446744073709551616 := by rw [← hPK, ← Nat.mul_assoc, Nat.mul_comm (K * P) 2]
    omega
  have q1 : x / P = 2 * a + c := by
    rw [hx, hyc]
    rw [show P * 2 * a + (P * c + d) = d + P * (2 * a + c) by rw [Nat.mul_add, Nat.mul_assoc]; omega]
    rw [Nat.add_mul_div_left _ _ hP0, Nat.div_eq_of_lt hd2, Nat.zero_add]
  have q2 : x % P = d := by
    rw [hx, hyc]
    rw [show P * 2 * a + (P * c + d) = d + P * (2 * a + c) by rw [Nat.mul_add, Nat.mul_assoc]; omega]
    rw [Nat.add_mul_mod_self_left, Nat.mod_eq_of_lt hd2]
  rw [ha, hy, q1, q2]
  unfold rot1
  have hdK : d * K < P * K := Nat.mul_lt_mul_of_pos_right hd2 hK0
  have hPK2 : P * K = 9223372036854775808 := by rw [Nat.mul_comm P K]; omega
  have hyK : y * K = c * 9223372036854775808 + d * K := by
    rw [hyc, Nat.add_mul, Nat.mul_comm P c, Nat.mul_assoc, hPK2]
  have hKle : K ≤ 9223372036854775808 := by rw [← hPK2]; exact Nat.le_mul_of_pos_left K hP0
  have hdK1 : d * K + K ≤ P * K := by
    have : (d + 1) * K ≤ P * K := Nat.mul_le_mul_right K hd2
    rw [Nat.add_mul, Nat.one_mul] at this
    exact this
  rw [hyK, ← Nat.mul_assoc d K 2]
  rcases (show c = 0 ∨ c = 1 by omega) with rfl | rfl
  · rw [Nat.zero_mul, Nat.zero_add]
    omega
  · rw [Nat.one_mul]
    omega
theorem turnN_rotA {x : Nat} (h : x < 18446744073709551616) : ∀ k, k ≤ 64 → turnN k x = rotA x k
  | 0, _ => (rotA_zero h).symm
  | k + 1, hk => by rw [turnN_succ, turnN_rotA h k (by omega), rotA_succ (by omega) h]
/-- .. as a machine has it. -/
theorem rotA_or {x k : Nat} (hk : k ≤ 64) (h : x < 18446744073709551616) : x * 2 ^ k % 18446744073709551616 ||| x / 2 ^ (64 - k) = rotA x k := by
  have e : 18446744073709551616 = 2 ^ (64 - k) * 2 ^ k := by rw [← Nat.pow_add, show 64 - k + k = 64 by omega]
  have hlt : x / 2 ^ (64 - k) < 2 ^ k := by
    refine (Nat.div_lt_iff_lt_mul (Nat.two_pow_pos _)).2 ?_
    rw [Nat.mul_comm, ← e]; exact h
  rw [e, Nat.mul_mod_mul_right, Nat.mul_comm (x % 2 ^ (64 - k)), ← Nat.two_pow_add_eq_or_of_lt hlt]
  unfold rotA
  rw [Nat.mul_comm]
theorem turn_or {x k : Nat} (hk : k ≤ 64) (h : x < 18446744073709551616) : x * 2 ^ k % 18446744073709551616 ||| x / 2 ^ (64 - k) = turnN k x := by
  rw [turnN_rotA h k hk, rotA_or hk h]
end Go.QS
/- Plain: the hash: four numbers, rounds, bytes taken eight by eight. No program. -/
namespace Go.QS

structure V4 where
  a : Nat
  b : Nat
  c : Nat
  d : Nat
def V4.Ok (v : V4) : Prop := v.a < 18446744073709551616 ∧ v.b < 18446744073709551616 ∧ v.c < 18446744073709551616 ∧ v.d < 18446744073709551616
theorem xor_lt {x y : Nat} (hx : x < 18446744073709551616) (hy : y < 18446744073709551616) : x ^^^ y < 18446744073709551616 := Nat.xor_lt_two_pow (n := 64) hx hy
def ad (x y : Nat) : Nat := (x + y) % 18446744073709551616
theorem ad_lt (x y : Nat) : ad x y < 18446744073709551616 := Nat.mod_lt _ (by decide)
/-- A round, in two halves. -/
def rndA (v : V4) : V4 := ⟨ad (turnN 32 (ad v.a v.b)) (turnN 16 v.d ^^^ ad v.c v.d), turnN 13 v.b ^^^ ad v.a v.b, ad v.c v.d, turnN 16 v.d ^^^ ad v.c v.d⟩
def rndB (v : V4) : V4 := ⟨v.a, turnN 17 v.b ^^^ ad v.c v.b, turnN 32 (ad v.c v.b), turnN 21 v.d ^^^ v.a⟩
def rnd (v : V4) : V4 := rndB (rndA v)
theorem rndA_ok {v : V4} (h : v.Ok) : (rndA v).Ok := ⟨ad_lt _ _, xor_lt (turnN_lt _ h.2.1) (ad_lt _ _), ad_lt _ _, xor_lt (turnN_lt _ h.2.2.2) (ad_lt _ _)⟩
theorem rndB_ok {v : V4} (h : v.Ok) : (rndB v).Ok := ⟨h.1, xor_lt (turnN_lt _ h.2.1) (ad_lt _ _), turnN_lt _ (ad_lt _ _), xor_lt (turnN_lt _ h.2.2.2) h.1⟩
theorem rnd_ok {v : V4} (h : v.Ok) : (rnd v).Ok := rndB_ok (rndA_ok h)
def rnds : Nat → V4 → V4
  | 0, v => v
  | n + 1, v => rnds n (rnd v)
theorem rnds_ok : ∀ (n : Nat) {v : V4}, v.Ok → (rnds n v).Ok
  | 0, _, h => h
  | n + 1, _, h => rnds_ok n (rnd_ok h)
theorem rnds_succ : ∀ (n : Nat) (v : V4), rnds (n + 1) v = rnd (rnds n v)
  | 0, _ => rfl
  | n + 1, v => rnds_succ n (rnd v)
def xd (v : V4) (m : Nat) : V4 := ⟨v.a, v.b, v.c, v.d ^^^ m⟩
def xa (v : V4) (m : Nat) : V4 := ⟨v.a ^^^ m, v.b, v.c, v.d⟩
def xc (v : V4) (m : Nat) : V4 := ⟨v.a, v.b, v.c ^^^ m, v.d⟩
theorem xd_ok {v : V4} {m : Nat} (h : v.Ok) (hm : m < 18446744073709551616) : (xd v m).Ok := ⟨h.1, h.2.1, h.2.2.1, xor_lt h.2.2.2 hm⟩
theorem xa_ok {v : V4} {m : Nat} (h : v.Ok) (hm : m < 18446744073709551616) : (xa v m).Ok := ⟨xor_lt h.1 hm, h.2.1, h.2.2.1, h.2.2.2⟩
theorem xc_ok {v : V4} {m : Nat} (h : v.Ok) (hm : m < 18446744073709551616) : (xc v m).Ok := ⟨h.1, h.2.1, xor_lt h.2.2.1 hm, h.2.2.2⟩
def tk (v : V4) (m : Nat) : V4 := xa (rnds 2 (xd v m)) m
theorem tk_ok {v : V4} {m : Nat} (h : v.Ok) (hm : m < 18446744073709551616) : (tk v m).Ok := xa_ok (rnds_ok 2 (xd_ok h hm)) hm
/-- Bytes as a number, the lowest first. -/
def leN : List UInt8 → Nat
  | [] => 0
  | b :: r => b.toNat + 256 * leN r
theorem leN_lt : ∀ s : List UInt8, leN s < 256 ^ s.length
  | [] => by simp [leN]
  | b :: r => by
    have ih := leN_lt r
    have hb : b.toNat < 256 := by have := UInt8.toNat_lt b; omega
    simp only [leN, List.length_cons, Nat.pow_succ]
    omega
theorem leN_lt8 {s : List UInt8} (h : s.length ≤ 8) : leN s < 18446744073709551616 := by
  have h1 := leN_lt s
  have h2 : 256 ^ s.length ≤ 256 ^ 8 := Nat.pow_le_pow_right (by decide) h
  have h3 : (256 : Nat) ^ 8 = 18446744073709551616 := by decide
  omega
theorem leN_lt7 {s : List UInt8} (h : s.length ≤ 7) : leN s < 72057594037927936 := by
  have h1 := leN_lt s
  have h2 : 256 ^ s.length ≤ 256 ^ 7 := Nat.pow_le_pow_right (by decide) h
  have h3 : (256 : Nat) ^ 7 = 72057594037927936 := by decide
  omega
/-- All bytes; n: how many there were. -/
def absorb (n : Nat) : Nat → V4 → List UInt8 → V4
  | 0, v, s => tk v (leN s + n % 256 * 72057594037927936)
  | f + 1, v, s => absorb n f (tk v (leN (s.take 8))) (s.drop 8)
def fin (v : V4) : Nat := let u := rnds 4 (xc v 255); u.a ^^^ u.b ^^^ u.c ^^^ u.d
def sip0 (k0 k1 : Nat) : V4 := ⟨k0 ^^^ 0x736f6d6570736575, k1 ^^^ 0x646f72616e646f6d, k0 ^^^ 0x6c7967656e657261, k1 ^^^ 0x7465646279746573⟩
def sipN (k0 k1 : Nat) (s : List UInt8) : Nat := fin (absorb s.length (s.length / 8) (sip0 k0 k1) s)
theorem sip0_ok {k0 k1 : Nat} (h0 : k0 < 18446744073709551616) (h1 : k1 < 18446744073709551616) : (sip0 k0 k1).Ok :=
  ⟨xor_lt h0 (by decide), xor_lt h1 (by decide), xor_lt h0 (by decide), xor_lt h1 (by decide)⟩
theorem fin_lt {v : V4} (h : v.Ok) : fin v < 18446744073709551616 := by
  obtain ⟨h1, h2, h3, h4⟩ := rnds_ok 4 (xc_ok (m := 255) h (by decide))
  exact xor_lt (xor_lt (xor_lt h1 h2) h3) h4
theorem absorb_ok (n : Nat) : ∀ (f : Nat) {v : V4} {s : List UInt8}, v.Ok → s.length / 8 = f → (absorb n f v s).Ok
  | 0, v, s, h, hf => tk_ok h (by have := leN_lt7 (s := s) (by omega); omega)
  | f + 1, v, s, h, hf => absorb_ok n f (tk_ok h (leN_lt8 (by simp; omega))) (by simp; omega)
theorem sipN_lt {k0 k1 : Nat} (h0 : k0 < 18446744073709551616) (h1 : k1 < 18446744073709551616) (s : List UInt8) : sipN k0 k1 s < 18446744073709551616 :=
  fin_lt (absorb_ok _ _ (sip0_ok h0 h1) rfl)
/-- A byte more, ahead. -/
theorem leN_at (s : List UInt8) (i n : Nat) : leN ((s.drop i).take (n + 1)) = (match s[i]? with | some b => b.toNat | none => 0) + 256 * leN ((s.drop (i + 1)).take n) := by
  cases h : s[i]? with
  | none =>
    have hl : s.length ≤ i := by simpa using h
    rw [List.drop_eq_nil_of_le hl, List.drop_eq_nil_of_le (by omega)]
    simp [leN]
  | some b =>
    obtain ⟨hl, he⟩ := List.getElem?_eq_some_iff.1 h
    rw [List.drop_eq_getElem_cons hl, he, List.take_succ_cons]
    rfl
/-- As a machine shifts them together. -/
theorem or_shift {A b k : Nat} (hb : b < 256) : A * 2 ^ (k + 8) ||| b * 2 ^ k = (A * 256 + b) * 2 ^ k := by
  have h1 : b * 2 ^ k < 2 ^ (k + 8) := by
    rw [Nat.pow_add, Nat.mul_comm (2 ^ k)]
    exact Nat.mul_lt_mul_of_pos_right (by simpa using hb) (Nat.two_pow_pos k)
  rw [Nat.mul_comm A, ← Nat.two_pow_add_eq_or_of_lt h1, Nat.add_mul, Nat.pow_add]
  have : 2 ^ k * 2 ^ 8 * A = A * 256 * 2 ^ k := by
    rw [Nat.mul_comm, Nat.mul_comm (2 ^ k), ← Nat.mul_assoc]
  rw [this]
end Go.QS
