/- Texts joined. -/
import Derived.Test.YtclcgelbcbnekaaDoorM02
import Derived.Test.YtclcgelbcbnekaaDoorRows
import Derived.Test.YtclcgelbcbnekaaDoorM00
import Derived.Deep.LoopGhost
set_option linter.unusedVariables false
set_option linter.unusedSimpArgs false
/- Plain law: kids that are as they must be are told by their pairs. No program. -/
namespace Go.QS

theorem prs_ne {N : Nat} {t : RT} (h : Br N t) : t.prs ≠ [] := by
  obtain ⟨_, _, h3, h4⟩ := h
  rw [below_eq]
  rcases h3 with h3 | h3
  · cases hv : t.val with
    | none => rw [hv] at h3; cases h3
    | some v => simp [ownP]
  · cases hk : t.kids with
    | nil => rw [hk] at h3; simp at h3
    | cons k r =>
      rw [hk] at h4
      have hb := h4.br (List.mem_cons_self ..)
      have := prs_ne hb
      intro e
      rw [belows_cons] at e
      have e2 := (List.append_eq_nil_iff.1 e).2
      have e3 := (List.append_eq_nil_iff.1 e2).1
      simp only [pre, List.map_eq_nil_iff] at e3
      exact this e3
termination_by SizeOf.sizeOf t
decreasing_by
  obtain ⟨a, b, c⟩ := t
  simp only [RT.kids_node] at hk
  subst hk
  simp
  omega

/-- All that all keys of a branch begin with is what its label begins with. -/
theorem common_lab {N : Nat} {t : RT} (h : Br N t) {l : List UInt8} (hl : ∀ q ∈ pre t.lab t.prs, q.1.take l.length = l) : t.lab.take l.length = l := by
  obtain ⟨h1, h2, h3, h4⟩ := h
  by_cases hv : t.val.isSome = true
  · obtain ⟨v, hv⟩ := Option.isSome_iff_exists.1 hv
    have : (t.lab ++ [], v) ∈ pre t.lab t.prs := mem_pre.2 ⟨([], v), mem_below.2 (.inl ⟨rfl, hv⟩), rfl⟩
    have := hl _ this
    simpa using this
  · have h3' : 2 ≤ t.kids.length := by
      rcases h3 with h | h
      · exact absurd h hv
      · exact h
    obtain ⟨a, ha⟩ := get_of_lt t.kids (show 0 < t.kids.length by omega)
    obtain ⟨b, hb⟩ := get_of_lt t.kids (show 1 < t.kids.length by omega)
    have hab : a.hd < b.hd := by
      obtain ⟨e1, e2⟩ := List.getElem?_eq_some_iff.1 ha
      obtain ⟨e3, e4⟩ := List.getElem?_eq_some_iff.1 hb
      have := List.pairwise_iff_getElem.1 h4.heads _ _ e1 e3 (by decide)
      rwa [e2, e4] at this
    have key : ∀ k ∈ t.kids, ∃ c m v, (t.lab ++ c :: m, v) ∈ pre t.lab t.prs ∧ c.toNat = k.hd := by
      intro k hk
      obtain ⟨q, hq⟩ := List.exists_mem_of_ne_nil _ (prs_ne (h4.br hk))
      have hm : (k.lab ++ q.1, q.2) ∈ pre k.lab k.prs := mem_pre.2 ⟨q, hq, rfl⟩
      obtain ⟨c, m, e, hc⟩ := pre_head (h4.ne k hk) hm
      simp only at e
      exact ⟨c, m, q.2, mem_pre.2 ⟨(k.lab ++ q.1, q.2), mem_below.2 (.inr (mem_belows.2 ⟨k, hk, hm⟩)), by simp only [e]⟩, hc⟩
    obtain ⟨c, m, v, hm1, hc1⟩ := key a (List.mem_of_getElem? ha)
    obtain ⟨d, m', v', hm2, hc2⟩ := key b (List.mem_of_getElem? hb)
    have e1 := hl _ hm1
    have e2 := hl _ hm2
    simp only at e1 e2
    rcases Nat.lt_or_ge t.lab.length l.length with hlt | hge
    · exfalso
      have g1 : (t.lab ++ c :: m)[t.lab.length]? = l[t.lab.length]? := by
        rw [← e1, List.getElem?_take_of_lt hlt]
      have g2 : (t.lab ++ d :: m')[t.lab.length]? = l[t.lab.length]? := by
        rw [← e2, List.getElem?_take_of_lt hlt]
      rw [← g1] at g2
      simp at g2
      rw [g2] at hc2
      omega
    · rw [List.take_append_of_le_length hge] at e1
      exact e1

theorem lab_eq {N N' : Nat} {t t' : RT} (h : Br N t) (h' : Br N' t') (e : pre t.lab t.prs = pre t'.lab t'.prs) : t.lab = t'.lab := by
  have k1 : t.lab.take t'.lab.length = t'.lab := by
    refine common_lab h fun q hq => ?_
    rw [e] at hq
    obtain ⟨p, _, rfl⟩ := mem_pre.1 hq
    exact List.take_left' rfl
  have k2 : t'.lab.take t.lab.length = t.lab := by
    refine common_lab h' fun q hq => ?_
    rw [← e] at hq
    obtain ⟨p, _, rfl⟩ := mem_pre.1 hq
    exact List.take_left' rfl
  have l1 := congrArg List.length k1
  have l2 := congrArg List.length k2
  simp only [List.length_take] at l1 l2
  rw [← k1, List.take_of_length_le (by omega)]

theorem pre_inj {l : List UInt8} {x y : List Pr} (h : pre l x = pre l y) : x = y := by
  unfold pre at h
  refine (List.map_inj_right ?_).1 h
  rintro ⟨a, b⟩ ⟨c, d⟩ e
  simp at e
  exact Prod.ext e.1 e.2

def fstB (q : Pr) : Nat := (q.1.headD 0).toNat
theorem fstB_pre {k : RT} (hne : k.lab ≠ []) {q : Pr} (h : q ∈ pre k.lab k.prs) : fstB q = k.hd := by
  obtain ⟨c, l, e, hc⟩ := pre_head hne h
  simp [fstB, e, hc]
theorem kd_part {N : Nat} {t : RT} {r : List RT} (h : Kd N (t :: r)) : (belows (t :: r)).filter (fun q => fstB q == t.hd) = pre t.lab t.prs ∧ (belows (t :: r)).filter (fun q => fstB q != t.hd) = belows r := by
  cases h with
  | cons h1 h2 h3 h4 h5 h6 =>
    rw [belows_cons, List.filter_append, List.filter_append]
    have a1 : ∀ q ∈ pre t.lab t.prs, fstB q = t.hd := fun q hq => fstB_pre h1 hq
    have a2 : ∀ q ∈ belows r, fstB q ≠ t.hd := by
      intro q hq
      obtain ⟨k, hk, hm⟩ := mem_belows.1 hq
      rw [fstB_pre (h6.ne k hk) hm]
      have := h5 k hk
      omega
    constructor
    · rw [List.filter_eq_self.2 (fun q hq => by simp [a1 q hq]), List.filter_eq_nil_iff.2 (fun q hq => by simp [a2 q hq]), List.append_nil]
    · rw [List.filter_eq_nil_iff.2 (fun q hq => by simp [a1 q hq]), List.filter_eq_self.2 (fun q hq => by simp [a2 q hq]), List.nil_append]

theorem own_split {v v' : Option (List UInt8)} {x x' : List Pr} (hx : ∀ q ∈ x, q.1 ≠ []) (hx' : ∀ q ∈ x', q.1 ≠ []) (e : ownP v ++ x = ownP v' ++ x') : v = v' ∧ x = x' := by
  cases v with
  | none =>
    cases v' with
    | none => exact ⟨rfl, by simpa [ownP] using e⟩
    | some b =>
      simp only [ownP, List.nil_append, List.cons_append] at e
      exact absurd rfl (hx ([], b) (by rw [e]; simp))
  | some a =>
    cases v' with
    | none =>
      simp only [ownP, List.nil_append, List.cons_append] at e
      exact absurd rfl (hx' ([], a) (by rw [← e]; simp))
    | some b =>
      simp only [ownP, List.cons_append, List.nil_append, List.cons.injEq, Prod.mk.injEq, true_and] at e
      exact ⟨by rw [e.1], e.2⟩

theorem kd_uniq : ∀ (ks ks' : List RT) (N N' : Nat), Kd N ks → Kd N' ks' → belows ks = belows ks' → ks = ks'
  | [], [], _, _, _, _, _ => rfl
  | [], t' :: r', _, N', _, h', e => by
    have := prs_ne (h'.br (List.mem_cons_self ..))
    rw [belows_nil, belows_cons] at e
    have := (List.append_eq_nil_iff.1 e.symm).1
    simp only [pre, List.map_eq_nil_iff] at this
    contradiction
  | t :: r, [], N, _, h, _, e => by
    have := prs_ne (h.br (List.mem_cons_self ..))
    rw [belows_nil, belows_cons] at e
    have := (List.append_eq_nil_iff.1 e).1
    simp only [pre, List.map_eq_nil_iff] at this
    contradiction
  | .node lab val kids :: r, t' :: r', N, N', h, h', e => by
    have hb := h.br (List.mem_cons_self ..)
    have hb' := h'.br (List.mem_cons_self ..)
    have hhd : (RT.node lab val kids).hd = t'.hd := by
      obtain ⟨q, hq⟩ := List.exists_cons_of_ne_nil (prs_ne hb)
      obtain ⟨q', hq'⟩ := List.exists_cons_of_ne_nil (prs_ne hb')
      obtain ⟨x, hx⟩ := hq
      obtain ⟨x', hx'⟩ := hq'
      rw [belows_cons, belows_cons, hx, hx'] at e
      simp only [pre, List.map_cons, List.cons_append, List.cons.injEq] at e
      have f1 := fstB_pre (k := RT.node lab val kids) hb.1 (q := ((RT.node lab val kids).lab ++ q.1, q.2)) (by rw [hx]; simp [pre])
      have f2 := fstB_pre (k := t') hb'.1 (q := (t'.lab ++ q'.1, q'.2)) (by rw [hx']; simp [pre])
      rw [← f1, ← f2, e.1]
    obtain ⟨p1, p2⟩ := kd_part h
    obtain ⟨p1', p2'⟩ := kd_part h'
    rw [e, hhd, p1'] at p1
    rw [e, hhd, p2'] at p2
    have hlab := lab_eq hb hb' p1.symm
    rw [hlab] at p1
    have hprs := pre_inj p1
    rw [below_eq, below_eq (RT.node lab val kids)] at hprs
    obtain ⟨hv, hk⟩ := own_split (fun q hq => hb'.2.2.2.key_ne hq) (fun q hq => hb.2.2.2.key_ne hq) hprs
    have hkk := kd_uniq kids t'.kids _ _ hb.2.2.2 hb'.2.2.2 hk.symm
    have hrr := kd_uniq r r' N N' (by cases h with | cons h1 h2 h3 h4 h5 h6 => exact h6) (by cases h' with | cons h1 h2 h3 h4 h5 h6 => exact h6) p2.symm
    rw [hrr]
    congr 1
    rw [← RT.eta t', ← hlab, hv, ← hkk]
    rfl

/-- A root is told by its pairs. -/
theorem root_uniq {N N' : Nat} {t t' : RT} (hl : t.lab = t'.lab) (h : Kd N t.kids) (h' : Kd N' t'.kids) (e : t.prs = t'.prs) : t = t' := by
  rw [below_eq, below_eq t'] at e
  obtain ⟨hv, hk⟩ := own_split (fun q hq => h.key_ne hq) (fun q hq => h'.key_ne hq) e
  rw [← RT.eta t, ← RT.eta t', hl, hv, kd_uniq _ _ _ _ h h' hk]
end Go.QS
/- Plain: how a tree looks, byte by byte; is it as it must be? No program. -/
namespace Go.QS

/-- A number in two bytes, the lowest first. -/
def twoB (n : Nat) : List UInt8 := [UInt8.ofNat n, UInt8.ofNat (n / 256)]
def textB (s : List UInt8) : List UInt8 := twoB s.length ++ s
def valB : Option (List UInt8) → List UInt8
  | some v => 1 :: textB v
  | none => [0]
def vlen : Option (List UInt8) → Nat
  | some v => 2 + v.length
  | none => 0
/-- What stands ahead of a node's kids. -/
def headB (lab : List UInt8) (val : Option (List UInt8)) (k : Nat) : List UInt8 := textB lab ++ valB val ++ twoB k
mutual
def RT.shp : RT → List UInt8
  | .node lab val kids => headB lab val kids.length ++ shps kids
def shps : List RT → List UInt8
  | [] => []
  | t :: r => t.shp ++ shps r
end
theorem shp_eq (t : RT) : t.shp = headB t.lab t.val t.kids.length ++ shps t.kids := by cases t; rfl
theorem shps_nil : shps [] = [] := rfl
theorem shps_cons (t : RT) (r : List RT) : shps (t :: r) = t.shp ++ shps r := rfl
theorem shps_append (a b : List RT) : shps (a ++ b) = shps a ++ shps b := by
  induction a with
  | nil => rfl
  | cons t a ih => simp [shps_cons, ih]
theorem shps_snoc {ks : List RT} {j : Nat} {k : RT} (h : ks[j]? = some k) : shps (ks.take (j + 1)) = shps (ks.take j) ++ k.shp := by
  rw [take_snoc h, shps_append, shps_cons, shps_nil, List.append_nil]
theorem shps_le (ks : List RT) (j : Nat) : (shps (ks.take j)).length ≤ (shps ks).length := by
  conv => rhs; rw [← List.take_append_drop j ks]
  rw [shps_append, List.length_append]
  omega
theorem textB_len (s : List UInt8) : (textB s).length = 2 + s.length := by simp [textB, twoB]; omega
theorem headB_len (lab : List UInt8) (val : Option (List UInt8)) (k : Nat) : (headB lab val k).length = 5 + lab.length + vlen val := by
  unfold headB
  cases val <;> simp [textB_len, twoB, valB, vlen] <;> omega

theorem shps_ge (ks : List RT) : 5 * ks.length ≤ (shps ks).length := by
  induction ks with
  | nil => simp
  | cons t r ih =>
    rw [shps_cons, List.length_append, shp_eq, List.length_append, headB_len, List.length_cons]
    omega
theorem u8_mod {a b : Nat} (h : UInt8.ofNat a = UInt8.ofNat b) : a % 256 = b % 256 := by
  have := congrArg UInt8.toNat h
  simpa using this
theorem twoB_inj {a b : Nat} (ha : a < 65536) (hb : b < 65536) (h : twoB a = twoB b) : a = b := by
  simp only [twoB, List.cons.injEq, and_true] at h
  have h1 := u8_mod h.1
  have h2 := u8_mod h.2
  omega
theorem text_cut {a b x y : List UInt8} (ha : a.length < 65536) (hb : b.length < 65536) (h : textB a ++ x = textB b ++ y) : a = b ∧ x = y := by
  unfold textB at h
  rw [List.append_assoc, List.append_assoc] at h
  obtain ⟨h1, h2⟩ := List.append_inj h (by simp [twoB])
  have hl := twoB_inj ha hb h1
  exact List.append_inj h2 hl

/-- Trees whose texts are not too long, nor have too many kids. -/
inductive Sml : RT → Prop
  | mk {t : RT} (h1 : t.lab.length < 65536) (h2 : ∀ v, t.val = some v → v.length < 65536) (h3 : t.kids.length < 65536) (h4 : ∀ k ∈ t.kids, Sml k) : Sml t

/-- No node has too many kids. -/
inductive Wide : RT → Prop
  | mk {t : RT} (h1 : t.kids.length ≤ 1000000) (h2 : ∀ k ∈ t.kids, Wide k) : Wide t
theorem Wide.open {t : RT} (h : Wide t) : t.kids.length ≤ 1000000 ∧ ∀ k ∈ t.kids, Wide k := by
  cases h with
  | mk h1 h2 => exact ⟨h1, h2⟩
theorem Sml.wide {t : RT} (h : Sml t) : Wide t := by
  induction h with
  | mk h1 h2 h3 h4 ih => exact .mk (by omega) ih

theorem head_cut {lab lab' : List UInt8} {val val' : Option (List UInt8)} {k k' : Nat} {x y : List UInt8} (h1 : lab.length < 65536) (h1' : lab'.length < 65536) (h2 : ∀ v, val = some v → v.length < 65536) (h2' : ∀ v, val' = some v → v.length < 65536) (h3 : k < 65536) (h3' : k' < 65536)
    (h : headB lab val k ++ x = headB lab' val' k' ++ y) : lab = lab' ∧ val = val' ∧ k = k' ∧ x = y := by
  unfold headB at h
  rw [List.append_assoc, List.append_assoc, List.append_assoc, List.append_assoc] at h
  obtain ⟨e1, h⟩ := text_cut h1 h1' h
  have two : ∀ {p q : List UInt8}, twoB k ++ p = twoB k' ++ q → k = k' ∧ p = q := by
    intro p q h
    obtain ⟨a, b⟩ := List.append_inj h (by simp [twoB])
    exact ⟨twoB_inj h3 h3' a, b⟩
  cases val with
  | none =>
    cases val' with
    | none =>
      simp only [valB, List.cons_append, List.nil_append, List.cons.injEq, true_and] at h
      exact ⟨e1, rfl, two h⟩
    | some v' => simp [valB] at h
  | some v =>
    cases val' with
    | none => simp [valB] at h
    | some v' =>
      simp only [valB, List.cons_append, List.cons.injEq, true_and] at h
      obtain ⟨e2, h⟩ := text_cut (h2 v rfl) (h2' v' rfl) h
      exact ⟨e1, by rw [e2], two h⟩

mutual
theorem shp_cut : ∀ (t t' : RT) (x y : List UInt8), Sml t → Sml t' → t.shp ++ x = t'.shp ++ y → t = t' ∧ x = y
  | .node lab val kids, t', x, y, h, h', e => by
    obtain ⟨a1, a2, a3, a4⟩ := h
    obtain ⟨b1, b2, b3, b4⟩ := h'
    rw [shp_eq, shp_eq t', List.append_assoc, List.append_assoc] at e
    obtain ⟨e1, e2, e3, e4⟩ := head_cut a1 b1 a2 b2 a3 b3 e
    obtain ⟨e5, e6⟩ := shps_cut kids t'.kids x y a4 b4 e3 e4
    refine ⟨?_, e6⟩
    rw [← RT.eta t', ← e1, ← e2, ← e5]
    rfl
theorem shps_cut : ∀ (ks ks' : List RT) (x y : List UInt8), (∀ k ∈ ks, Sml k) → (∀ k ∈ ks', Sml k) → ks.length = ks'.length → shps ks ++ x = shps ks' ++ y → ks = ks' ∧ x = y
  | [], ks', x, y, _, _, hl, e => by
    obtain rfl : ks' = [] := List.eq_nil_of_length_eq_zero hl.symm
    exact ⟨rfl, e⟩
  | t :: r, [], x, y, _, _, hl, _ => by simp at hl
  | t :: r, t' :: r', x, y, h, h', hl, e => by
    rw [shps_cons, shps_cons, List.append_assoc, List.append_assoc] at e
    obtain ⟨e1, e2⟩ := shp_cut t t' _ _ (h t (List.mem_cons_self ..)) (h' t' (List.mem_cons_self ..)) e
    obtain ⟨e3, e4⟩ := shps_cut r r' x y (fun k hk => h k (List.mem_cons_of_mem _ hk)) (fun k hk => h' k (List.mem_cons_of_mem _ hk)) (by simpa using hl) e2
    exact ⟨by rw [e1, e3], e4⟩
end
theorem shp_inj {t t' : RT} (h : Sml t) (h' : Sml t') : t.shp = t'.shp ↔ t = t' := by
  constructor
  · intro e
    exact (shp_cut t t' [] [] h h' (by simpa using e)).1
  · rintro rfl; rfl

/-! ### As it must be -/
def headsB : List RT → Bool
  | [] => true
  | [_] => true
  | a :: b :: r => decide (a.hd < b.hd) && headsB (b :: r)
/-- Labels that are there, of first bytes that rise. -/
def risesB (ks : List RT) : Bool := (ks.all fun k => !k.lab.isEmpty) && headsB ks
mutual
def RT.brB : RT → Bool
  | .node _ val kids => risesB kids && (val.isSome || decide (2 ≤ kids.length)) && brsB kids
def brsB : List RT → Bool
  | [] => true
  | t :: r => t.brB && brsB r
end
def RT.canB (t : RT) : Bool := t.lab.isEmpty && risesB t.kids && brsB t.kids
theorem brB_eq (t : RT) : t.brB = (risesB t.kids && (t.val.isSome || decide (2 ≤ t.kids.length)) && brsB t.kids) := by cases t; rfl
theorem brsB_iff (ks : List RT) : brsB ks = true ↔ ∀ k ∈ ks, k.brB = true := by
  induction ks with
  | nil => simp [brsB]
  | cons t r ih => simp [brsB, ih]
theorem headsB_iff : ∀ (ks : List RT), headsB ks = true ↔ Heads ks
  | [] => by simp [headsB, Heads]
  | [a] => by simp [headsB, Heads]
  | a :: b :: r => by
    rw [headsB, Bool.and_eq_true, decide_eq_true_eq, headsB_iff (b :: r), heads_cons (x := a)]
    constructor
    · rintro ⟨h1, h2⟩
      refine ⟨fun q hq => ?_, h2⟩
      rcases List.mem_cons.1 hq with rfl | hq
      · exact h1
      · exact Nat.lt_trans h1 ((heads_cons.1 h2).1 q hq)
    · rintro ⟨h1, h2⟩
      exact ⟨h1 b (List.mem_cons_self ..), h2⟩
theorem risesB_iff (ks : List RT) : risesB ks = true ↔ (∀ k ∈ ks, k.lab ≠ []) ∧ Heads ks := by
  rw [risesB, Bool.and_eq_true, headsB_iff, List.all_eq_true]
  simp

/-- No key is longer than so. -/
inductive Dp : Nat → List RT → Prop
  | mk {N : Nat} {ks : List RT} (h : ∀ k ∈ ks, k.lab.length ≤ N) (h' : ∀ k ∈ ks, Dp (N - k.lab.length) k.kids) : Dp N ks
theorem kd_of : ∀ (N : Nat) (ks : List RT), Dp N ks → risesB ks = true → brsB ks = true → Kd N ks := by
  intro N ks h
  induction h with
  | @mk N ks h h' ih =>
    intro h1 h2
    obtain ⟨r1, r2⟩ := (risesB_iff ks).1 h1
    refine kd_iff.2 ⟨r2, fun k hk => ?_⟩
    have hb := (brsB_iff ks).1 h2 k hk
    rw [brB_eq, Bool.and_eq_true, Bool.and_eq_true, Bool.or_eq_true, decide_eq_true_eq] at hb
    exact ⟨r1 k hk, h k hk, hb.1.2, ih k hk hb.1.1 hb.2⟩
theorem Kd.dp {N : Nat} {ks : List RT} (h : Kd N ks) : Dp N ks := by
  induction h with
  | nil N => exact .mk (fun k hk => by cases hk) (fun k hk => by cases hk)
  | @cons N t r h1 h2 h3 h4 h5 h6 ih4 ih6 =>
    cases ih6 with
    | mk a b =>
      refine .mk (fun k hk => ?_) (fun k hk => ?_)
      · rcases List.mem_cons.1 hk with rfl | hk
        · exact h2
        · exact a k hk
      · rcases List.mem_cons.1 hk with rfl | hk
        · exact ih4
        · exact b k hk
theorem Kd.risesB {N : Nat} {ks : List RT} (h : Kd N ks) : risesB ks = true := (risesB_iff ks).2 ⟨fun k hk => h.ne k hk, h.heads⟩
theorem Kd.brsB {N : Nat} {ks : List RT} (h : Kd N ks) : brsB ks = true := by
  induction h with
  | nil N => rfl
  | @cons N t r h1 h2 h3 h4 h5 h6 ih4 ih6 =>
    rw [QS.brsB, brB_eq, ih4, ih6, h4.risesB, Bool.true_and, Bool.and_true, Bool.and_true, Bool.or_eq_true, decide_eq_true_eq]
    exact h3
theorem Kd.canB {N : Nat} {t : RT} (hl : t.lab = []) (h : Kd N t.kids) : t.canB = true := by
  unfold RT.canB
  rw [h.risesB, h.brsB, hl]; rfl

/-! ### How long -/
def cntsT (ks : List RT) : Nat := (belows ks).length
theorem prs_pos {N : Nat} {t : RT} (h : Br N t) : 1 ≤ t.prs.length := List.length_pos_iff.2 (prs_ne h)
/-- A tree of keys and values of at most 40 bytes. -/
theorem shps_len {N : Nat} {ks : List RT} (h : Kd N ks) (hN : N ≤ 40) (hv : ∀ q ∈ belows ks, q.2.length ≤ 40) : (shps ks).length + 87 * ks.length ≤ 174 * (belows ks).length := by
  induction h with
  | nil N => simp [shps_nil, belows_nil]
  | @cons N t r h1 h2 h3 h4 h5 h6 ih4 ih6 =>
    have hv1 : ∀ q ∈ belows r, q.2.length ≤ 40 := fun q hq => hv q (by rw [belows_cons]; exact List.mem_append.2 (.inr hq))
    have hv2 : ∀ q ∈ t.prs, q.2.length ≤ 40 := fun q hq => hv (t.lab ++ q.1, q.2) (by rw [belows_cons]; exact List.mem_append.2 (.inl (mem_pre.2 ⟨q, hq, rfl⟩)))
    have i6 := ih6 hN hv1
    have i4 := ih4 (by omega) (fun q hq => hv2 q (mem_below.2 (.inr hq)))
    rw [shps_cons, shp_eq, belows_cons, List.length_append, List.length_append, List.length_append, headB_len, List.length_cons]
    have hp : (pre t.lab t.prs).length = (ownP t.val).length + (belows t.kids).length := by rw [below_eq]; simp [pre]
    rw [hp]
    cases hval : t.val with
    | none =>
      rw [hval] at h3
      have h3 : 2 ≤ t.kids.length := by simpa using h3
      simp only [ownP, List.length_nil, vlen]
      omega
    | some v =>
      have := hv2 ([], v) (mem_below.2 (.inl ⟨rfl, hval⟩))
      simp only [ownP, List.length_cons, List.length_nil, vlen]
      simp only at this
      omega
theorem shp_len {N : Nat} {t : RT} (h : Kd N t.kids) (hN : N ≤ 40) (hl : t.lab.length ≤ 40) (hv : ∀ q ∈ t.prs, q.2.length ≤ 40) : t.shp.length ≤ 87 + 174 * t.prs.length := by
  have := shps_len h hN (fun q hq => hv q (mem_below.2 (.inr hq)))
  rw [shp_eq, List.length_append, headB_len, below_eq t, List.length_append]
  cases hval : t.val with
  | none => simp only [ownP, List.length_nil, vlen]; omega
  | some v =>
    have := hv ([], v) (mem_below.2 (.inl ⟨rfl, hval⟩))
    simp only [ownP, List.length_cons, List.length_nil, vlen]
    simp only at this
    omega
theorem Kd.sml {N : Nat} {ks : List RT} (h : Kd N ks) (hN : N ≤ 40) (hv : ∀ q ∈ belows ks, q.2.length ≤ 40) : ∀ k ∈ ks, Sml k := by
  induction h with
  | nil N => intro k hk; cases hk
  | @cons N t r h1 h2 h3 h4 h5 h6 ih4 ih6 =>
    intro k hk
    rcases List.mem_cons.1 hk with rfl | hk
    · have hv2 : ∀ q ∈ k.prs, q.2.length ≤ 40 := fun q hq => hv (k.lab ++ q.1, q.2) (by rw [belows_cons]; exact List.mem_append.2 (.inl (mem_pre.2 ⟨q, hq, rfl⟩)))
      refine .mk (by omega) (fun v hval => ?_) (by have := h4.len; omega) (ih4 (by omega) fun q hq => hv2 q (mem_below.2 (.inr hq)))
      have := hv2 ([], v) (mem_below.2 (.inl ⟨rfl, hval⟩))
      simp only at this; omega
    · exact ih6 hN (fun q hq => hv q (by rw [belows_cons]; exact List.mem_append.2 (.inr hq))) k hk
theorem root_sml {N : Nat} {t : RT} (h : Kd N t.kids) (hN : N ≤ 40) (hl : t.lab.length ≤ 40) (hv : ∀ q ∈ t.prs, q.2.length ≤ 40) : Sml t := by
  refine .mk (by omega) (fun v hval => ?_) (by have := h.len; omega) (h.sml hN fun q hq => hv q (mem_below.2 (.inr hq)))
  have := hv ([], v) (mem_below.2 (.inl ⟨rfl, hval⟩))
  simp only at this; omega
end Go.QS
/- Contracts: shape.lay, shape.Text: a number's bytes, a text, behind whatever stands there. -/
namespace Go.Proofs.YtclcgelbcbnekaaDoor
open Go.RowKit Go.QS
set_option linter.unusedVariables false

theorem infoB : ∃ i z, Tryd.prog.info? 5 = some i ∧ i.zero = some z ∧ i.size = 1 ∧ i.bytes = 1 ∧ z.cells.size = 1 := info_of (z := .int .u8 0) (by kernel_rfl) rfl
theorem infoB' : ∃ i z, Tryd.prog.info? 5 = some i ∧ i.zero = some z ∧ i.size = 1 ∧ i.bytes = 1 ∧ z = .int .u8 0 := by
  have h : (Tryd.prog.info? 5).map (fun i => (i.zero, i.size, i.bytes)) = some (some (.int .u8 0), 1, 1) := by kernel_rfl
  cases hi : Tryd.prog.info? 5 with
  | none => rw [hi] at h; cases h
  | some i =>
    rw [hi] at h
    simp only [Option.map_some, Option.some.injEq, Prod.mk.injEq] at h
    exact ⟨i, _, rfl, h.1, h.2.1, h.2.2, rfl⟩

/-- A slice that may be appended to: a row of the call's own, or one without spare room. -/
def Rdy (W w : World) (v : Value) (l : List UInt8) : Prop :=
  w.ownsRow W.heap.size 5 1 v l.length (encB l) ∨ ∃ A, v = .slice A l.length l.length ∧ Seg w A (encB l)
theorem Rdy.slice {W w : World} {v : Value} {l : List UInt8} (h : Rdy W w v l) : ∃ A c, v = .slice A l.length c := by
  rcases h with h | ⟨A, rfl, _⟩
  · rcases h.2 with ⟨rfl, h0⟩ | ⟨g, cap, cur, rfl, _⟩
    · rw [h0]; exact ⟨_, _, rfl⟩
    · exact ⟨_, _, rfl⟩
  · exact ⟨_, _, rfl⟩
theorem Rdy.alloc {W w : World} {v : Value} {l : List UInt8} (h : Rdy W w v l) (o : Obj) : Rdy W (w.alloc o) v l := by
  rcases h with h | ⟨A, rfl, h⟩
  · exact .inl (h.alloc _)
  · exact .inr ⟨A, rfl, h.alloc o⟩

theorem wpList_appR {W w : World} {ops : Array Oper} {rest : List Oper} {o : Oper} {a : Act} {Q : Exit → Act → World → Prop} (hgd : o.guard = none) (s x : Operand) (t : TypeId)
    (ho : o.op = .call { callee := .builtin .append, args := #[s, x], argTypes := #[t, t] }) (ht : Tryd.prog.underlying t = some (.slice 5))
    (v : Value) (l : List UInt8) (hs : a.eval s = v) (hr : Rdy W w v l) (hb : Below W.heap.size W w)
    (A : Option Addr) (m c : Nat) (news : List UInt8) (hx : a.eval x = .slice A m c) (hm : 0 < m) (hl : news.length = m) (hseg : Seg w A (encB news)) (h63 : l.length + m ≤ 1000000000)
    (h : ∀ v' w', w'.ownsRow W.heap.size 5 1 v' (l ++ news).length (encB (l ++ news)) → Below W.heap.size W w' → wpList Tryd.prog ops Q rest (a.put o.dst v') w') : wpList Tryd.prog ops Q (o :: rest) a w := by
  have hn : (l ++ news).length = l.length + m := by simp [hl]
  have hbound : l.length + m ≤ maxLen := by unfold maxLen; omega
  rcases hr with hr | ⟨A0, rfl, hr⟩
  · refine wpList_appE hgd s x t ho 5 1 1 ht infoB (by decide) v l.length (encB l) hs hr hb A m c (encB news) hx (by rw [encB_length]; omega) hseg (encB_one _) hbound (by omega) ?_
    intro v' w' h1 h2
    exact h v' w' (by rw [hn, encB_append]; exact h1) h2
  · refine wpList_appG hgd s x t ho 5 1 1 ht infoB (by decide) A0 l.length (encB l) hs (by rw [encB_length]; omega) hr hb A m c (encB news) hx hm (by rw [encB_length]; omega) hseg (encB_one _) hbound (by omega) ?_
    intro v' w' h1 h2
    exact h v' w' (by rw [hn, encB_append]; exact h1) h2

/-- The same as the run's equation. -/
theorem run_appR {W w : World} (t ty : TypeId) (ht : Tryd.prog.underlying t = some (.slice 5)) (v : Value) (l : List UInt8) (hr : Rdy W w v l) (hb : Below W.heap.size W w)
    (A : Option Addr) (m c : Nat) (news : List UInt8) (hm : 0 < m) (hl : news.length = m) (hseg : Seg w A (encB news)) (h63 : l.length + m ≤ 1000000000) :
    ∃ v' w', (Builtin.append_ #[t, t] ty #[v, .slice A m c]).run Tryd.prog w = .ok v' w' ∧ w'.ownsRow W.heap.size 5 1 v' (l ++ news).length (encB (l ++ news)) ∧ Below W.heap.size W w' := by
  have hn : (l ++ news).length = l.length + m := by simp [hl]
  have hbound : l.length + m ≤ maxLen := by unfold maxLen; omega
  obtain ⟨i, z, hi, hz, h4, h5, h6⟩ := infoB
  have hne : encB news ≠ [] := by intro e; have := congrArg List.length e; simp [encB_length] at this; simp [this] at hl; omega
  rcases hr with hr | ⟨A0, rfl, hr⟩
  · obtain ⟨v', w', hrun, h1, h2, _⟩ := run_app (P := Tryd.prog) w W.heap.size t ty 5 i z 1 1 ht hi hz h4 h5 h6 (by decide) v l.length (encB l) hr A m c (encB news) (by rw [encB_length]; omega) hseg (encB_one _) hbound (by omega) hb.size
    exact ⟨v', w', hrun, by rw [hn, encB_append]; exact h1, hb.grown h2 hb.size fun k hk => (hr.lt k hk).1⟩
  · obtain ⟨b, o, rfl, hc⟩ := hseg hne
    have hcells : ∀ j u, (encB news)[j]? = some u → w.cell? ((⟨b, o, none⟩ : Addr).add j) = some u := by
      intro j u hu
      rw [Addr.add_lit]
      exact hc j u hu
    cases A0 with
    | none =>
      have h0 : l = [] := by
        rcases List.eq_nil_or_concat l with h | ⟨_, _, h⟩
        · exact h
        · obtain ⟨b, o, h', _⟩ := hr (by rw [h]; simp [encB]); cases h'
      subst h0
      obtain ⟨v', w', hrun, h1, h2, _⟩ := run_app (P := Tryd.prog) w W.heap.size t ty 5 i z 1 1 ht hi hz h4 h5 h6 (by decide) (.slice none 0 0) 0 [] (World.ownsRow_nil w _ _ _) (some ⟨b, o, none⟩) m c (encB news) (by rw [encB_length]; omega) hseg (encB_one _) (by unfold maxLen; omega) (by omega) hb.size
      refine ⟨v', w', hrun, by rw [hn, encB_append]; simpa [encB] using h1, hb.grown h2 hb.size fun k hk => by cases hk⟩
    | some a0 =>
      obtain ⟨v', w', hrun, r1, r2⟩ := run_append_arg_grows (P := Tryd.prog) w t ty 5 i z 1 1 ht hi hz h4 h5 h6 (by decide) a0 l.length l.length (encB l) (by rw [encB_length]; omega) (fun j u hu => by
          obtain ⟨b1, o1, h', hc1⟩ := hr (fun e => by rw [e] at hu; simp at hu)
          cases h'
          rw [Addr.add_lit]
          exact hc1 j u hu) ⟨b, o, none⟩ m c (encB news) (by rw [encB_length]; omega) hcells (by omega) hbound (by omega)
      exact ⟨v', w', hrun, by rw [hn, encB_append]; exact own_base r1 hb.size, hb.grown r2 hb.size fun k hk => by cases hk⟩

/-- At a step of a region that draws its order. -/
theorem step_appR {W w : World} {ops : Array Oper} {o : Oper} {a : Act} {K : Act → World → Prop} {Q : Exit → Act → World → Prop} {E : Prop} (hgd : o.guard = none) (s x : Operand) (t : TypeId)
    (ho : o.op = .call { callee := .builtin .append, args := #[s, x], argTypes := #[t, t] }) (ht : Tryd.prog.underlying t = some (.slice 5))
    (v : Value) (l : List UInt8) (hs : a.eval s = v) (hr : Rdy W w v l) (hb : Below W.heap.size W w)
    (A : Option Addr) (m c : Nat) (news : List UInt8) (hx : a.eval x = .slice A m c) (hm : 0 < m) (hl : news.length = m) (hseg : Seg w A (encB news)) (h63 : l.length + m ≤ 1000000000)
    (h : ∀ v' w', w'.ownsRow W.heap.size 5 1 v' (l ++ news).length (encB (l ++ news)) → Below W.heap.size W w' → K (a.put o.dst v') w') :
    if Region.wanted o (yielded ops a.tmps) = true then Oper.wp Tryd.prog o a w K Q else E := by
  have hw : Region.wanted o (yielded ops a.tmps) = true := by simp [Region.wanted, hgd]
  rw [if_pos hw]
  obtain ⟨v', w', hrun, h2, h3⟩ := run_appR t o.type ht v l hr hb A m c news hm hl hseg h63
  unfold Oper.wp execOp
  simp only [ho, resolve, invoke, builtin, Sem.run_bind, Sem.run_pure, Result.andThen_ok, List.map_toArray, List.map_cons, List.map_nil, hs, hx, hrun]
  exact h v' w' h2 h3

/-- So many bytes of a number, the lowest first. -/
def layB (n k : Nat) : List UInt8 := (List.range k).map fun i => UInt8.ofNat (n >>> (8 * i))
theorem layB_len (n k : Nat) : (layB n k).length = k := by simp [layB]
theorem layB_snoc (n k : Nat) : layB n (k + 1) = layB n k ++ [UInt8.ofNat (n >>> (8 * k))] := by simp [layB, List.range_succ]
theorem layB_two (n : Nat) : layB n 2 = twoB n := by
  simp [layB, twoB, List.range_succ, Nat.shiftRight_eq_div_pow]

set_option maxRecDepth 100000 in
theorem lay_c (W w : World) (v : Value) (l : List UInt8) (n k : Nat) (hr : Rdy W w v l) (hb : Below W.heap.size W w) (hn : n < 18446744073709551616) (hk0 : 0 < k) (hk : k ≤ 7) (h9 : l.length + k ≤ 1000000000) :
    Calls Tryd.prog 57 #[v, .int .u64 n, .int .i64 k] w fun e w' => ∃ v', e = .returned v' ∧ w'.ownsRow W.heap.size 5 1 v' (l ++ layB n k).length (encB (l ++ layB n k)) ∧ Below W.heap.size W w' := by
  have HR0 := Lib.hid hr
  clear hr
  go_enter Tryd.func57, Tryd.ntmps57
  repeat' (first | go_skip | go_guarded | go_step)
  go_loopg [0, 9] k (fun gk v0 v9 wr => ∃ i : Nat, v9 = .int .i64 i ∧ i ≤ k ∧ k - i ≤ gk ∧ Hid (Rdy W wr v0 (l ++ layB n i) ∧ Below W.heap.size W wr ∧ (0 < i → wr.ownsRow W.heap.size 5 1 v0 (l ++ layB n i).length (encB (l ++ layB n i)))))
  case atStart => exact ⟨0, rfl, Nat.zero_le _, Nat.le_refl _, Lib.hid ⟨by simpa [layB] using HR0.out, hb, fun h => absurd h (Nat.lt_irrefl _)⟩⟩
  case round =>
    obtain ⟨i, rfl, hik, hgk, HI⟩ := hrel
    rcases Nat.lt_or_ge i k with hlt | hge
    · have d1 : decide (i < k) = true := by simp [hlt]
      have hlen : (l ++ layB n i).length = l.length + i := by simp [layB_len]
      have hin9 : i ≤ 7 := by omega
      obtain ⟨b, hbb⟩ : ∃ b, b = UInt8.ofNat (n >>> (8 * i)) := ⟨_, rfl⟩
      have hv : (n : Int) / 2 ^ (8 * i) % 256 = (b.toNat : Int) := by
        rw [hbb, Nat.shiftRight_eq_div_pow]
        simp
      have HL : Hid (l ++ layB n (i + 1) = l ++ layB n i ++ [b]) := Lib.hid (by rw [layB_snoc, hbb, List.append_assoc])
      clear hbb
      repeat' (first | go_skip | go_guarded | (at_builtin; refine wpList_appR (W := W) rfl (.tmp 12) (.tmp 18) _ rfl Tryd.underlying34 _ (l ++ layB n i) rfl (HI.out.1.alloc _) (HI.out.2.1.alloc HI.out.2.1.size _) _ 1 1 [b] rfl (by decide) rfl (Seg.new _ [_] _ rfl) (by omega) ?_; intro v1 w1 hown hb1) | go_step)
      have H1 : Hid (w1.ownsRow W.heap.size 5 1 v1 (l ++ layB n (i + 1)).length (encB (l ++ layB n (i + 1))) ∧ Below W.heap.size W w1) := Lib.hid (by rw [HL.out]; exact ⟨hown, hb1⟩)
      clear hown hb1
      go_roundg (k - (i + 1))
      case measure => omega
      case rel => exact ⟨i + 1, by go_num, by omega, Nat.le_refl _, Lib.hid ⟨.inl H1.out.1, H1.out.2, fun _ => H1.out.1⟩⟩
    · obtain rfl : i = k := by omega
      have d1 : decide (i < i) = false := by simp
      repeat' (first | go_skip | go_guarded | go_step)
      go_ret
      exact ⟨_, rfl, HI.out.2.2 hk0, HI.out.2.1⟩

theorem sl_full {w : World} {v : Value} {l : List UInt8} (h : BS w v l) : ∃ A c, v = .slice A l.length c ∧ l.length ≤ c ∧ c ≤ maxLen ∧ Seg w A (encB l) := by
  obtain ⟨A, c, rfl, hl, hn, hc, hs⟩ := h
  exact ⟨A, c, rfl, hn, hc, hs⟩

set_option maxRecDepth 100000 in
theorem text_c (w : World) (v : Value) (l s : List UInt8) (h : BS w v l) (h9 : l.length + s.length + 2 ≤ 1000000000) :
    Calls Tryd.prog 89 #[v, str s] w fun e w' => ∃ v', e = .returned v' ∧ w'.ownsRow w.heap.size 5 1 v' (l ++ textB s).length (encB (l ++ textB s)) ∧ Ext w w' := by
  obtain ⟨A, c, rfl, hn, hc, hs⟩ := sl_full h
  have HS := Lib.hid hs
  clear hs h
  go_enter Tryd.func89, Tryd.ntmps89
  repeat' (first | go_at_call 57 | go_skip | go_guarded | go_step)
  refine (lay_c w w _ l s.length 2 (.inr ⟨A, rfl, HS.out⟩) (Ext.refl w) (by omega) (by decide) (by decide) (by omega)).mono ?_
  rintro e w1 ⟨v1, rfl, h1, f1⟩
  have H1 := Lib.hid (And.intro h1 f1)
  have hl1 : (l ++ layB s.length 2).length = l.length + 2 := by simp [layB_len]
  clear h1 f1
  go_simp
  repeat' (first | go_skip | go_guarded | (at_builtin; refine wpList_appS (W := w) rfl (.tmp 14) (.tmp 15) _ _ rfl 5 Tryd.underlying34 Tryd.underlying9 infoB' _ _ _ rfl H1.out.1 H1.out.2 s rfl (by unfold maxLen; omega) (by omega) ?_; intro v2 w2 hown hb2) | go_step)
  go_ret
  refine ⟨_, rfl, ?_, hb2⟩
  have e : l ++ textB s = l ++ layB s.length 2 ++ s := by rw [layB_two, textB, List.append_assoc]
  rw [e, List.length_append, encB_append]
  exact hown
end Go.Proofs.YtclcgelbcbnekaaDoor
