/- Plain: how a tree looks, byte by byte; is it as it must be? No program. -/
import Derived.Test.YtbmakajadelckaaDoorRu
set_option linter.unusedVariables false
set_option linter.unusedSimpArgs false
namespace Go.QS

/-- A number in two bytes, the lowest first. -/
def twoB (n : Nat) : List UInt8 := [UInt8.ofNat n, UInt8.ofNat (n / 256)]
def textB (s : List UInt8) : List UInt8 := twoB s.length ++ s
def valB : Option (List UInt8) → List UInt8
  | some v => 1 :: textB v
  | none => [0]
def vlen : Option (List UInt8) → Nat
  | some v => 2 + v.length
  | none => 0
/-- What stands ahead of a node's kids. -/
def headB (lab : List UInt8) (val : Option (List UInt8)) (k : Nat) : List UInt8 := textB lab ++ valB val ++ twoB k
mutual
def RT.shp : RT → List UInt8
  | .node lab val kids => headB lab val kids.length ++ shps kids
def shps : List RT → List UInt8
  | [] => []
  | t :: r => t.shp ++ shps r
end
theorem shp_eq (t : RT) : t.shp = headB t.lab t.val t.kids.length ++ shps t.kids := by cases t; rfl
theorem shps_nil : shps [] = [] := rfl
theorem shps_cons (t : RT) (r : List RT) : shps (t :: r) = t.shp ++ shps r := rfl
theorem shps_append (a b : List RT) : shps (a ++ b) = shps a ++ shps b := by
  induction a with
  | nil => rfl
  | cons t a ih => simp [shps_cons, ih]
theorem shps_snoc {ks : List RT} {j : Nat} {k : RT} (h : ks[j]? = some k) : shps (ks.take (j + 1)) = shps (ks.take j) ++ k.shp := by
  rw [take_snoc h, shps_append, shps_cons, shps_nil, List.append_nil]
theorem shps_le (ks : List RT) (j : Nat) : (shps (ks.take j)).length ≤ (shps ks).length := by
  conv => rhs; rw [← List.take_append_drop j ks]
  rw [shps_append, List.length_append]
  omega
theorem textB_len (s : List UInt8) : (textB s).length = 2 + s.length := by simp [textB, twoB]; omega
theorem headB_len (lab : List UInt8) (val : Option (List UInt8)) (k : Nat) : (headB lab val k).length = 5 + lab.length + vlen val := by
  unfold headB
  cases val <;> simp [textB_len, twoB, valB, vlen] <;> omega

theorem shps_ge (ks : List RT) : 5 * ks.length ≤ (shps ks).length := by
  induction ks with
  | nil => simp
  | cons t r ih =>
    rw [shps_cons, List.length_append, shp_eq, List.length_append, headB_len, List.length_cons]
    omega
theorem u8_mod {a b : Nat} (h : UInt8.ofNat a = UInt8.ofNat b) : a % 256 = b % 256 := by
  have := congrArg UInt8.toNat h
  simpa using this
theorem twoB_inj {a b : Nat} (ha : a < 65536) (hb : b < 65536) (h : twoB a = twoB b) : a = b := by
  simp only [twoB, List.cons.injEq, and_true] at h
  have h1 := u8_mod h.1
  have h2 := u8_mod h.2
  omega
theorem text_cut {a b x y : List UInt8} (ha : a.length < 65536) (hb : b.length < 65536) (h : textB a ++ x = textB b ++ y) : a = b ∧ x = y := by
  unfold textB at h
  rw [List.append_assoc, List.append_assoc] at h
  obtain ⟨h1, h2⟩ := List.append_inj h (by simp [twoB])
  have hl := twoB_inj ha hb h1
  exact List.append_inj h2 hl

/-- Trees whose texts are not too long, nor have too many kids. -/
inductive Sml : RT → Prop
  | mk {t : RT} (h1 : t.lab.length < 65536) (h2 : ∀ v, t.val = some v → v.length < 65536) (h3 : t.kids.length < 65536) (h4 : ∀ k ∈ t.kids, Sml k) : Sml t

/-- No node has too many kids. -/
inductive Wide : RT → Prop
  | mk {t : RT} (h1 : t.kids.length ≤ 1000000) (h2 : ∀ k ∈ t.kids, Wide k) : Wide t
theorem Wide.open {t : RT} (h : Wide t) : t.kids.length ≤ 1000000 ∧ ∀ k ∈ t.kids, Wide k := by
  cases h with
  | mk h1 h2 => exact ⟨h1, h2⟩
theorem Sml.wide {t : RT} (h : Sml t) : Wide t := by
  induction h with
  | mk h1 h2 h3 h4 ih => exact .mk (by omega) ih

theorem head_cut {lab lab' : List UInt8} {val val' : Option (List UInt8)} {k k' : Nat} {x y : List UInt8} (h1 : lab.length < 65536) (h1' : lab'.length < 65536) (h2 : ∀ v, val = some v → v.length < 65536) (h2' : ∀ v, val' = some v → v.length < 65536) (h3 : k < 65536) (h3' : k' < 65536)
    (h : headB lab val k ++ x = headB lab' val' k' ++ y) : lab = lab' ∧ val = val' ∧ k = k' ∧ x = y := by
  unfold headB at h
  rw [List.append_assoc, List.append_assoc, List.append_assoc, List.append_assoc] at h
  obtain ⟨e1, h⟩ := text_cut h1 h1' h
  have two : ∀ {p q : List UInt8}, twoB k ++ p = twoB k' ++ q → k = k' ∧ p = q := by
    intro p q h
    obtain ⟨a, b⟩ := List.append_inj h (by simp [twoB])
    exact ⟨twoB_inj h3 h3' a, b⟩
  cases val with
  | none =>
    cases val' with
    | none =>
      simp only [valB, List.cons_append, List.nil_append, List.cons.injEq, true_and] at h
      exact ⟨e1, rfl, two h⟩
    | some v' => simp [valB] at h
  | some v =>
    cases val' with
    | none => simp [valB] at h
    | some v' =>
      simp only [valB, List.cons_append, List.cons.injEq, true_and] at h
      obtain ⟨e2, h⟩ := text_cut (h2 v rfl) (h2' v' rfl) h
      exact ⟨e1, by rw [e2], two h⟩

mutual
theorem shp_cut : ∀ (t t' : RT) (x y : List UInt8), Sml t → Sml t' → t.shp ++ x = t'.shp ++ y → t = t' ∧ x = y
  | .node lab val kids, t', x, y, h, h', e => by
    obtain ⟨a1, a2, a3, a4⟩ := h
    obtain ⟨b1, b2, b3, b4⟩ := h'
    rw [shp_eq, shp_eq t', List.append_assoc, List.append_assoc] at e
    obtain ⟨e1, e2, e3, e4⟩ := head_cut a1 b1 a2 b2 a3 b3 e
    obtain ⟨e5, e6⟩ := shps_cut kids t'.kids x y a4 b4 e3 e4
    refine ⟨?_, e6⟩
    rw [← RT.eta t', ← e1, ← e2, ← e5]
    rfl
theorem shps_cut : ∀ (ks ks' : List RT) (x y : List UInt8), (∀ k ∈ ks, Sml k) → (∀ k ∈ ks', Sml k) → ks.length = ks'.length → shps ks ++ x = shps ks' ++ y → ks = ks' ∧ x = y
  | [], ks', x, y, _, _, hl, e => by
    obtain rfl : ks' = [] := List.eq_nil_of_length_eq_zero hl.symm
    exact ⟨rfl, e⟩
  | t :: r, [], x, y, _, _, hl, _ => by simp at hl
  | t :: r, t' :: r', x, y, h, h', hl, e => by
    rw [shps_cons, shps_cons, List.append_assoc, List.append_assoc] at e
    obtain ⟨e1, e2⟩ := shp_cut t t' _ _ (h t (List.mem_cons_self ..)) (h' t' (List.mem_cons_self ..)) e
    obtain ⟨e3, e4⟩ := shps_cut r r' x y (fun k hk => h k (List.mem_cons_of_mem _ hk)) (fun k hk => h' k (List.mem_cons_of_mem _ hk)) (by simpa using hl) e2
    exact ⟨by rw [e1, e3], e4⟩
end
theorem shp_inj {t t' : RT} (h : Sml t) (h' : Sml t') : t.shp = t'.shp ↔ t = t' := by
  constructor
  · intro e
    exact (shp_cut t t' [] [] h h' (by simpa using e)).1
  · rintro rfl; rfl

/-! ### As it must be -/
def headsB : List RT → Bool
  | [] => true
  | [_] => true
  | a :: b :: r => decide (a.hd < b.hd) && headsB (b :: r)
/-- Labels that are there, of first bytes that rise. -/
def risesB (ks : List RT) : Bool := (ks.all fun k => !k.lab.isEmpty) && headsB ks
mutual
def RT.brB : RT → Bool
  | .node _ val kids => risesB kids && (val.isSome || decide (2 ≤ kids.length)) && brsB kids
def brsB : List RT → Bool
  | [] => true
  | t :: r => t.brB && brsB r
end
def RT.canB (t : RT) : Bool := t.lab.isEmpty && risesB t.kids && brsB t.kids
theorem brB_eq (t : RT) : t.brB = (risesB t.kids && (t.val.isSome || decide (2 ≤ t.kids.length)) && brsB t.kids) := by cases t; rfl
theorem brsB_iff (ks : List RT) : brsB ks = true ↔ ∀ k ∈ ks, k.brB = true := by
  induction ks with
  | nil => simp [brsB]
  | cons t r ih => simp [brsB, ih]
theorem headsB_iff : ∀ (ks : List RT), headsB ks = true ↔ Heads ks
  | [] => by simp [headsB, Heads]
  | [a] => by simp [headsB, Heads]
  | a :: b :: r => by
    rw [headsB, Bool.and_eq_true, decide_eq_true_eq, headsB_iff (b :: r), heads_cons (x := a)]
    constructor
    · rintro ⟨h1, h2⟩
      refine ⟨fun q hq => ?_, h2⟩
      rcases List.mem_cons.1 hq with rfl | hq
      · exact h1
      · exact Nat.lt_trans h1 ((heads_cons.1 h2).1 q hq)
    · rintro ⟨h1, h2⟩
      exact ⟨h1 b (List.mem_cons_self ..), h2⟩
theorem risesB_iff (ks : List RT) : risesB ks = true ↔ (∀ k ∈ ks, k.lab ≠ []) ∧ Heads ks := by
  rw [risesB, Bool.and_eq_true, headsB_iff, List.all_eq_true]
  simp

/-- No key is longer than so. -/
inductive Dp : Nat → List RT → Prop
  | mk {N : Nat} {ks : List RT} (h : ∀ k ∈ ks, k.lab.length ≤ N) (h' : ∀ k ∈ ks, Dp (N - k.lab.length) k.kids) : Dp N ks
theorem kd_of : ∀ (N : Nat) (ks : List RT), Dp N ks → risesB ks = true → brsB ks = true → Kd N ks := by
  intro N ks h
  induction h with
  | @mk N ks h h' ih =>
    intro h1 h2
    obtain ⟨r1, r2⟩ := (risesB_iff ks).1 h1
    refine kd_iff.2 ⟨r2, fun k hk => ?_⟩
    have hb := (brsB_iff ks).1 h2 k hk
    rw [brB_eq, Bool.and_eq_true, Bool.and_eq_true, Bool.or_eq_true, decide_eq_true_eq] at hb
    exact ⟨r1 k hk, h k hk, hb.1.2, ih k hk hb.1.1 hb.2⟩
theorem Kd.dp {N : Nat} {ks : List RT} (h : Kd N ks) : Dp N ks := by
  induction h with
  | nil N => exact .mk (fun k hk => by cases hk) (fun k hk => by cases hk)
  | @cons N t r h1 h2 h3 h4 h5 h6 ih4 ih6 =>
    cases ih6 with
    | mk a b =>
      refine .mk (fun k hk => ?_) (fun k hk => ?_)
      · rcases List.mem_cons.1 hk with rfl | hk
        · exact h2
        · exact a k hk
      · rcases List.mem_cons.1 hk with rfl | hk
        · exact ih4
        · exact b k hk
theorem Kd.risesB {N : Nat} {ks : List RT} (h : Kd N ks) : risesB ks = true := (risesB_iff ks).2 ⟨fun k hk => h.ne k hk, h.heads⟩
theorem Kd.brsB {N : Nat} {ks : List RT} (h : Kd N ks) : brsB ks = true := by
  induction h with
  | nil N => rfl
  | @cons N t r h1 h2 h3 h4 h5 h6 ih4 ih6 =>
    rw [QS.brsB, brB_eq, ih4, ih6, h4.risesB, Bool.true_and, Bool.and_true, Bool.and_true, Bool.or_eq_true, decide_eq_true_eq]
    exact h3
theorem Kd.canB {N : Nat} {t : RT} (hl : t.lab = []) (h : Kd N t.kids) : t.canB = true := by
  unfold RT.canB
  rw [h.risesB, h.brsB, hl]; rfl

/-! ### How long -/
def cntsT (ks : List RT) : Nat := (belows ks).length
theorem prs_pos {N : Nat} {t : RT} (h : Br N t) : 1 ≤ t.prs.length := List.length_pos_iff.2 (prs_ne h)
/-- A tree of keys and values of at most 40 bytes. -/
theorem shps_len {N : Nat} {ks : List RT} (h : Kd N ks) (hN : N ≤ 40) (hv : ∀ q ∈ belows ks, q.2.length ≤ 40) : (shps ks).length + 87 * ks.length ≤ 174 * (belows ks).length := by
  induction h with
  | nil N => simp [shps_nil, belows_nil]
  | @cons N t r h1 h2 h3 h4 h5 h6 ih4 ih6 =>
    have hv1 : ∀ q ∈ belows r, q.2.length ≤ 40 := fun q hq => hv q (by rw [belows_cons]; exact List.mem_append.2 (.inr hq))
    have hv2 : ∀ q ∈ t.prs, q.2.length ≤ 40 := fun q hq => hv (t.lab ++ q.1, q.2) (by rw [belows_cons]; exact List.mem_append.2 (.inl (mem_pre.2 ⟨q, hq, rfl⟩)))
    have i6 := ih6 hN hv1
    have i4 := ih4 (by omega) (fun q hq => hv2 q (mem_below.2 (.inr hq)))
    rw [shps_cons, shp_eq, belows_cons, List.length_append, List.length_append, List.length_append, headB_len, List.length_cons]
    have hp : (pre t.lab t.prs).length = (ownP t.val).length + (belows t.kids).length := by rw [below_eq]; simp [pre]
    rw [hp]
    cases hval : t.val with
    | none =>
      rw [hval] at h3
      have h3 : 2 ≤ t.kids.length := by simpa using h3
      simp only [ownP, List.length_nil, vlen]
      omega
    | some v =>
      have := hv2 ([], v) (mem_below.2 (.inl ⟨rfl, hval⟩))
      simp only [ownP, List.length_cons, List.length_nil, vlen]
      simp only at this
      omega
theorem shp_len {N : Nat} {t : RT} (h : Kd N t.kids) (hN : N ≤ 40) (hl : t.lab.length ≤ 40) (hv : ∀ q ∈ t.prs, q.2.length ≤ 40) : t.shp.length ≤ 87 + 174 * t.prs.length := by
  have := shps_len h hN (fun q hq => hv q (mem_below.2 (.inr hq)))
  rw [shp_eq, List.length_append, headB_len, below_eq t, List.length_append]
  cases hval : t.val with
  | none => simp only [ownP, List.length_nil, vlen]; omega
  | some v =>
    have := hv ([], v) (mem_below.2 (.inl ⟨rfl, hval⟩))
    simp only [ownP, List.length_cons, List.length_nil, vlen]
    simp only at this
    omega
theorem Kd.sml {N : Nat} {ks : List RT} (h : Kd N ks) (hN : N ≤ 40) (hv : ∀ q ∈ belows ks, q.2.length ≤ 40) : ∀ k ∈ ks, Sml k := by
  induction h with
  | nil N => intro k hk; cases hk
  | @cons N t r h1 h2 h3 h4 h5 h6 ih4 ih6 =>
    intro k hk
    rcases List.mem_cons.1 hk with rfl | hk
    · have hv2 : ∀ q ∈ k.prs, q.2.length ≤ 40 := fun q hq => hv (k.lab ++ q.1, q.2) (by rw [belows_cons]; exact List.mem_append.2 (.inl (mem_pre.2 ⟨q, hq, rfl⟩)))
      refine .mk (by omega) (fun v hval => ?_) (by have := h4.len; omega) (ih4 (by omega) fun q hq => hv2 q (mem_below.2 (.inr hq)))
      have := hv2 ([], v) (mem_below.2 (.inl ⟨rfl, hval⟩))
      simp only at this; omega
    · exact ih6 hN (fun q hq => hv q (by rw [belows_cons]; exact List.mem_append.2 (.inr hq))) k hk
theorem root_sml {N : Nat} {t : RT} (h : Kd N t.kids) (hN : N ≤ 40) (hl : t.lab.length ≤ 40) (hv : ∀ q ∈ t.prs, q.2.length ≤ 40) : Sml t := by
  refine .mk (by omega) (fun v hval => ?_) (by have := h.len; omega) (h.sml hN fun q hq => hv q (mem_below.2 (.inr hq)))
  have := hv ([], v) (mem_below.2 (.inl ⟨rfl, hval⟩))
  simp only at this; omega
end Go.QS
