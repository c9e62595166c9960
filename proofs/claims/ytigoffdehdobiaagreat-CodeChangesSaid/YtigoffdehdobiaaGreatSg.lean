/- What is still to come of a cursor's stack: plain. -/
import Derived.Test.YtigoffdehdobiaaGreatSf
set_option linter.unusedVariables false
set_option linter.unusedSimpArgs false
namespace Go.Proofs.YtigoffdehdobiaaGreat
open Go.RowKit Go.QS
set_option linter.unusedVariables false

def comW (s : Sp) (back : Bool) (e : Wn) : List Pr :=
  if e.2.2 then (pre (e.2.1 ++ e.1.lab) (ownP e.1.val)).filter fun p => s.has p.1
  else if back then ((pre (e.2.1 ++ e.1.lab) e.1.prs).filter fun p => s.has p.1).reverse
  else (pre (e.2.1 ++ e.1.lab) e.1.prs).filter fun p => s.has p.1
/-- The pairs to come: the top of the stack first. -/
def com (s : Sp) (back : Bool) (r : List Wn) : List Pr := r.flatMap (comW s back)
theorem com_cons (s : Sp) (back : Bool) (e : Wn) (r : List Wn) : com s back (e :: r) = comW s back e ++ com s back r := by simp [com]
theorem com_append (s : Sp) (back : Bool) (a b : List Wn) : com s back (a ++ b) = com s back a ++ com s back b := by simp [com]
theorem com_nil (s : Sp) (back : Bool) : com s back [] = [] := rfl

theorem app_ge {key t x : List UInt8} (h : ¬ key < t) : ¬ key ++ x < t := by
  intro h2
  apply h
  rcases k_tri key t with h3 | h3 | h3
  · exact h3
  · subst h3
    exfalso
    have : key ++ x < key ++ [] := by simpa using h2
    rw [app_lt] at this
    exact List.not_lt_nil _ this
  · exfalso
    rcases (List.eq_nil_or_concat x) with rfl | _
    · rw [List.append_nil] at h2; exact h h2
    · have hk : key < key ++ x := by
        have : key ++ [] < key ++ x := by
          rw [app_lt]
          rcases x with _ | ⟨a, l⟩
          · rename_i hx; obtain ⟨_, _, hx⟩ := hx; simp at hx
          · exact List.nil_lt_cons _ _
        simpa using this
      exact k_irrefl _ (k_trans (k_trans h3 hk) h2)

theorem app_lt_of : ∀ {key f : List UInt8} (x : List UInt8), key < f → begins f key = false → key ++ x < f
  | [], f, x, _, hb => by simp [begins] at hb
  | a :: k, [], x, h, _ => absurd h (List.not_lt_nil _)
  | a :: k, b :: f, x, h, hb => by
    rw [List.cons_append, List.cons_lt_cons_iff]
    rw [List.cons_lt_cons_iff] at h
    rcases h with h | ⟨rfl, h⟩
    · exact .inl h
    · refine .inr ⟨rfl, app_lt_of x h ?_⟩
      simpa [begins] using hb

theorem past_no {s : Sp} {key : List UInt8} (h : s.past key = true) (x : List UInt8) : s.has (key ++ x) = false := by
  unfold Sp.past at h
  unfold Sp.has
  rw [Bool.or_eq_true, Bool.and_eq_true, Bool.and_eq_true] at h
  rcases h with ⟨h1, h2⟩ | ⟨h1, h2⟩
  · have h3 : ¬ key < s.t := by simpa using h2
    have h4 := app_ge (x := x) h3
    have h5 : s.o = false := by simpa using h1
    simp [h4, h5]
  · have h3 : key < s.f := by simpa using h1
    have h4 := app_lt_of x h3 (by simpa using h2)
    simp [h4]

theorem pre_belows (key : List UInt8) (ks : List RT) : pre key (belows ks) = ks.flatMap fun k => pre (key ++ k.lab) k.prs := by
  induction ks with
  | nil => rfl
  | cons k ks ih => rw [belows_cons, List.flatMap_cons, ← ih]; simp [pre]
theorem pre_app (key : List UInt8) (a b : List Pr) : pre key (a ++ b) = pre key a ++ pre key b := by simp [pre]

theorem com_pushed (s : Sp) (back : Bool) (t : RT) (ah : List UInt8) : com s back (pushed s back (t, ah, false)).reverse = comW s back (t, ah, false) := by
  unfold pushed
  cases hp : s.past (ah ++ t.lab) with
  | true =>
    rw [if_pos (by rfl)]
    have hz : (pre (ah ++ t.lab) t.prs).filter (fun p => s.has p.1) = [] := by
      rw [List.filter_eq_nil_iff]
      intro q hq
      obtain ⟨p, _, rfl⟩ := mem_pre.1 hq
      simp only [past_no hp]; simp
    simp [com, comW, hz]
  | false =>
    rw [if_neg (by simp)]
    have hk : ∀ ks : List RT, com s false (ks.map fun k => (k, ah ++ t.lab, false)) = (pre (ah ++ t.lab) (belows ks)).filter fun p => s.has p.1 := by
      intro ks
      rw [pre_belows]
      induction ks with
      | nil => rfl
      | cons k ks ih =>
        rw [List.map_cons, com_cons, ih, List.flatMap_cons, List.filter_append]
        simp [comW]
    have hk2 : ∀ ks : List RT, com s true (ks.map fun k => (k, ah ++ t.lab, false)).reverse = ((pre (ah ++ t.lab) (belows ks)).filter fun p => s.has p.1).reverse := by
      intro ks
      rw [pre_belows]
      induction ks with
      | nil => rfl
      | cons k ks ih =>
        rw [List.map_cons, List.reverse_cons, com_append, ih, List.flatMap_cons, List.filter_append, List.reverse_append, com_cons, com_nil, List.append_nil]
        simp [comW]
    cases back with
    | false =>
      rw [if_neg (by simp), List.reverse_reverse, com_cons, hk]
      simp only [comW]
      rw [below_eq t, pre_app, List.filter_append]
      simp
    | true =>
      rw [if_pos rfl, List.reverse_cons, com_append, hk2, com_cons, com_nil, List.append_nil]
      simp only [comW]
      rw [below_eq t, pre_app, List.filter_append, List.reverse_append]
      simp only [if_true, Bool.false_eq_true, if_false]
      congr 1
      cases t.val with
      | none => rfl
      | some v => simp only [ownP, pre, List.map_cons, List.map_nil]; rw [List.filter_cons]; split <;> simp

/-! ### Its weight -/
mutual
def cnt : RT → Nat
  | .node _ _ kids => 1 + cnts kids
def cnts : List RT → Nat
  | [] => 0
  | t :: r => cnt t + cnts r
end
theorem cnt_eq (t : RT) : cnt t = 1 + cnts t.kids := by cases t; rfl
theorem cnts_cons (t : RT) (r : List RT) : cnts (t :: r) = cnt t + cnts r := rfl
def wtW (e : Wn) : Nat := if e.2.2 then 1 else 2 * cnt e.1
def wt (r : List Wn) : Nat := (r.map wtW).sum
theorem wt_cons (e : Wn) (r : List Wn) : wt (e :: r) = wtW e + wt r := by simp [wt]
theorem wt_append (a b : List Wn) : wt (a ++ b) = wt a + wt b := by simp [wt]
theorem wt_reverse (a : List Wn) : wt a.reverse = wt a := by
  induction a with
  | nil => rfl
  | cons x a ih => rw [List.reverse_cons, wt_append, ih, wt_cons, wt_cons]; simp [wt]; omega
theorem wt_len (r : List Wn) : r.length ≤ wt r := by
  induction r with
  | nil => simp [wt]
  | cons e r ih =>
    rw [wt_cons, List.length_cons]
    have : 1 ≤ wtW e := by
      unfold wtW
      split
      · exact Nat.le_refl _
      · rw [cnt_eq]; omega
    omega
theorem wt_kids (key : List UInt8) (ks : List RT) : wt (ks.map fun k => (k, key, false)) = 2 * cnts ks := by
  induction ks with
  | nil => rfl
  | cons k ks ih => rw [List.map_cons, wt_cons, ih, cnts_cons]; simp [wtW]; omega
theorem wt_pushed (s : Sp) (back : Bool) (t : RT) (ah : List UInt8) : wt (pushed s back (t, ah, false)).reverse + 1 ≤ wtW (t, ah, false) := by
  rw [wt_reverse]
  have h2 : wtW (t, ah, false) = 2 + 2 * cnts t.kids := by simp only [wtW, Bool.false_eq_true, if_false]; rw [cnt_eq]; omega
  rw [h2]
  unfold pushed
  split
  · simp [wt]; omega
  · split
    · rw [wt_cons, wt_kids]; simp [wtW]; omega
    · rw [wt_reverse, wt_cons, wt_kids]; simp [wtW]; omega

/-! ### Its works are as they must be -/
def GoodW (e : Wn) : Prop := e.2.1.length + e.1.lab.length ≤ 40 ∧ Kd (40 - (e.2.1.length + e.1.lab.length)) e.1.kids
def Good (r : List Wn) : Prop := ∀ e ∈ r, GoodW e
theorem good_pushed {s : Sp} {back : Bool} {t : RT} {ah : List UInt8} (h : GoodW (t, ah, false)) : Good (pushed s back (t, ah, false)).reverse := by
  intro e he
  rw [List.mem_reverse] at he
  have : e ∈ ((t, ah, true) : Wn) :: t.kids.map (fun k => (k, ah ++ t.lab, false)) := by
    unfold pushed at he
    split at he
    · cases he
    · split at he
      · exact he
      · exact List.mem_reverse.1 he
  rcases List.mem_cons.1 this with rfl | h2
  · exact h
  · obtain ⟨k, hk, rfl⟩ := List.mem_map.1 h2
    obtain ⟨h3, h4⟩ := h
    have hb := h4.br hk
    simp only at h3 hb
    refine ⟨?_, ?_⟩
    · simp only [List.length_append]; have := hb.2.1; omega
    · have h5 := hb.2.2.2
      simp only [List.length_append]
      rwa [show 40 - (ah.length + t.lab.length + k.lab.length) = 40 - (ah.length + t.lab.length) - k.lab.length by omega]
end Go.Proofs.YtigoffdehdobiaaGreat
