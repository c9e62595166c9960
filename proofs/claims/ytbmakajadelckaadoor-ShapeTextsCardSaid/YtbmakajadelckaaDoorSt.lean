/- Stable sorting of pairs by their keys: plain laws. No program. -/
import Derived.Test.YtbmakajadelckaaDoorOrd
set_option linter.unusedVariables false
set_option linter.unusedSimpArgs false
namespace Go.QS

def le2 (p q : Pr) : Bool := decide (¬ q.1 < p.1)
/-- It rises (not strictly). -/
def Srt (l : List Pr) : Prop := l.Pairwise fun p q => ¬ q.1 < p.1
/-- Of each key the same pairs, in the same order. -/
def Stb (l l' : List Pr) : Prop := ∀ k, l.filter (fun p => p.1 == k) = l'.filter (fun p => p.1 == k)
def ssort (l : List Pr) : List Pr := l.mergeSort le2

theorem nlt_trans {a b c : List UInt8} (h : ¬ b < a) (k : ¬ c < b) : ¬ c < a := by
  intro hca
  rcases k_tri a b with h1 | h1 | h1
  · exact k (k_trans hca h1)
  · subst h1; exact k hca
  · exact h h1
theorem le2_trans (a b c : Pr) (h : le2 a b = true) (k : le2 b c = true) : le2 a c = true := by
  simp only [le2, decide_eq_true_eq] at *
  exact nlt_trans h k
theorem le2_total (a b : Pr) : (le2 a b || le2 b a) = true := by
  simp only [le2, Bool.or_eq_true, decide_eq_true_eq]
  rcases k_tri a.1 b.1 with h | h | h
  · exact .inl (k_asymm h)
  · rw [h]; exact .inl (k_irrefl _)
  · exact .inr (k_asymm h)

theorem Stb.refl (l : List Pr) : Stb l l := fun _ => rfl
theorem Stb.symm {l l' : List Pr} (h : Stb l l') : Stb l' l := fun k => (h k).symm
theorem Stb.trans {a b c : List Pr} (h : Stb a b) (k : Stb b c) : Stb a c := fun x => (h x).trans (k x)
theorem Stb.append {a b c d : List Pr} (h : Stb a b) (k : Stb c d) : Stb (a ++ c) (b ++ d) := fun x => by simp only [List.filter_append, h x, k x]
theorem Stb.mem {l l' : List Pr} (h : Stb l l') (p : Pr) : p ∈ l ↔ p ∈ l' := by
  have := h p.1
  constructor
  · intro hp
    have : p ∈ l'.filter (fun q => q.1 == p.1) := by rw [← this]; simp [hp]
    exact (List.mem_filter.1 this).1
  · intro hp
    have : p ∈ l.filter (fun q => q.1 == p.1) := by rw [this]; simp [hp]
    exact (List.mem_filter.1 this).1

theorem ssort_srt (l : List Pr) : Srt (ssort l) := by
  have := List.pairwise_mergeSort le2_trans le2_total l
  exact this.imp (by simp [le2])
theorem ssort_stb (l : List Pr) : Stb l (ssort l) := by
  intro k
  have hp := List.mergeSort_perm l le2
  have h1 : (l.filter (fun p => p.1 == k)).Pairwise (fun a b => le2 a b = true) := by
    refine List.Pairwise.imp_of_mem (R := fun _ _ => True) ?_ (by simp [List.pairwise_iff_getElem])
    intro a b ha hb _
    have e1 : a.1 = k := by simpa using (List.mem_filter.1 ha).2
    have e2 : b.1 = k := by simpa using (List.mem_filter.1 hb).2
    simp only [le2, decide_eq_true_eq, e1, e2]
    exact k_irrefl k
  have h2 := List.sublist_mergeSort le2_trans le2_total h1 List.filter_sublist
  have h3 : (l.filter (fun p => p.1 == k)).Sublist ((ssort l).filter (fun p => p.1 == k)) := by
    have := h2.filter (fun p => p.1 == k)
    simpa [List.filter_filter, ssort] using this
  exact h3.eq_of_length (hp.filter _).length_eq.symm
theorem ssort_length (l : List Pr) : (ssort l).length = l.length := List.length_mergeSort l

theorem srt_uniq : ∀ (l l' : List Pr), Srt l → Srt l' → Stb l l' → l = l'
  | [], [], _, _, _ => rfl
  | [], y :: t, _, _, h => absurd ((h.mem y).2 (by simp)) (by simp)
  | x :: t, [], _, _, h => absurd ((h.mem x).1 (by simp)) (by simp)
  | x :: s, y :: t, h1, h2, h => by
    have a1 := List.pairwise_cons.1 h1
    have a2 := List.pairwise_cons.1 h2
    have hx : ¬ x.1 < y.1 := by
      rcases List.mem_cons.1 ((h.mem x).1 (by simp)) with e | e
      · rw [e]; exact k_irrefl _
      · exact a2.1 _ e
    have hy : ¬ y.1 < x.1 := by
      rcases List.mem_cons.1 ((h.mem y).2 (by simp)) with e | e
      · rw [e]; exact k_irrefl _
      · exact a1.1 _ e
    have hk : x.1 = y.1 := by rcases k_tri x.1 y.1 with e | e | e <;> first | exact e | exact absurd e hx | exact absurd e hy
    have hf := h x.1
    have hxy : x = y := by
      simp only [List.filter_cons, beq_self_eq_true, if_true, hk] at hf
      exact (List.cons.inj hf).1
    subst hxy
    have : Stb s t := by
      intro k
      have := h k
      simp only [List.filter_cons] at this
      split at this
      · exact (List.cons.inj this).2
      · exact this
    rw [srt_uniq s t a1.2 a2.2 this]

theorem ssort_uniq {l l' : List Pr} (h : Srt l') (k : Stb l l') : l' = ssort l := srt_uniq _ _ h (ssort_srt l) (k.symm.trans (ssort_stb l))
theorem ssort_self {l : List Pr} (h : Srt l) : ssort l = l := (ssort_uniq h (Stb.refl l)).symm
theorem Srt.sub {l l' : List Pr} (h : Srt l) (k : l'.Sublist l) : Srt l' := List.Pairwise.sublist k h
theorem srt_append {a b : List Pr} : Srt (a ++ b) ↔ Srt a ∧ Srt b ∧ ∀ x ∈ a, ∀ y ∈ b, ¬ y.1 < x.1 := List.pairwise_append

/-- Blocks whose keys part may change places. -/
theorem stb_swap {a b : List Pr} (h : ∀ x ∈ a, ∀ y ∈ b, x.1 ≠ y.1) : Stb (a ++ b) (b ++ a) := by
  intro k
  simp only [List.filter_append]
  by_cases hk : ∃ x ∈ a, x.1 = k
  · obtain ⟨x, hx, rfl⟩ := hk
    have : b.filter (fun p => p.1 == x.1) = [] := by
      rw [List.filter_eq_nil_iff]
      intro y hy e
      exact h x hx y hy (by simpa using e : y.1 = x.1).symm
    simp [this]
  · have : a.filter (fun p => p.1 == k) = [] := by
      rw [List.filter_eq_nil_iff]
      intro y hy e
      exact hk ⟨y, hy, by simpa using e⟩
    simp [this]
theorem ins_done {T1 T2 : List Pr} {x : Pr} {A : List Pr} (hs : ssort A = T1 ++ T2) (h2 : ∀ y ∈ T2, x.1 < y.1) (h1 : ∀ y ∈ T1, ¬ x.1 < y.1) : T1 ++ x :: T2 = ssort (A ++ [x]) := by
  have hS := ssort_srt A
  rw [hs, srt_append] at hS
  refine ssort_uniq ?_ ?_
  · rw [srt_append]
    refine ⟨hS.1, List.pairwise_cons.2 ⟨fun y hy => k_asymm (h2 y hy), hS.2.1⟩, ?_⟩
    intro y hy z hz
    rcases List.mem_cons.1 hz with rfl | hz
    · exact h1 y hy
    · exact hS.2.2 y hy z hz
  · have e1 : Stb (A ++ [x]) (T1 ++ T2 ++ [x]) := by rw [← hs]; exact (ssort_stb A).append (Stb.refl _)
    refine e1.trans ?_
    rw [List.append_assoc]
    refine (Stb.refl T1).append ?_
    exact stb_swap (fun y hy z hz => by simp at hz; subst hz; exact (k_ne (h2 y hy)).symm)
/-- One pair goes into a sorted run behind it, ahead of the first that is not less. -/
theorem ssort_front {x : Pr} {B1 B2 : List Pr} (hB : Srt (B1 ++ B2)) (h1 : ∀ y ∈ B1, y.1 < x.1) (h2 : ∀ y ∈ B2, ¬ y.1 < x.1) : B1 ++ x :: B2 = ssort (x :: (B1 ++ B2)) := by
  have hS := srt_append.1 hB
  refine ssort_uniq ?_ ?_
  · rw [srt_append]
    refine ⟨hS.1, List.pairwise_cons.2 ⟨h2, hS.2.1⟩, ?_⟩
    intro y hy z hz
    rcases List.mem_cons.1 hz with rfl | hz
    · exact k_asymm (h1 y hy)
    · exact hS.2.2 y hy z hz
  · have e : Stb ([x] ++ B1 ++ B2) (B1 ++ [x] ++ B2) := (stb_swap fun a ha b hb => by simp at ha; subst ha; exact (k_ne (h1 b hb)).symm).append (Stb.refl _)
    simpa using e
/-- One pair goes into a sorted run ahead of it, behind the last that is not greater. -/
theorem ssort_back {y : Pr} {A1 A2 : List Pr} (hA : Srt (A1 ++ A2)) (h1 : ∀ u ∈ A1, ¬ y.1 < u.1) (h2 : ∀ u ∈ A2, y.1 < u.1) : A1 ++ y :: A2 = ssort (A1 ++ A2 ++ [y]) :=
  ins_done (A := A1 ++ A2) (ssort_self hA) h2 h1
theorem ssort_one (x : Pr) : ssort [x] = [x] := ssort_self (by simp [Srt])
theorem ssort_nil : ssort [] = [] := ssort_self (by simp [Srt])
theorem ssort_take_one (A : List Pr) : ssort (A.take 1) = A.take 1 := by
  cases A with
  | nil => exact ssort_nil
  | cons x A => exact ssort_one x
theorem Srt.get_le {l : List Pr} (h : Srt l) {i j : Nat} {p q : Pr} (hp : l[i]? = some p) (hq : l[j]? = some q) (hij : i ≤ j) : ¬ q.1 < p.1 := by
  rcases Nat.lt_or_eq_of_le hij with hlt | rfl
  · obtain ⟨h1, rfl⟩ := List.getElem?_eq_some_iff.1 hp
    obtain ⟨h2, rfl⟩ := List.getElem?_eq_some_iff.1 hq
    exact List.pairwise_iff_getElem.1 h i j h1 h2 hlt
  · rw [hp] at hq; cases hq; exact k_irrefl _
theorem Srt.below_lt {l : List Pr} (h : Srt l) {i j : Nat} {p q : Pr} {x : List UInt8} (hp : l[i]? = some p) (hq : l[j]? = some q) (hij : i ≤ j) (hx : q.1 < x) : p.1 < x := by
  rcases k_tri p.1 x with e | e | e
  · exact e
  · exact absurd (by rw [← e] at hx; exact hx) (h.get_le hp hq hij)
  · exact absurd (k_trans hx e) (h.get_le hp hq hij)
theorem Srt.above_nlt {l : List Pr} (h : Srt l) {i j : Nat} {p q : Pr} {x : List UInt8} (hp : l[i]? = some p) (hq : l[j]? = some q) (hij : i ≤ j) (hx : ¬ p.1 < x) : ¬ q.1 < x :=
  fun hq' => hx (h.below_lt hp hq hij hq')
theorem Srt.above_lt {l : List Pr} (h : Srt l) {i j : Nat} {p q : Pr} {x : List UInt8} (hp : l[i]? = some p) (hq : l[j]? = some q) (hij : i ≤ j) (hx : x < p.1) : x < q.1 := by
  rcases k_tri x q.1 with e | e | e
  · exact e
  · exact absurd (by rw [e] at hx; exact hx) (h.get_le hp hq hij)
  · exact absurd (k_trans e hx) (h.get_le hp hq hij)
theorem Srt.below_nlt {l : List Pr} (h : Srt l) {i j : Nat} {p q : Pr} {x : List UInt8} (hp : l[i]? = some p) (hq : l[j]? = some q) (hij : i ≤ j) (hx : ¬ x < q.1) : ¬ x < p.1 :=
  fun hp' => hx (h.above_lt hp hq hij hp')
theorem mem_take_get {α : Type} {l : List α} {t : Nat} {y : α} (h : y ∈ l.take t) : ∃ u, u < t ∧ l[u]? = some y := by
  obtain ⟨u, hu⟩ := List.mem_iff_getElem?.1 h
  have h1 : u < t := by have := (List.getElem?_eq_some_iff.1 hu).1; simp at this; omega
  exact ⟨u, h1, by rwa [List.getElem?_take_of_lt h1] at hu⟩
theorem mem_drop_get {α : Type} {l : List α} {t : Nat} {y : α} (h : y ∈ l.drop t) : ∃ u, t ≤ u ∧ l[u]? = some y := by
  obtain ⟨u, hu⟩ := List.mem_iff_getElem?.1 h
  rw [List.getElem?_drop] at hu
  exact ⟨_, by omega, hu⟩
theorem drop_cons {α : Type} {l : List α} {t : Nat} {v : α} (h : l[t]? = some v) : l.drop t = v :: l.drop (t + 1) := by rw [List.drop_eq_getElem?_toList_append, h]; rfl
/-- What symMerge rests on: halves that lie apart are sorted by themselves. -/
theorem ssort_halves {A1 A2 B1 B2 : List Pr} (hA : Srt (A1 ++ A2)) (hB : Srt (B1 ++ B2)) (h1 : ∀ x ∈ A1, ∀ y ∈ B2, ¬ y.1 < x.1) (h2 : ∀ x ∈ A2, ∀ y ∈ B1, y.1 < x.1) :
    ssort (A1 ++ B1) ++ ssort (A2 ++ B2) = ssort ((A1 ++ A2) ++ (B1 ++ B2)) := by
  have hA' := srt_append.1 hA
  have hB' := srt_append.1 hB
  refine ssort_uniq ?_ ?_
  · rw [srt_append]
    refine ⟨ssort_srt _, ssort_srt _, ?_⟩
    intro x hx y hy
    have hx' := ((ssort_stb (A1 ++ B1)).mem x).2 hx
    have hy' := ((ssort_stb (A2 ++ B2)).mem y).2 hy
    rcases List.mem_append.1 hx' with hx' | hx' <;> rcases List.mem_append.1 hy' with hy' | hy'
    · exact hA'.2.2 x hx' y hy'
    · exact h1 x hx' y hy'
    · exact k_asymm (h2 y hy' x hx')
    · exact hB'.2.2 x hx' y hy'
  · have e : Stb (A1 ++ (A2 ++ B1) ++ B2) (A1 ++ (B1 ++ A2) ++ B2) :=
      ((Stb.refl A1).append (stb_swap fun x hx y hy => (k_ne (h2 x hx y hy)).symm)).append (Stb.refl B2)
    have e2 : Stb ((A1 ++ B1) ++ (A2 ++ B2)) (ssort (A1 ++ B1) ++ ssort (A2 ++ B2)) := (ssort_stb _).append (ssort_stb _)
    refine Stb.trans ?_ e2
    simpa using e
theorem Srt.app_nil_left {A B : List Pr} (hA : Srt A) (hB : Srt B) (h : A = [] ∨ B = []) : ssort (A ++ B) = A ++ B := by
  rcases h with rfl | rfl
  · exact ssort_self (by simpa using hB)
  · exact ssort_self (by simpa using hA)
end Go.QS
