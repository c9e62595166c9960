/- Plain laws: the pairs of a tree rise; put in a tree is put in its list. No program. -/
import Derived.Test.YtbmakajadelckaaDoorRm
set_option linter.unusedVariables false
set_option linter.unusedSimpArgs false
namespace Go.QS

theorem app_lt (l : List UInt8) (a b : List UInt8) : l ++ a < l ++ b ↔ a < b := by
  induction l with
  | nil => rfl
  | cons x l ih => rw [List.cons_append, List.cons_append, List.cons_lt_cons_iff, ih]; simp
theorem rise_pre {l : List UInt8} {x : List Pr} (h : Rise x) : Rise (pre l x) := by
  unfold Rise pre at *
  rw [List.pairwise_map]
  exact h.imp fun h => (app_lt l _ _).2 h
theorem rise_append {a b : List Pr} (ha : Rise a) (hb : Rise b) (h : ∀ p ∈ a, ∀ q ∈ b, p.1 < q.1) : Rise (a ++ b) := by
  unfold Rise at *
  exact List.pairwise_append.2 ⟨ha, hb, h⟩
theorem nil_lt {a : List UInt8} (h : a ≠ []) : [] < a := by
  obtain ⟨x, l, rfl⟩ := List.exists_cons_of_ne_nil h
  exact List.nil_lt_cons _ _
theorem head_lt {x y : UInt8} {a b : List UInt8} (h : x.toNat < y.toNat) : x :: a < y :: b := by
  rw [List.cons_lt_cons_iff]
  exact .inl (UInt8.lt_iff_toNat_lt.2 h)

theorem prs_rise_of {N : Nat} {t : RT} (hk : Kd N t.kids) (h : Rise (belows t.kids)) : Rise t.prs := by
  rw [below_eq]
  refine rise_append ?_ h ?_
  · cases t.val <;> simp [ownP, Rise]
  · intro p hp q hq
    rw [(mem_ownP.1 hp).1]
    exact nil_lt (hk.key_ne hq)

theorem Kd.rise {N : Nat} {ks : List RT} (h : Kd N ks) : Rise (belows ks) := by
  induction h with
  | nil N => exact rise_nil
  | @cons N t r h1 h2 h3 h4 h5 h6 ih4 ih6 =>
    rw [belows_cons]
    refine rise_append (rise_pre (prs_rise_of h4 ih4)) ih6 ?_
    intro p hp q hq
    obtain ⟨c, l, e, hc⟩ := pre_head h1 hp
    obtain ⟨k, hk, hq⟩ := mem_belows.1 hq
    obtain ⟨d, m, e', hd⟩ := pre_head (h6.ne k hk) hq
    rw [e, e']
    exact head_lt (by rw [hc, hd]; exact h5 k hk)

theorem Kd.prs_rise {N : Nat} {t : RT} (h : Kd N t.kids) : Rise t.prs := prs_rise_of h h.rise

theorem tput_prs {n N : Nat} {t : RT} {key v : List UInt8} (hn : key.length ≤ n) (hk : Kd N t.kids) (hkl : key.length ≤ N) : (tput n t key v).1.prs = rput t.prs (key, v) := by
  have h := tput_ok n N t key v hn hk hkl
  refine rise_ext _ _ h.kd.prs_rise (rput_rise hk.prs_rise _) fun p => ?_
  rw [h.mem, mem_rput]
theorem tput_add {n N : Nat} {t : RT} {key v : List UInt8} (hn : key.length ≤ n) (hk : Kd N t.kids) (hkl : key.length ≤ N) : (tput n t key v).2.1 = !hasK t.prs key := by
  have h := tput_ok n N t key v hn hk hkl
  rw [Bool.eq_iff_iff, h.add]
  simp only [Bool.not_eq_true', Bool.eq_false_iff]
  rw [Ne, hasK_iff]
  constructor
  · rintro h ⟨q, hq, e⟩
    exact h q.2 (by rw [← e]; exact hq)
  · intro h u hu
    exact h ⟨_, hu, rfl⟩

/-- A tree of pairs, one by one. -/
def treeOf (l : List Pr) : RT := l.foldl (fun t p => (tput p.1.length t p.1 p.2).1) (RT.node [] none [])
/-- A pair that isn't too long. -/
def cutP (p : Pr) : Pr := (p.1.take 40, p.2.take 40)
theorem treeOf_snoc (l : List Pr) (p : Pr) : treeOf (l ++ [p]) = (tput p.1.length (treeOf l) p.1 p.2).1 := by simp [treeOf]
theorem treeOf_ok (l : List Pr) (h : ∀ p ∈ l, p.1.length ≤ 40) : (treeOf l).lab = [] ∧ Kd 40 (treeOf l).kids ∧ (treeOf l).prs = rsort l := by
  induction l using snoc_ind with
  | h0 => exact ⟨rfl, .nil _, rfl⟩
  | h1 l p ih =>
    obtain ⟨h1, h2, h3⟩ := ih fun q hq => h q (by simp [hq])
    have hp := h p (by simp)
    have ok := tput_ok p.1.length 40 (treeOf l) p.1 p.2 (Nat.le_refl _) h2 hp
    rw [treeOf_snoc, rsort_snoc]
    refine ⟨ok.lab.trans h1, ok.kd, ?_⟩
    rw [tput_prs (Nat.le_refl _) h2 hp, h3]
end Go.QS
