/- Texts joined. -/
import Derived.Test.YtigoffdehdobiaaGreatRm
import Derived.Test.YtigoffdehdobiaaGreatM10
import Derived.Test.YtigoffdehdobiaaGreatLs
import Derived.Laws.Rows
set_option linter.unusedVariables false
set_option linter.unusedSimpArgs false
/- Plain laws: the pairs of a tree rise; put in a tree is put in its list. No program. -/
namespace Go.QS

theorem app_lt (l : List UInt8) (a b : List UInt8) : l ++ a < l ++ b ↔ a < b := by
  induction l with
  | nil => rfl
  | cons x l ih => rw [List.cons_append, List.cons_append, List.cons_lt_cons_iff, ih]; simp
theorem rise_pre {l : List UInt8} {x : List Pr} (h : Rise x) : Rise (pre l x) := by
  unfold Rise pre at *
  rw [List.pairwise_map]
  exact h.imp fun h => (app_lt l _ _).2 h
theorem rise_append {a b : List Pr} (ha : Rise a) (hb : Rise b) (h : ∀ p ∈ a, ∀ q ∈ b, p.1 < q.1) : Rise (a ++ b) := by
  unfold Rise at *
  exact List.pairwise_append.2 ⟨ha, hb, h⟩
theorem nil_lt {a : List UInt8} (h : a ≠ []) : [] < a := by
  obtain ⟨x, l, rfl⟩ := List.exists_cons_of_ne_nil h
  exact List.nil_lt_cons _ _
theorem head_lt {x y : UInt8} {a b : List UInt8} (h : x.toNat < y.toNat) : x :: a < y :: b := by
  rw [List.cons_lt_cons_iff]
  exact .inl (UInt8.lt_iff_toNat_lt.2 h)

theorem prs_rise_of {N : Nat} {t : RT} (hk : Kd N t.kids) (h : Rise (belows t.kids)) : Rise t.prs := by
  rw [below_eq]
  refine rise_append ?_ h ?_
  · cases t.val <;> simp [ownP, Rise]
  · intro p hp q hq
    rw [(mem_ownP.1 hp).1]
    exact nil_lt (hk.key_ne hq)

theorem Kd.rise {N : Nat} {ks : List RT} (h : Kd N ks) : Rise (belows ks) := by
  induction h with
  | nil N => exact rise_nil
  | @cons N t r h1 h2 h3 h4 h5 h6 ih4 ih6 =>
    rw [belows_cons]
    refine rise_append (rise_pre (prs_rise_of h4 ih4)) ih6 ?_
    intro p hp q hq
    obtain ⟨c, l, e, hc⟩ := pre_head h1 hp
    obtain ⟨k, hk, hq⟩ := mem_belows.1 hq
    obtain ⟨d, m, e', hd⟩ := pre_head (h6.ne k hk) hq
    rw [e, e']
    exact head_lt (by rw [hc, hd]; exact h5 k hk)

theorem Kd.prs_rise {N : Nat} {t : RT} (h : Kd N t.kids) : Rise t.prs := prs_rise_of h h.rise

theorem tput_prs {n N : Nat} {t : RT} {key v : List UInt8} (hn : key.length ≤ n) (hk : Kd N t.kids) (hkl : key.length ≤ N) : (tput n t key v).1.prs = rput t.prs (key, v) := by
  have h := tput_ok n N t key v hn hk hkl
  refine rise_ext _ _ h.kd.prs_rise (rput_rise hk.prs_rise _) fun p => ?_
  rw [h.mem, mem_rput]
theorem tput_add {n N : Nat} {t : RT} {key v : List UInt8} (hn : key.length ≤ n) (hk : Kd N t.kids) (hkl : key.length ≤ N) : (tput n t key v).2.1 = !hasK t.prs key := by
  have h := tput_ok n N t key v hn hk hkl
  rw [Bool.eq_iff_iff, h.add]
  simp only [Bool.not_eq_true', Bool.eq_false_iff]
  rw [Ne, hasK_iff]
  constructor
  · rintro h ⟨q, hq, e⟩
    exact h q.2 (by rw [← e]; exact hq)
  · intro h u hu
    exact h ⟨_, hu, rfl⟩

/-- A tree of pairs, one by one. -/
def treeOf (l : List Pr) : RT := l.foldl (fun t p => (tput p.1.length t p.1 p.2).1) (RT.node [] none [])
/-- A pair that isn't too long. -/
def cutP (p : Pr) : Pr := (p.1.take 40, p.2.take 40)
theorem treeOf_snoc (l : List Pr) (p : Pr) : treeOf (l ++ [p]) = (tput p.1.length (treeOf l) p.1 p.2).1 := by simp [treeOf]
theorem treeOf_ok (l : List Pr) (h : ∀ p ∈ l, p.1.length ≤ 40) : (treeOf l).lab = [] ∧ Kd 40 (treeOf l).kids ∧ (treeOf l).prs = rsort l := by
  induction l using snoc_ind with
  | h0 => exact ⟨rfl, .nil _, rfl⟩
  | h1 l p ih =>
    obtain ⟨h1, h2, h3⟩ := ih fun q hq => h q (by simp [hq])
    have hp := h p (by simp)
    have ok := tput_ok p.1.length 40 (treeOf l) p.1 p.2 (Nat.le_refl _) h2 hp
    rw [treeOf_snoc, rsort_snoc]
    refine ⟨ok.lab.trans h1, ok.kd, ?_⟩
    rw [tput_prs (Nat.le_refl _) h2 hp, h3]
end Go.QS
/- Contracts of the span laws' own small functions: few, tree. -/
namespace Go.Proofs.YtigoffdehdobiaaGreat
open Go.RowKit Go.QS
set_option linter.unusedVariables false

theorem box_cells {w : World} {g : Nat} {a b : Value} {t : TypeId} {f : Nat × Nat} (h : w.heap[g]? = some (.cells #[a, b] t f)) : w.cell? ⟨g, 0, none⟩ = some a ∧ w.cell? ⟨g, 1, none⟩ = some b := by
  simp [World.cell?, h]
theorem box_free {w : World} {g : Nat} {cs : Array Value} {t : TypeId} (h : w.heap[g]? = some (.cells cs t (0, 0))) (j : Nat) : w.frozen? ⟨g, j, none⟩ = false := by
  simp [World.frozen?, h]
theorem box_ext {w w' : World} {g : Nat} {o : Obj} (h : w.heap[g]? = some o) (f : Ext w w') : w'.heap[g]? = some o := (f.block g (heap_lt h)).trans h

def cutL (l : List Pr) (i : Nat) : List Pr := ((l.take 40).take i).map cutP
theorem cutL_snoc {l : List Pr} {i : Nat} {p : Pr} (h : l[i]? = some p) (hi : i < 40) : cutL l (i + 1) = cutL l i ++ [cutP p] := by
  have : (l.take 40)[i]? = some p := by rw [List.getElem?_take_of_lt hi]; exact h
  rw [cutL, take_snoc this, List.map_append]; rfl
theorem cutL_past {l : List Pr} {i : Nat} (hi : 40 ≤ i) : cutL l i = cutL l 40 := by
  unfold cutL
  rw [List.take_take, List.take_take, Nat.min_eq_right hi, Nat.min_self]
theorem cutL_all {l : List Pr} {i : Nat} (hi : l.length ≤ i) : cutL l i = (l.take 40).map cutP := by
  unfold cutL
  rw [List.take_of_length_le (by rw [List.length_take]; omega)]
theorem cutL_len (l : List Pr) (i : Nat) : (cutL l i).length ≤ 40 := by
  unfold cutL
  simp only [List.length_map, List.length_take]
  omega
theorem cutL_keys (l : List Pr) (i : Nat) : ∀ p ∈ cutL l i, p.1.length ≤ 40 := by
  intro p hp
  obtain ⟨q, _, rfl⟩ := List.mem_map.1 hp
  simp [cutP]; omega

end Go.Proofs.YtigoffdehdobiaaGreat
/- Contracts of spans: Has, past, All. -/
namespace Go.Proofs.YtigoffdehdobiaaGreat
open Go.RowKit Go.QS
set_option linter.unusedVariables false

/-- A span. -/
structure Sp where
  f : List UInt8
  t : List UInt8
  o : Bool
abbrev Sp.v (s : Sp) : Value := .agg #[str s.f, str s.t, .bool s.o]
def Sp.has (s : Sp) (k : List UInt8) : Bool := !decide (k < s.f) && (s.o || decide (k < s.t))
def Sp.past (s : Sp) (k : List UInt8) : Bool := (!s.o && !decide (k < s.t)) || (decide (k < s.f) && !begins s.f k)

set_option maxRecDepth 100000 in
theorem shas_c (w : World) (s : Sp) (k : List UInt8) :
    Calls Tryz.prog 153 #[s.v, str k] w fun e w' => e = .returned (.bool (s.has k)) ∧ Ext w w' := by
  obtain ⟨f, t, o⟩ := s
  unfold Sp.has
  by_cases h1 : k < f
  · have d1 : Op.bytesLess k f = true := by rw [bless]; simp [h1]
    have h2 : True := trivial
    cases o <;>
    · go_enter Tryz.func153, Tryz.ntmps153
      repeat' (first | go_skip | go_guarded | go_step)
      go_ret
      refine ⟨?_, (Ext.refl w).alloc (Nat.le_refl _) _⟩
      simp [h1]
  · have d1 : Op.bytesLess k f = false := by rw [bless]; simp [h1]
    by_cases h2 : k < t
    · have d2 : Op.bytesLess k t = true := by rw [bless]; simp [h2]
      cases o <;>
      · go_enter Tryz.func153, Tryz.ntmps153
        repeat' (first | go_skip | go_guarded | go_step)
        go_ret
        refine ⟨?_, (Ext.refl w).alloc (Nat.le_refl _) _⟩
        simp [h1, h2]
    · have d2 : Op.bytesLess k t = false := by rw [bless]; simp [h2]
      cases o <;>
      · go_enter Tryz.func153, Tryz.ntmps153
        repeat' (first | go_skip | go_guarded | go_step)
        go_ret
        refine ⟨?_, (Ext.refl w).alloc (Nat.le_refl _) _⟩
        simp [h1, h2]

set_option maxRecDepth 100000 in
theorem spast_c (w : World) (s : Sp) (k : List UInt8) (hf : s.f.length ≤ 9223372036854775807) (hk : k.length ≤ 9223372036854775807) :
    Calls Tryz.prog 159 #[s.v, str k] w fun e w' => e = .returned (.bool (s.past k)) ∧ Ext w w' := by
  obtain ⟨f, t, o⟩ := s
  unfold Sp.past
  have HB := Lib.hid (fun W => begins_c W f k hf hk)
  clear hf hk
  by_cases h2 : k < t
  · have d2 : Op.bytesLess k t = true := by rw [bless]; simp [h2]
    by_cases h1 : k < f
    · have d1 : Op.bytesLess k f = true := by rw [bless]; simp [h1]
      cases hb : begins f k <;> cases o <;> rw [hb] at HB <;>
      · go_enter Tryz.func159, Tryz.ntmps159
        repeat' (first | (go_at_call 164; refine (HB.out _).mono ?_; rintro e w1 ⟨rfl, rfl⟩; go_simp) | go_skip | go_guarded | go_step)
        go_ret
        refine ⟨?_, (Ext.refl w).alloc (Nat.le_refl _) _⟩
        simp [h1, h2]
    · have d1 : Op.bytesLess k f = false := by rw [bless]; simp [h1]
      cases o <;>
      · go_enter Tryz.func159, Tryz.ntmps159
        repeat' (first | go_skip | go_guarded | go_step)
        go_ret
        refine ⟨?_, (Ext.refl w).alloc (Nat.le_refl _) _⟩
        simp [h1, h2]
  · have d2 : Op.bytesLess k t = false := by rw [bless]; simp [h2]
    cases o with
    | false =>
      go_enter Tryz.func159, Tryz.ntmps159
      repeat' (first | go_skip | go_guarded | go_step)
      go_ret
      refine ⟨?_, (Ext.refl w).alloc (Nat.le_refl _) _⟩
      simp [h2]
    | true =>
      by_cases h1 : k < f
      · have d1 : Op.bytesLess k f = true := by rw [bless]; simp [h1]
        cases hb : begins f k <;> rw [hb] at HB <;>
        · go_enter Tryz.func159, Tryz.ntmps159
          repeat' (first | (go_at_call 164; refine (HB.out _).mono ?_; rintro e w1 ⟨rfl, rfl⟩; go_simp) | go_skip | go_guarded | go_step)
          go_ret
          refine ⟨?_, (Ext.refl w).alloc (Nat.le_refl _) _⟩
          simp [h1, h2]
      · have d1 : Op.bytesLess k f = false := by rw [bless]; simp [h1]
        go_enter Tryz.func159, Tryz.ntmps159
        repeat' (first | go_skip | go_guarded | go_step)
        go_ret
        refine ⟨?_, (Ext.refl w).alloc (Nat.le_refl _) _⟩
        simp [h1, h2]
end Go.Proofs.YtigoffdehdobiaaGreat
