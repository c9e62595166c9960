/- Any trees, not too great: how long they are; which are as they must be. No program. -/
import Derived.Test.YtmpeniboccahdaaMc
namespace Go.QS

/-! ### Keys of up to 1000 bytes -/
theorem shps_lenW {N : Nat} {ks : List RT} (h : Kd N ks) (hN : N ≤ 1000) (hv : ∀ q ∈ belows ks, q.2.length ≤ 40) : (shps ks).length + 1047 * ks.length ≤ 2094 * (belows ks).length := by
  induction h with
  | nil N => simp [shps_nil, belows_nil]
  | @cons N t r h1 h2 h3 h4 h5 h6 ih4 ih6 =>
    have hv1 : ∀ q ∈ belows r, q.2.length ≤ 40 := fun q hq => hv q (by rw [belows_cons]; exact List.mem_append.2 (.inr hq))
    have hv2 : ∀ q ∈ t.prs, q.2.length ≤ 40 := fun q hq => hv (t.lab ++ q.1, q.2) (by rw [belows_cons]; exact List.mem_append.2 (.inl (mem_pre.2 ⟨q, hq, rfl⟩)))
    have i6 := ih6 hN hv1
    have i4 := ih4 (by omega) (fun q hq => hv2 q (mem_below.2 (.inr hq)))
    rw [shps_cons, shp_eq, belows_cons, List.length_append, List.length_append, List.length_append, headB_len, List.length_cons]
    have hp : (pre t.lab t.prs).length = (ownP t.val).length + (belows t.kids).length := by rw [below_eq]; simp [pre]
    rw [hp]
    cases hval : t.val with
    | none =>
      rw [hval] at h3
      have h3 : 2 ≤ t.kids.length := by simpa using h3
      simp only [ownP, List.length_nil, vlen]
      omega
    | some v =>
      have := hv2 ([], v) (mem_below.2 (.inl ⟨rfl, hval⟩))
      simp only [ownP, List.length_cons, List.length_nil, vlen]
      simp only at this
      omega
theorem shp_lenW {N : Nat} {t : RT} (h : Kd N t.kids) (hN : N ≤ 1000) (hl : t.lab.length ≤ 40) (hv : ∀ q ∈ t.prs, q.2.length ≤ 40) : t.shp.length ≤ 1047 + 2094 * t.prs.length := by
  have := shps_lenW h hN (fun q hq => hv q (mem_below.2 (.inr hq)))
  rw [shp_eq, List.length_append, headB_len, below_eq t, List.length_append]
  cases hval : t.val with
  | none => simp only [ownP, List.length_nil, vlen]; omega
  | some v =>
    have := hv ([], v) (mem_below.2 (.inl ⟨rfl, hval⟩))
    simp only [ownP, List.length_cons, List.length_nil, vlen]
    simp only at this
    omega
theorem Kd.smlW {N : Nat} {ks : List RT} (h : Kd N ks) (hN : N ≤ 1000) (hv : ∀ q ∈ belows ks, q.2.length ≤ 40) : ∀ k ∈ ks, Sml k := by
  induction h with
  | nil N => intro k hk; cases hk
  | @cons N t r h1 h2 h3 h4 h5 h6 ih4 ih6 =>
    intro k hk
    rcases List.mem_cons.1 hk with rfl | hk
    · have hv2 : ∀ q ∈ k.prs, q.2.length ≤ 40 := fun q hq => hv (k.lab ++ q.1, q.2) (by rw [belows_cons]; exact List.mem_append.2 (.inl (mem_pre.2 ⟨q, hq, rfl⟩)))
      refine .mk (by omega) (fun v hval => ?_) (by have := h4.len; omega) (ih4 (by omega) fun q hq => hv2 q (mem_below.2 (.inr hq)))
      have := hv2 ([], v) (mem_below.2 (.inl ⟨rfl, hval⟩))
      simp only at this; omega
    · exact ih6 hN (fun q hq => hv q (by rw [belows_cons]; exact List.mem_append.2 (.inr hq))) k hk
theorem root_smlW {N : Nat} {t : RT} (h : Kd N t.kids) (hN : N ≤ 1000) (hl : t.lab.length ≤ 40) (hv : ∀ q ∈ t.prs, q.2.length ≤ 40) : Sml t := by
  refine .mk (by omega) (fun v hval => ?_) (by have := h.len; omega) (h.smlW hN fun q hq => hv q (mem_below.2 (.inr hq)))
  have := hv ([], v) (mem_below.2 (.inl ⟨rfl, hval⟩))
  simp only at this; omega

/-! ### Any tree -/
mutual
/-- How many nodes. -/
def RT.cnt : RT → Nat
  | .node _ _ ks => 1 + cnts ks
def cnts : List RT → Nat
  | [] => 0
  | t :: r => t.cnt + cnts r
end
theorem cnt_eq (t : RT) : t.cnt = 1 + cnts t.kids := by cases t; rfl
theorem cnts_nil : cnts [] = 0 := rfl
theorem cnts_cons (t : RT) (r : List RT) : cnts (t :: r) = t.cnt + cnts r := rfl
theorem cnts_append (a b : List RT) : cnts (a ++ b) = cnts a + cnts b := by
  induction a with
  | nil => simp [cnts_nil]
  | cons t r ih => rw [List.cons_append, cnts_cons, cnts_cons, ih]; omega
theorem cnts_mem {k : RT} : ∀ {ks : List RT}, k ∈ ks → k.cnt ≤ cnts ks
  | t :: r, h => by
    rw [cnts_cons]
    rcases List.mem_cons.1 h with rfl | h
    · omega
    · have := cnts_mem h; omega
theorem cnts_len : ∀ (ks : List RT), ks.length ≤ cnts ks
  | [] => Nat.le_refl _
  | t :: r => by rw [cnts_cons, List.length_cons, cnt_eq]; have := cnts_len r; omega
theorem cnts_cut (ks : List RT) (k : Nat) : cnts (ks.take k) + cnts (ks.drop k) = cnts ks := by rw [← cnts_append, List.take_append_drop]

/-- Texts of at most 40 bytes. -/
inductive Gd : RT → Prop
  | mk {t : RT} (h1 : t.lab.length ≤ 40) (h2 : ∀ v, t.val = some v → v.length ≤ 40) (h3 : ∀ k ∈ t.kids, Gd k) : Gd t
theorem Gd.open {t : RT} (h : Gd t) : t.lab.length ≤ 40 ∧ (∀ v, t.val = some v → v.length ≤ 40) ∧ ∀ k ∈ t.kids, Gd k := by
  cases h with
  | mk h1 h2 h3 => exact ⟨h1, h2, h3⟩
theorem Gd.sml {t : RT} (h : Gd t) : t.cnt ≤ 60000 → Sml t := by
  induction h with
  | @mk t h1 h2 h3 ih =>
    intro hc
    rw [cnt_eq] at hc
    have := cnts_len t.kids
    exact .mk (by omega) (fun v hv => by have := h2 v hv; omega) (by omega) (fun k hk => ih k hk (by have := cnts_mem hk; omega))
theorem Gd.vlen {t : RT} (h : Gd t) : vlen t.val ≤ 42 := by
  have := h.open.2.1
  cases hv : t.val with
  | none => simp [QS.vlen]
  | some v => have := this v hv; simp only [QS.vlen]; omega
mutual
theorem gd_shp : ∀ (t : RT), Gd t → t.shp.length ≤ 87 * t.cnt
  | .node lab val kids, h => by
    have h1 := h.open
    have h2 := h.vlen
    have h3 := gds_shp kids h1.2.2
    simp only [RT.lab_node, RT.val_node, RT.kids_node] at h1 h2
    rw [shp_eq, List.length_append, headB_len, cnt_eq]
    simp only [RT.lab_node, RT.val_node, RT.kids_node]
    omega
theorem gds_shp : ∀ (ks : List RT), (∀ k ∈ ks, Gd k) → (shps ks).length ≤ 87 * cnts ks
  | [], _ => by simp [shps_nil]
  | t :: r, h => by
    have h1 := gd_shp t (h t (List.mem_cons_self ..))
    have h2 := gds_shp r (fun k hk => h k (List.mem_cons_of_mem _ hk))
    rw [shps_cons, List.length_append, cnts_cons]
    omega
end
mutual
theorem gd_prs : ∀ (t : RT), Gd t → t.prs.length ≤ t.cnt ∧ ∀ q ∈ t.prs, q.1.length + 40 ≤ 40 * t.cnt ∧ q.2.length ≤ 40
  | .node lab val kids, h => by
    have h1 := h.open
    have h3 := gds_prs kids h1.2.2
    simp only [RT.lab_node, RT.val_node, RT.kids_node] at h1
    rw [below_eq, List.length_append, cnt_eq]
    simp only [RT.val_node, RT.kids_node]
    refine ⟨?_, fun q hq => ?_⟩
    · have : (ownP val).length ≤ 1 := by cases val <;> simp [ownP]
      omega
    · rcases List.mem_append.1 hq with hq | hq
      · obtain ⟨e1, e2⟩ := mem_ownP.1 hq
        have := h1.2.1 q.2 e2
        rw [e1]
        simp only [List.length_nil]
        omega
      · have := h3.2 q hq
        omega
theorem gds_prs : ∀ (ks : List RT), (∀ k ∈ ks, Gd k) → (belows ks).length ≤ cnts ks ∧ ∀ q ∈ belows ks, q.1.length ≤ 40 * cnts ks ∧ q.2.length ≤ 40
  | [], _ => by simp [belows_nil]
  | t :: r, h => by
    have h0 := (h t (List.mem_cons_self ..)).open.1
    have h1 := gd_prs t (h t (List.mem_cons_self ..))
    have h2 := gds_prs r (fun k hk => h k (List.mem_cons_of_mem _ hk))
    rw [belows_cons, List.length_append, cnts_cons]
    refine ⟨by simp [pre]; omega, fun q hq => ?_⟩
    rcases List.mem_append.1 hq with hq | hq
    · obtain ⟨p, hp, rfl⟩ := mem_pre.1 hq
      have := h1.2 p hp
      simp only [List.length_append]
      omega
    · have := h2.2 q hq
      omega
end
theorem gd_dp : ∀ (n : Nat) (ks : List RT), cnts ks ≤ n → (∀ k ∈ ks, Gd k) → ∀ N, 40 * cnts ks ≤ N → Dp N ks
  | 0, ks, hn, h, N, hN => by
    have := cnts_len ks
    obtain rfl : ks = [] := List.eq_nil_of_length_eq_zero (by omega)
    exact .mk (fun k hk => by cases hk) (fun k hk => by cases hk)
  | n + 1, ks, hn, h, N, hN => by
    refine .mk (fun k hk => ?_) (fun k hk => ?_)
    · have h1 := (h k hk).open.1
      have h2 := cnts_mem hk
      rw [cnt_eq] at h2
      omega
    · have h1 := (h k hk).open
      have h2 := cnts_mem hk
      rw [cnt_eq] at h2
      exact gd_dp n k.kids (by omega) h1.2.2 _ (by omega)

/-- A tree is canonical just if it is the tree of its pairs. -/
theorem canon_kd {t : RT} (hg : Gd t) (hc : t.cnt ≤ 20) (h : t.canB = true) : t.lab = [] ∧ Kd 1000 t.kids := by
  unfold RT.canB at h
  rw [Bool.and_eq_true, Bool.and_eq_true] at h
  obtain ⟨⟨h1, h2⟩, h3⟩ := h
  rw [cnt_eq] at hc
  exact ⟨by simpa using h1, kd_of _ _ (gd_dp _ t.kids (Nat.le_refl _) hg.open.2.2 1000 (by omega)) h2 h3⟩
theorem canon_no {t : RT} (hg : Gd t) (hc : t.cnt ≤ 20) (hr : ¬ Rise (pre t.lab t.prs)) : t.canB = false := by
  cases h : t.canB with
  | false => rfl
  | true =>
    exfalso
    obtain ⟨h1, h2⟩ := canon_kd hg hc h
    refine hr (rise_pre h2.prs_rise)
theorem canon_law {t u : RT} (hg : Gd t) (hc : t.cnt ≤ 20) (hu : u.lab = []) (hk : Kd 1000 u.kids) (hp : u.prs = pre t.lab t.prs) : t.canB = decide (t.shp = u.shp) := by
  have hv : ∀ q ∈ u.prs, q.2.length ≤ 40 := by
    intro q hq
    rw [hp] at hq
    obtain ⟨p, hp', rfl⟩ := mem_pre.1 hq
    exact ((gd_prs t hg).2 p hp').2
  have hsu : Sml u := root_smlW hk (Nat.le_refl _) (by rw [hu]; simp) hv
  rw [Bool.eq_iff_iff, decide_eq_true_eq, shp_inj (hg.sml (by omega)) hsu]
  constructor
  · intro h
    obtain ⟨h1, h2⟩ := canon_kd hg hc h
    refine root_uniq (h1.trans hu.symm) h2 hk ?_
    rw [hp, h1]
    simp [pre]
  · rintro rfl
    exact Kd.canB hu hk
end Go.QS
