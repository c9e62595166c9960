/- Texts joined. -/
import Derived.Test.YtclcgelbcbnekaaDoorM04
import Derived.Test.YtclcgelbcbnekaaDoorM07
import Derived.Test.YtclcgelbcbnekaaDoorM38
import Derived.Test.YtclcgelbcbnekaaDoorM19
import Derived.Test.YtclcgelbcbnekaaDoorM34
import Derived.Deep.RegionHeld3
import Derived.Test.YtclcgelbcbnekaaDoorM35
set_option linter.unusedVariables false
set_option linter.unusedSimpArgs false
/- Nodes and tries stay where no block of theirs turns. -/
namespace Go.QS
open Go.RowKit Go.QS.Nk
variable [Zero (Nat → Prop)]
set_option linter.unusedSectionVars false
theorem Sl.only9 {w w' : World} {k n : Nat} {v : Value} {xs : List Value} {T0 : Nat → Prop} (h : Sl w k v n xs) (f : Only T0 w w') (hT : ∀ b, v.ownBlock = some b → ¬ T0 b) : Sl w' k v n xs := by
  obtain ⟨A, C, rfl, h1, h2, h3, h4⟩ := h
  refine ⟨A, C, rfl, h1, h2, h3, fun hne => ?_⟩
  obtain ⟨b, o, rfl, hc⟩ := h4 hne
  exact ⟨b, o, rfl, fun j u hu => f.cell (hc j u hu) (hT b rfl)⟩
section
variable {T : TypeId} {w w' : World} {T0 : Nat → Prop} (f : Only T0 w w') (hT : ∀ b, T0 b → ¬ S9 b)
include f hT
theorem Nd.only {g d n : Nat} {ps : List Pr} {ks : List Nat} {bk : Bool} {ow : Option Addr} {pv kv : Value} (h : Nd T w g d n ps ks bk ow pv kv) : Nd T w' g d n ps ks bk ow pv kv :=
  ⟨h.node.only f (fun e => hT g e h.gS), Sl.only9 h.pairs f (fun b hb e => hT b e (h.pS b hb)), Sl.only9 h.kids f (fun b hb e => hT b e (h.kS b hb)), fun k hk => h.nw k (Nat.le_trans f.size hk), h.gS, h.pS, h.kS, fun b hb => Nat.lt_of_lt_of_le (h.pL b hb) f.size, fun b hb => Nat.lt_of_lt_of_le (h.kL b hb) f.size⟩
theorem In.only {g : Nat} {sl : List (Slot Nat)} (h : In T w g sl) : In T w' g sl := by
  obtain ⟨h0, ow, pv, kv, h1⟩ := h
  exact ⟨h0, ow, pv, kv, h1.only f hT⟩
theorem Bk.only {g : Nat} {l : List Pr} (h : Bk T w g l) : Bk T w' g l := by
  obtain ⟨ow, pv, kv, h1⟩ := h
  exact ⟨ow, pv, kv, h1.only f hT⟩
theorem TR.only {H : List UInt8 → Nat} : ∀ (k : Nat) {g : Nat} {l : List Pr}, TR T H w k g l → TR T H w' k g l
  | 0, _, _, hR => Bk.only f hT hR
  | k + 1, _, _, ⟨sl, h1, h2⟩ => ⟨sl, In.only f hT h1, fun c s hs => (h2 c s hs).mono fun _ hk => TR.only k hk⟩
end
end Go.QS
namespace Go.QS
open Go.RowKit Go.QS.Nk
section
variable {T : TypeId} {w w' : World} {T0 : Nat → Prop} {i1 i2 : Zero (Nat → Prop)}
/-- From one set of blocks to another. -/
theorem Nd.turn9 (f : Only T0 w w') (hT : ∀ b, T0 b → ¬ @S9 i1 b) (h1 : ∀ b, b < w.heap.size → @S9 i1 b → @S9 i2 b) (h2 : ∀ b, w'.heap.size ≤ b → @S9 i2 b) {g d n : Nat} {ps : List Pr} {ks : List Nat} {bk : Bool} {ow : Option Addr} {pv kv : Value} (h : @Nd i1 T w g d n ps ks bk ow pv kv) : @Nd i2 T w' g d n ps ks bk ow pv kv :=
  by
  obtain ⟨a1, a2, a3, a4, a5, a6, a7, a8, a9⟩ := h
  exact ⟨a1.only f (fun e => hT g e a5), Sl.only9 a2 f (fun b hb e => hT b e (a6 b hb)), Sl.only9 a3 f (fun b hb e => hT b e (a7 b hb)), h2, h1 g a1.lt a5, fun b hb => h1 b (a8 b hb) (a6 b hb), fun b hb => h1 b (a9 b hb) (a7 b hb), fun b hb => Nat.lt_of_lt_of_le (a8 b hb) f.size, fun b hb => Nat.lt_of_lt_of_le (a9 b hb) f.size⟩
theorem In.turn9 (f : Only T0 w w') (hT : ∀ b, T0 b → ¬ @S9 i1 b) (h1 : ∀ b, b < w.heap.size → @S9 i1 b → @S9 i2 b) (h2 : ∀ b, w'.heap.size ≤ b → @S9 i2 b) {g : Nat} {sl : List (Slot Nat)} (h : @In i1 T w g sl) : @In i2 T w' g sl := by
  obtain ⟨h0, ow, pv, kv, h3⟩ := h
  exact ⟨h0, ow, pv, kv, h3.turn9 f hT h1 h2⟩
theorem Bk.turn9 (f : Only T0 w w') (hT : ∀ b, T0 b → ¬ @S9 i1 b) (h1 : ∀ b, b < w.heap.size → @S9 i1 b → @S9 i2 b) (h2 : ∀ b, w'.heap.size ≤ b → @S9 i2 b) {g : Nat} {l : List Pr} (h : @Bk i1 T w g l) : @Bk i2 T w' g l := by
  obtain ⟨ow, pv, kv, h3⟩ := h
  exact ⟨ow, pv, kv, h3.turn9 f hT h1 h2⟩
theorem TR.turn9 (f : Only T0 w w') (hT : ∀ b, T0 b → ¬ @S9 i1 b) (h1 : ∀ b, b < w.heap.size → @S9 i1 b → @S9 i2 b) (h2 : ∀ b, w'.heap.size ≤ b → @S9 i2 b) {H : List UInt8 → Nat} : ∀ (k : Nat) {g : Nat} {l : List Pr}, @TR i1 T H w k g l → @TR i2 T H w' k g l
  | 0, _, _, hR => Bk.turn9 f hT h1 h2 hR
  | k + 1, _, _, ⟨sl, a, b⟩ => ⟨sl, In.turn9 f hT h1 h2 a, fun c s hs => (b c s hs).mono fun _ hk => TR.turn9 f hT h1 h2 k hk⟩
/-- What an extension leaves, told as a turn of no block. -/
theorem Only.none {w w' : World} (f : Ext w w') : Only (fun _ => False) w w' := Only.of_ext f
/-- All blocks but a row's. -/
abbrev SV (v : Value) : Zero (Nat → Prop) := ⟨fun k => v.ownBlock ≠ some k⟩
theorem SV.out {v : Value} {b : Nat} (h : v.ownBlock ≠ some b) : @S9 (SV v) b := h
theorem SV.not {v : Value} {b : Nat} (h : v.ownBlock = some b) : ¬ @S9 (SV v) b := fun e => e h
/-- A row grows by append: a trie that lies elsewhere stays, and lies elsewhere. -/
theorem TR.grow {v v' : Value} (hg : w.grownBy w' v.ownBlock) (hv : v'.ownBlock = v.ownBlock ∨ v'.ownBlock = some w.heap.size) (hl : ∀ b, v'.ownBlock = some b → b < w'.heap.size) {H : List UInt8 → Nat} {k g : Nat} {l : List Pr} (h : @TR (SV v) T H w k g l) : @TR (SV v') T H w' k g l :=
  TR.turn9 (Only.of_grown hg) (fun b hb => SV.not hb) (fun b hb h1 => SV.out (by
    rcases hv with e | e
    · rw [e]; exact h1
    · rw [e]; intro e2; cases e2; omega)) (fun b hb => SV.out (fun e => by have := hl b e; omega)) k h
end
end Go.QS
/- A tree that is changed in one chunk: plain, and in memory. -/
namespace Go.QS
open Go Go.RowKit Go.QS.Nk
variable [Zero (Nat → Prop)]
set_option linter.unusedSectionVars false
/-- A function, changed at one place. -/
def upN {α : Type} (f : Nat → α) (c : Nat) (a : α) : Nat → α := fun j => if j = c then a else f j
theorem upN_same {α : Type} (f : Nat → α) (c : Nat) (a : α) : upN f c a c = a := by simp [upN]
theorem upN_ne {α : Type} (f : Nat → α) {c j : Nat} (a : α) (h : j ≠ c) : upN f c a j = f j := by simp [upN, h]
/-- With nothing. -/
def nt0 : NT := .inn (fun _ => 0) (fun _ => ([], [])) (fun _ => .bk [])
theorem sum_bend {F F' : Nat → Nat} {c : Nat} (h : ∀ j, j ≠ c → F' j = F j) : ∀ {cs : List Nat}, cs.Nodup → (cs.map F').sum ≤ (cs.map F).sum + F' c
  | [], _ => by simp
  | d :: cs, hn => by
    obtain ⟨h1, h2⟩ := List.nodup_cons.1 hn
    rw [List.map_cons, List.map_cons, List.sum_cons, List.sum_cons]
    by_cases e : d = c
    · subst e
      have : cs.map F' = cs.map F := List.map_congr_left fun j hj => h j (fun e => h1 (e ▸ hj))
      rw [this]; omega
    · rw [h d e]
      have := sum_bend h h2
      omega
/-- A chunk's share. -/
def shr (one : Pr → Nat) (g : NT → Nat) (is : Nat → Nat) (p : Nat → Pr) (k : Nat → NT) (c : Nat) : Nat := if is c = 1 then one (p c) else if is c = 2 then g (k c) else 0
theorem shr_bend (one : Pr → Nat) (g : NT → Nat) (is : Nat → Nat) (p : Nat → Pr) (k : Nat → NT) (c i' : Nat) (p' : Pr) (k' : NT) :
    ((List.range 32).map (shr one g (upN is c i') (upN p c p') (upN k c k'))).sum ≤ ((List.range 32).map (shr one g is p k)).sum + shr one g (upN is c i') (upN p c p') (upN k c k') c :=
  sum_bend (fun j hj => by unfold shr; rw [upN_ne _ _ hj, upN_ne _ _ hj, upN_ne _ _ hj]) List.nodup_range
theorem all_sum {is : Nat → Nat} {p : Nat → Pr} {k : Nat → NT} (f : Nat) : (allN (.inn is p k) (f + 1)).length = ((List.range 32).map (shr (fun _ => 1) (fun t => (allN t f).length) is p k)).sum := by
  show ((List.range 32).flatMap _).length = _
  rw [List.length_flatMap]
  congr 1
  refine List.map_congr_left fun c _ => ?_
  unfold shr
  by_cases i1 : is c = 1
  · rw [if_pos i1, if_pos i1]; rfl
  · rw [if_neg i1, if_neg i1]
    by_cases i2 : is c = 2
    · rw [if_pos i2, if_pos i2]
    · rw [if_neg i2, if_neg i2]; rfl
theorem prs_sum {is : Nat → Nat} {p : Nat → Pr} {k : Nat → NT} : (prsN (.inn is p k)).length = ((List.range 32).map (shr (fun _ => 1) (fun t => (prsN t).length) is p k)).sum := by
  show ((List.range 32).flatMap _).length = _
  rw [List.length_flatMap]
  congr 1
  refine List.map_congr_left fun c _ => ?_
  unfold shr
  by_cases i1 : is c = 1
  · rw [if_pos i1, if_pos i1]; rfl
  · rw [if_neg i1, if_neg i1]
    by_cases i2 : is c = 2
    · rw [if_pos i2, if_pos i2]
    · rw [if_neg i2, if_neg i2]; rfl
end Go.QS
namespace Go.Proofs.YtclcgelbcbnekaaDoor
open Go Go.RowKit Go.QS Go.QS.Nk
set_option linter.unusedVariables false
variable [Zero (Nat → Prop)]
set_option linter.unusedSectionVars false

theorem look_sums {is : Nat → Nat} {p : Nat → Pr} {k : Nat → NT} (g : NT → List UInt8) : ∀ cs : List Nat, (prsB (prsOf (cs.map (slN is p k)))).length + ((kdsOf (cs.map (slN is p k))).flatMap g).length = (cs.map (shr (fun q => (prB q).length) (fun t => (g t).length) is p k)).sum
  | [] => rfl
  | c :: cs => by
    have ih := look_sums (is := is) (p := p) (k := k) g cs
    rw [List.map_cons, List.map_cons, List.sum_cons, ← ih]
    unfold shr
    by_cases i1 : is c = 1
    · rw [slN_pr i1, if_pos i1, prsOf_pr, kdsOf_pr]
      have e : prsB (p c :: prsOf (cs.map (slN is p k))) = prB (p c) ++ prsB (prsOf (cs.map (slN is p k))) := by simp [prsB]
      rw [e, List.length_append]; dsimp only; omega
    · by_cases i2 : is c = 2
      · rw [slN_kid i2, if_neg i1, if_pos i2, prsOf_kid, kdsOf_kid, List.flatMap_cons, List.length_append]; dsimp only; omega
      · rw [slN_no i1 i2, if_neg i1, if_neg i2, prsOf_no, kdsOf_no]; omega
theorem look_sum {is : Nat → Nat} {p : Nat → Pr} {k : Nat → NT} (f : Nat) : (lookN (.inn is p k) (f + 1)).length = 9 + ((List.range 32).map (shr (fun q => (prB q).length) (fun t => (lookN t f).length) is p k)).sum := by
  have h := look_sums (is := is) (p := p) (k := k) (fun t => lookN t f) (List.range 32)
  rw [lookN_succ, List.length_append, headB, List.length_append, List.length_append, List.length_cons, layB_len, layB_len]
  unfold slsN
  omega
/-- How much a chunk may bring. -/
structure Bnt (is : Nat → Nat) (p : Nat → Pr) (k : Nat → NT) (c : Nat) : Prop where
  look : shr (fun q => (prB q).length) (fun t => (lookN t 12).length) is p k c ≤ 1000
  all : shr (fun _ => 1) (fun t => (allN t 12).length) is p k c ≤ 100
  prs : shr (fun _ => 1) (fun t => (prsN t).length) is p k c ≤ 100
  sm : (is c = 1 → (p c).1.length < 65536 ∧ (p c).2.length < 65536) ∧ (is c = 2 → NSm (k c))
  few : is c = 2 → NFew (k c)
/-- A tree with one chunk changed is no greater, but by little. -/
theorem bend_ok {is : Nat → Nat} {p : Nat → Pr} {k : Nat → NT} {c i' : Nat} {p' : Pr} {k' : NT} (hc : c < 32) (hs : NSm (.inn is p k)) (hf : NFew (.inn is p k)) (hB : Bnt (upN is c i') (upN p c p') (upN k c k') c) :
    NSm (.inn (upN is c i') (upN p c p') (upN k c k')) ∧ NFew (.inn (upN is c i') (upN p c p') (upN k c k')) ∧ (lookN (.inn (upN is c i') (upN p c p') (upN k c k')) 13).length ≤ (lookN (.inn is p k) 13).length + 1000 ∧
      (allN (.inn (upN is c i') (upN p c p') (upN k c k')) 13).length ≤ (allN (.inn is p k) 13).length + 100 ∧ (prsN (.inn (upN is c i') (upN p c p') (upN k c k'))).length ≤ (prsN (.inn is p k)).length + 100 := by
  refine ⟨fun j hj => ?_, fun j hj => ?_, ?_, ?_, ?_⟩
  · by_cases e : j = c
    · subst e; exact hB.sm
    · rw [upN_ne _ _ e, upN_ne _ _ e, upN_ne _ _ e]; exact hs j hj
  · by_cases e : j = c
    · subst e; exact hB.few
    · rw [upN_ne _ _ e, upN_ne _ _ e]; exact hf j hj
  · have h1 := shr_bend (fun q => (prB q).length) (fun t => (lookN t 12).length) is p k c i' p' k'
    have h2 := hB.look
    rw [look_sum 12, look_sum 12]; omega
  · have h1 := shr_bend (fun _ => 1) (fun t => (allN t 12).length) is p k c i' p' k'
    have h2 := hB.all
    rw [all_sum 12, all_sum 12]; omega
  · have h1 := shr_bend (fun _ => 1) (fun t => (prsN t).length) is p k c i' p' k'
    have h2 := hB.prs
    rw [prs_sum, prs_sum]; omega
/-- The program's node, one chunk changed. -/
theorem RN.bend {w w' : World} {g' c i' : Nat} {p' : Pr} {k' : NT} {is : Nat → Nat} {p : Nat → Pr} {k : Nat → NT} {sl : List (Slot Nat)} {s' : Slot Nat} (f : Ext w w') (hN : In ND w' g' (sl.set c s')) (hs : ∀ j s, sl[j]? = some s → SlT is p (fun j q => RN w (k j) q) j s)
    (hs' : SlT (upN is c i') (upN p c p') (fun j q => RN w' (upN k c k' j) q) c s') : RN w' (.inn (upN is c i') (upN p c p') (upN k c k')) g' := by
  refine ⟨sl.set c s', hN, fun j s hj => ?_⟩
  by_cases e : j = c
  · subst e
    have hlt : j < sl.length := by have := (List.getElem?_eq_some_iff.1 hj).1; simpa using this
    rw [List.getElem?_set_self hlt] at hj
    cases hj
    exact hs'
  · rw [List.getElem?_set_ne (fun x => e x.symm)] at hj
    have h0 := hs j s hj
    cases s with
    | no => exact ⟨by rw [upN_ne _ _ e]; exact h0.1, by rw [upN_ne _ _ e]; exact h0.2⟩
    | pr q => exact ⟨by rw [upN_ne _ _ e]; exact h0.1, by rw [upN_ne _ _ e]; exact h0.2⟩
    | kid q => exact ⟨by rw [upN_ne _ _ e]; exact h0.1, by show RN w' (upN k c k' j) q; rw [upN_ne _ _ e]; exact RN.ext f h0.2⟩
theorem RN.nt0 {w : World} {g : Nat} (h : In ND w g (sl0 Nat)) : RN w nt0 g := ⟨_, h, fun c s hs => by
  have : s = .no := by
    unfold sl0 at hs
    exact (List.getElem?_replicate.symm.trans hs |> fun e => by
      by_cases hc : c < 32
      · rw [if_pos hc] at e; cases e; rfl
      · rw [if_neg hc] at e; cases e)
  subst this
  exact ⟨(by show (0 : Nat) ≠ 1; decide), (by show (0 : Nat) ≠ 2; decide)⟩⟩
/-- The document's node: a chunk. -/
theorem ent_de {H : List UInt8 → Nat} {w : World} {f c : Nat} {A : Array Value} {x : List Pr} (h : EntOk (DR H w f) A c x) : DE (fun q' => DN w (trT H f x) q') A c (min 2 x.length) (x.headD ([], [])) := by
  have e34 : 34 + c * 2 = 34 + 2 * c := by omega
  have e35 : 34 + 2 * c + 1 = 35 + 2 * c := by omega
  rcases h with ⟨e, a1⟩ | ⟨p, e, a1, a2, a3⟩ | ⟨h9, q', a1, a2, hR⟩
  · subst e
    exact ⟨a1, fun e => by simp at e, fun e => by simp at e⟩
  · subst e
    refine ⟨a1, fun _ => ?_, fun e => by simp at e⟩
    rw [e34, e35]
    exact ⟨a2, a3⟩
  · have e : min 2 x.length = 2 := min_two.2.2 h9
    rw [e]
    exact ⟨a1, fun e => by simp at e, fun _ => ⟨q', a2, DR.dn f hR⟩⟩
theorem DE.same {R : Nat → Prop} {A A' : Array Value} {c i : Nat} {p : Pr} (h : DE R A c i p) (h1 : A'[2 + c]? = A[2 + c]?) (h2 : A'[34 + c * 2]? = A[34 + c * 2]?) (h3 : A'[34 + c * 2 + 1]? = A[34 + c * 2 + 1]?) (h4 : A'[98 + c]? = A[98 + c]?) : DE R A' c i p :=
  ⟨h1.trans h.1, fun e => ⟨h2.trans (h.2.1 e).1, h3.trans (h.2.1 e).2⟩, fun e => by obtain ⟨q, a, b⟩ := h.2.2 e; exact ⟨q, h4.trans a, b⟩⟩
theorem DN.bend {H : List UInt8 → Nat} {W : World} {q c i' : Nat} {p' : Pr} {k' : NT} {A A' : Array Value} {X : List Pr} (hq : W.heap[q]? = some (.cells A' TTY (0, 0))) (h0 : A'[0]? = some (.bool false)) (h1 : A'[1]? = some (.slice none 0 0))
    (hE : ∀ j, j < 32 → EntOk (DR H W 12) A j (Go.QS.part H 0 j X)) (hne : ∀ j, j < 32 → j ≠ c → A'[2 + j]? = A[2 + j]? ∧ A'[34 + j * 2]? = A[34 + j * 2]? ∧ A'[34 + j * 2 + 1]? = A[34 + j * 2 + 1]? ∧ A'[98 + j]? = A[98 + j]?)
    (hc : DE (fun q' => DN W k' q') A' c i' p') :
    DN W (.inn (upN (fun j => min 2 (Go.QS.part H 0 j X).length) c i') (upN (fun j => (Go.QS.part H 0 j X).headD ([], [])) c p') (upN (fun j => trT H 12 (Go.QS.part H 0 j X)) c k')) q := by
  refine ⟨A', hq, h0, h1, fun j hj => ?_⟩
  by_cases e : j = c
  · subst e
    rw [upN_same, upN_same, upN_same]; exact hc
  · rw [upN_ne _ _ e, upN_ne _ _ e, upN_ne _ _ e]
    obtain ⟨a, b, c', d⟩ := hne j hj e
    exact (ent_de (hE j hj)).same a b c' d
/-- Zero cells are a node with nothing. -/
theorem dn_zero {W : World} {q : Nat} (h : W.heap[q]? = some (.cells Tryd.zeroCells57 TTY (0, 0))) : DN W nt0 q :=
  ⟨_, h, zs0.bk, zs0.sl, fun c hc => ⟨zs0.is c (Nat.zero_le _) hc, fun e => (by cases e), fun e => (by cases e)⟩⟩
theorem dn_one {W : World} {q c : Nat} {p : Pr} (hc : c < 32) (h : W.heap[q]? = some (.cells (setP Tryd.zeroCells57 c p) TTY (0, 0))) : DN W (.inn (upN (fun _ => 0) c 1) (upN (fun _ => ([], [])) c p) (fun _ => .bk [])) q := by
  have hz := zs0.setP (c := 0) (by decide) ([], [])
  have hs := zs0.size
  refine ⟨_, h, by rw [setP_ne p (by omega) (by omega) (by omega)]; exact zs0.bk, by rw [setP_ne p (by omega) (by omega) (by omega)]; exact zs0.sl, fun j hj => ?_⟩
  by_cases e : j = c
  · subst e
    rw [upN_same, upN_same]
    refine ⟨?_, fun _ => ⟨?_, ?_⟩, fun e => (by cases e)⟩
    · rw [Array.getElem?_setIfInBounds_ne (by omega), Array.getElem?_setIfInBounds_ne (by omega), Array.getElem?_setIfInBounds_self_of_lt (by omega)]; rfl
    · rw [Array.getElem?_setIfInBounds_ne (by omega), Array.getElem?_setIfInBounds_self_of_lt (by simp; omega)]
    · rw [Array.getElem?_setIfInBounds_self_of_lt (by simp; omega)]
  · rw [upN_ne _ _ e, upN_ne _ _ e]
    refine ⟨?_, fun e => (by cases e), fun e => (by cases e)⟩
    rw [setP_ne p (by omega) (by omega) (by omega)]
    exact zs0.is j (Nat.zero_le _) hj
end Go.Proofs.YtclcgelbcbnekaaDoor
/- A tree in memory stays where no block of its own turns. -/
namespace Go.Proofs.YtclcgelbcbnekaaDoor
open Go Go.RowKit Go.QS Go.QS.Nk
variable [Zero (Nat → Prop)]
set_option linter.unusedSectionVars false
theorem RN.only {w w' : World} {T0 : Nat → Prop} (f : Only T0 w w') (hT : ∀ b, T0 b → ¬ S9 b) : ∀ {t : NT} {g : Nat}, RN w t g → RN w' t g
  | .bk l, g, h => Bk.only f hT h
  | .inn is p k, g, ⟨sl, h1, h2⟩ => ⟨sl, In.only f hT h1, fun c s hs => (h2 c s hs).mono fun q hq => RN.only f hT hq⟩
end Go.Proofs.YtclcgelbcbnekaaDoor
/- How a law takes it up: a set of its own. -/
namespace Go.QS
theorem s9_try (gp : Nat) (w : World) (h : gp < w.heap.size) : True := by
  letI : Zero (Nat → Prop) := ⟨fun b => b ≠ gp⟩
  have h1 : ∀ k, w.heap.size ≤ k → S9 k := fun k hk => (show k ≠ gp by omega)
  have h2 : ∀ b, b = gp → ¬ S9 b := fun b e hb => (show b ≠ gp from hb) e
  trivial
end Go.QS
/- ShapeBends: its end: a law of its own. -/
namespace Go.Proofs.YtclcgelbcbnekaaDoor
open Go Go.RowKit Go.QS Go.QS.Nk
set_option linter.unusedVariables false
variable [Zero (Nat → Prop)]
set_option linter.unusedSectionVars false

theorem prsB_sm : ∀ {l : List Pr}, PSm l → (prsB l).length ≤ 131076 * l.length
  | [], _ => by simp [prsB]
  | p :: l, h => by
    have ih := prsB_sm (l := l) (fun q hq => h q (List.mem_cons_of_mem _ hq))
    obtain ⟨h1, h2⟩ := h p (List.mem_cons_self ..)
    have e : prsB (p :: l) = prB p ++ prsB l := by simp [prsB]
    rw [e, List.length_append, prB, List.length_append, textB_len, textB_len, List.length_cons]; omega
theorem shp_sm (H : List UInt8 → Nat) {l : List Pr} (h : PSm l) (h9 : l.length ≤ 500) : (shp H 13 l).length ≤ 70000000 := by
  have h1 := shp_len H 13 l
  have h2 := prsB_sm h
  omega
set_option maxRecDepth 100000 in
set_option maxHeartbeats 2000000 in
theorem bd_21 (wr : World) (gh g1 q : Nat) (h : Hs) (hk : h.Ok) (t : NT) (HH : HsAt wr gh h) (hR : RN wr t g1) (hD : DN wr t q) (hs : NSm t) (hf : NFew t) (hl : (lookN t 13).length ≤ 60000000) (ha : (allN t 13).length ≤ 500) (hp : (prsN t).length ≤ 1000000) (hT : Tab32 wr) (c : Code) (Q : Exit → Act → World → Prop) (t0 t1 t2 t3 t4 t6 t7 t8 t9 t10 t12 t14 t15 t16 t17 t18 t19 t20 t21 t22 t23 t24 t25 t26 t27 t28 t29 t30 t31 t32 t33 t34 t35 t36 t37 t38 t39 t40 t41 t42 t43 t44 t45 t46 t47 t48 t49 t50 t51 t52 t53 t54 t55 t56 t57 t58 t59 t60 t61 t62 t63 t64 t65 t66 t67 t68 t69 t70 t71 t72 t73 t74 t75 t76 t77 t78 t79 t80 t81 t82 t83 t84 t85 t86 t87 t88 t89 t90 t91 t92 t93 t94 t95 t96 t97 t98 t99 t100 t101 t102 t103 t104 t105 t106 t107 t108 t109 t110 t111 t112 t113 t114 t115 t116 t117 t118 t119 t120 t121 t122 t123 t124 t125 : Value)
    (hc : (Tryd.f4.body.bind (findR 21)) = some c)
    (hQ : ∀ (u111 u112 u113 u114 u115 u116 u117 u118 u119 u120 u121 u122 u123 u124 u125 : Value) (wx : World), Ext wr wx → Q .normal { tmps := List.toArray (t0 :: t1 :: t2 :: t3 :: t4 :: (ptr gh) :: t6 :: t7 :: t8 :: t9 :: (.bool true) :: (ptr g1) :: t12 :: (ptr q) :: t14 :: t15 :: t16 :: t17 :: t18 :: t19 :: t20 :: t21 :: t22 :: t23 :: t24 :: t25 :: t26 :: t27 :: t28 :: t29 :: t30 :: t31 :: t32 :: t33 :: t34 :: t35 :: t36 :: t37 :: t38 :: t39 :: t40 :: t41 :: t42 :: t43 :: t44 :: t45 :: t46 :: t47 :: t48 :: t49 :: t50 :: t51 :: t52 :: t53 :: t54 :: t55 :: t56 :: t57 :: t58 :: t59 :: t60 :: t61 :: t62 :: t63 :: t64 :: t65 :: t66 :: t67 :: t68 :: t69 :: t70 :: t71 :: t72 :: t73 :: t74 :: t75 :: t76 :: t77 :: t78 :: t79 :: t80 :: t81 :: t82 :: t83 :: t84 :: t85 :: t86 :: t87 :: t88 :: t89 :: t90 :: t91 :: t92 :: t93 :: t94 :: t95 :: t96 :: t97 :: t98 :: t99 :: t100 :: t101 :: t102 :: t103 :: t104 :: t105 :: t106 :: t107 :: t108 :: t109 :: t110 :: u111 :: u112 :: u113 :: u114 :: u115 :: u116 :: u117 :: u118 :: u119 :: u120 :: u121 :: u122 :: u123 :: u124 :: u125 :: []), defers := [] } wx) :
    c.wp Tryd.prog Q { tmps := List.toArray (t0 :: t1 :: t2 :: t3 :: t4 :: (ptr gh) :: t6 :: t7 :: t8 :: t9 :: t10 :: (ptr g1) :: t12 :: (ptr q) :: t14 :: t15 :: t16 :: t17 :: t18 :: t19 :: t20 :: t21 :: t22 :: t23 :: t24 :: t25 :: t26 :: t27 :: t28 :: t29 :: t30 :: t31 :: t32 :: t33 :: t34 :: t35 :: t36 :: t37 :: t38 :: t39 :: t40 :: t41 :: t42 :: t43 :: t44 :: t45 :: t46 :: t47 :: t48 :: t49 :: t50 :: t51 :: t52 :: t53 :: t54 :: t55 :: t56 :: t57 :: t58 :: t59 :: t60 :: t61 :: t62 :: t63 :: t64 :: t65 :: t66 :: t67 :: t68 :: t69 :: t70 :: t71 :: t72 :: t73 :: t74 :: t75 :: t76 :: t77 :: t78 :: t79 :: t80 :: t81 :: t82 :: t83 :: t84 :: t85 :: t86 :: t87 :: t88 :: t89 :: t90 :: t91 :: t92 :: t93 :: t94 :: t95 :: t96 :: t97 :: t98 :: t99 :: t100 :: t101 :: t102 :: t103 :: t104 :: t105 :: t106 :: t107 :: t108 :: t109 :: t110 :: t111 :: t112 :: t113 :: t114 :: t115 :: t116 :: t117 :: t118 :: t119 :: t120 :: t121 :: t122 :: t123 :: t124 :: t125 :: []), defers := [] } wr := by
  change some _ = some c at hc
  cases hc
  have HQF := Lib.hid hQ
  clear hQ
  obtain ⟨BT, hBT⟩ : ∃ B, B = lookN t 13 := ⟨_, rfl⟩
  have HLk : Hid (∀ W, Ext wr W → LkAt W (ptr g1) BT) := Lib.hid (fun W f => .inr ⟨g1, t, rfl, hR.ext f, hf, hBT⟩)
  have hBT9 : BT.length ≤ 60000000 := by rw [hBT]; exact hl
  have HOf : Hid (∀ W, Ext wr W → Calls Tryd.prog 9 #[ptr g1] W fun e w' => ∃ v', e = .returned v' ∧ BS w' v' BT ∧ Ext W w') := Lib.hid (fun W f => ofA_c W _ BT (HLk.out W f) (by omega))
  have HO7 : Hid (∀ W, Ext wr W → Calls Tryd.prog 10 #[ptr q, .int .i64 0] W fun e w' => ∃ v', e = .returned v' ∧ BS w' v' BT ∧ Ext W w') := Lib.hid (fun W f => by
    have h0 := of7_c t 0 wr q hD (by decide) (by rw [show 13 - 0 = 13 from rfl]; omega) W f
    rw [show 13 - 0 = 13 from rfl, ← hBT] at h0
    refine h0.mono ?_
    rintro e w' ⟨v', rfl, r, f⟩
    exact ⟨v', rfl, BS.of_own r, f⟩)
  have HSr : Hid (∀ W v v', BS W v BT → BS W v' BT → Calls Tryd.prog 8 #[v, v'] W fun e w' => e = .returned (.bool true) ∧ Ext W w') := Lib.hid (fun W v v' h1 h2 => (rsame_c W v v' BT BT h1 h2).mono (by rintro e w' ⟨rfl, f'⟩; exact ⟨by rw [decide_eq_true rfl], f'⟩))
  have hb : ∃ b : Bool, (b = true ↔ okN h.hash t []) := by
    rcases Classical.em (okN h.hash t []) with h1 | h1
    · exact ⟨true, fun _ => h1, fun _ => rfl⟩
    · exact ⟨false, fun e => (by cases e), fun x => absurd x h1⟩
  obtain ⟨sm, hsm⟩ := hb
  have key : ∀ {e : Ending}, ((okN h.hash t [] ∧ e = .returned (.bool true)) ∨ (¬ okN h.hash t [] ∧ e = .returned (.bool false))) → e = .returned (.bool sm) := fun {e} hh => by
    rcases hh with ⟨h1, rfl⟩ | ⟨h1, rfl⟩
    · rw [hsm.2 h1]
    · cases sm with
      | true => exact absurd (hsm.1 rfl) h1
      | false => rfl
  have HCa : Hid (∀ W, Ext wr W → Calls Tryd.prog 11 #[hsV h, ptr g1] W fun e w' => e = .returned (.bool sm) ∧ Ext W w') := Lib.hid (fun W f => (canonR_c W h hk g1 t (hR.ext f) hs (by omega) (hT.ext f)).mono (fun e w' hh => ⟨key hh.1, hh.2⟩))
  have HCd : Hid (∀ W, Ext wr W → Calls Tryd.prog 12 #[hsV h, ptr q] W fun e w' => e = .returned (.bool sm) ∧ Ext W w') := Lib.hid (fun W f => (rcanon7_c W h hk q t (hD.ext f) hs (by omega) (by omega) (fun H => shp_sm H (fun p hp => allN_sm t 13 hs p (rsort_sub _ p hp)) (Nat.le_trans (rsort_length _) ha))).mono (fun e w' hh => ⟨key hh.1, hh.2⟩))
  have HcS : Hid (∀ W, Ext wr W → (fun w' => w'.cell? ⟨gh, 0, none⟩ = some (.int .u64 h.k0) ∧ w'.cell? ⟨gh, 1, none⟩ = some (.int .u64 h.k1) ∧ w'.cell? ⟨gh, 2, none⟩ = some (.int .u64 h.mask)) W) := Lib.hid (fun W f => (HH.ext f).cells)
  have hEq : ∀ wz, (binOp .eql 4 (.bool sm) (.bool sm)).run Tryd.prog wz = .ok (.bool true) wz := fun wz => by cases sm <;> simp [go_sem]
  clear hBT hBT9 HLk hR hD hs hf hl ha hp hT hsm key HH
  refine wp_region_noPanic ?_
  go_region_held3 (fun w' => w'.cell? ⟨gh, 0, none⟩ = some (.int .u64 h.k0) ∧ w'.cell? ⟨gh, 1, none⟩ = some (.int .u64 h.k1) ∧ w'.cell? ⟨gh, 2, none⟩ = some (.int .u64 h.mask))
    (first | exact HcS.out _ k6.out | exact HcS.out _ k5.out | exact HcS.out _ k4.out | exact HcS.out _ k3.out | exact HcS.out _ k2.out | exact HcS.out _ k1.out | exact HcS.out _ (ext_drew (Ext.refl _)))
    (first
      | (go_at_call 12; have mz := k5; clear mz; refine (HCd.out _ k5.out).mono ?_; rintro e x6 ⟨rfl, f6⟩; skip; have k6 : Hid (Ext wr x6) := Lib.hid (Ext.trans (k5.out) f6); clear f6)
      | (go_at_call 13; have mz := k4; clear mz; refine (own07_c _ h).mono ?_; rintro e x5 ⟨rfl, f5⟩; skip; have k5 : Hid (Ext wr x5) := Lib.hid (Ext.trans (k4.out) f5); clear f5)
      | (go_at_call 11; have mz := k3; clear mz; refine (HCa.out _ k3.out).mono ?_; rintro e x4 ⟨rfl, f4⟩; skip; have k4 : Hid (Ext wr x4) := Lib.hid (Ext.trans (k3.out) f4); clear f4)
      | (go_at_call 8; have mz := k2; clear mz; refine (HSr.out _ v1 v2 K2.out.1 K2.out.2).mono ?_; rintro e x3 ⟨rfl, f3⟩; skip; have k3 : Hid (Ext wr x3) := Lib.hid (Ext.trans (k2.out) f3); clear f3)
      | (go_at_call 10; have mz := k1; clear mz; refine (HO7.out _ k1.out).mono ?_; rintro e x2 ⟨v2, rfl, b2, f2⟩; have K2 := Lib.hid (And.intro (K1.out.below f2) b2); have k2 : Hid (Ext wr x2) := Lib.hid (Ext.trans (k1.out) f2); clear f2 b2)
      | (go_at_call 9; refine (HOf.out _ (ext_drew (Ext.refl _))).mono ?_; rintro e x1 ⟨v1, rfl, b1, f1⟩; have K1 := Lib.hid b1; have k1 : Hid (Ext wr x1) := Lib.hid (Ext.trans (ext_drew (Ext.refl _)) f1); clear f1 b1))
  refine NoPanic.normal ?_
  exact HQF.out _ _ _ _ _ _ _ _ _ _ _ _ _ _ _ _ k6.out

end Go.Proofs.YtclcgelbcbnekaaDoor
/- ShapeBends: what is changed, four ways: laws of their own. -/
namespace Go.Proofs.YtclcgelbcbnekaaDoor
open Go Go.RowKit Go.QS Go.QS.Nk
set_option linter.unusedVariables false
variable [Zero (Nat → Prop)]
set_option linter.unusedSectionVars false

theorem all_trT (H : List UInt8 → Nat) : ∀ (f : Nat) (l : List Pr), allN (trT H f l) f = prsN (trT H f l)
  | 0, l => rfl
  | f + 1, l => by
    show (List.range 32).flatMap _ = (List.range 32).flatMap _
    congr 1
    funext c
    dsimp only
    rw [all_trT H f]
/-- The chunks of a trie's root. -/
abbrev isX (H : List UInt8 → Nat) (X : List Pr) (j : Nat) : Nat := min 2 (Go.QS.part H 0 j X).length
abbrev pX (H : List UInt8 → Nat) (X : List Pr) (j : Nat) : Pr := (Go.QS.part H 0 j X).headD ([], [])
abbrev kX (H : List UInt8 → Nat) (X : List Pr) (j : Nat) : NT := trT H 12 (Go.QS.part H 0 j X)
theorem trT13 (H : List UInt8 → Nat) (X : List Pr) : trT H 13 X = .inn (isX H X) (pX H X) (kX H X) := rfl
/-- What stands ahead of the change. -/
structure BdH (w wr : World) (gh g8 g q : Nat) (h : Hs) (A : Array Value) (p : Pr) (X : List Pr) : Prop where
  ext : Ext w wr
  lq : w.heap.size ≤ q
  hs : HsAt wr gh h
  pr : PrAt wr g8 p
  hq : wr.heap[q]? = some (.cells A TTY (0, 0))
  zs : Zs A 32
  ent : ∀ W, KeepT (q + 1) wr W → ∀ c, c < 32 → EntOk (DR h.hash W 12) A c (Go.QS.part h.hash 0 c X)
  tr : TR ND h.hash wr 13 g X
  nq : ¬ S9 q
  n8 : g8 ≠ q
  nh : gh ≠ q
  ok : X.length ≤ 40 ∧ (∀ p ∈ X, p.1.length ≤ 40 ∧ p.2.length ≤ 40) ∧ p.1.length ≤ 40 ∧ p.2.length ≤ 40
/-- What stands behind it. -/
def BdE (w wx : World) (gh g1 q : Nat) (h : Hs) : Prop := Ext w wx ∧ HsAt wx gh h ∧ ∃ t, RN wx t g1 ∧ DN wx t q ∧ NSm t ∧ NFew t ∧ (lookN t 13).length ≤ 60000000 ∧ (allN t 13).length ≤ 500 ∧ (prsN t).length ≤ 1000000
structure Kd9 (i : Nat) (p : Pr) (t : NT) : Prop where
  pr : i = 1 → p.1.length ≤ 40 ∧ p.2.length ≤ 40
  kd : i = 2 → (lookN t 12).length ≤ 1000 ∧ (allN t 12).length ≤ 100 ∧ (prsN t).length ≤ 100 ∧ NSm t ∧ NFew t
theorem bd_fin {w wr w2 wx : World} {gh g8 g g1 q k i' : Nat} {h : Hs} {A A' : Array Value} {p p' : Pr} {k' : NT} {X : List Pr} {sl : List (Slot Nat)} {s' : Slot Nat} (H : BdH w wr gh g8 g q h A p X) (hk : k < 32) (f2 : Ext wr w2) (o : Only (fun b => b = q) w2 wx)
    (hN2 : In ND w2 g1 (sl.set k s')) (hsl : ∀ j s, sl[j]? = some s → SlT (isX h.hash X) (pX h.hash X) (fun j q => RN wr (kX h.hash X j) q) j s)
    (hs' : SlT (upN (isX h.hash X) k i') (upN (pX h.hash X) k p') (fun j q => RN w2 (upN (kX h.hash X) k k' j) q) k s')
    (hq : wx.heap[q]? = some (.cells A' TTY (0, 0))) (h0 : A'[0]? = A[0]?) (h1 : A'[1]? = A[1]?)
    (hne : ∀ j, j < 32 → j ≠ k → A'[2 + j]? = A[2 + j]? ∧ A'[34 + j * 2]? = A[34 + j * 2]? ∧ A'[34 + j * 2 + 1]? = A[34 + j * 2 + 1]? ∧ A'[98 + j]? = A[98 + j]?)
    (hc : DE (fun q' => DN wx k' q') A' k i' p') (hB : Kd9 i' p' k') : BdE w wx gh g1 q h := by
  have hX := H.ok
  have of : Only (fun b => b = q) wr wx := (Only.of_ext f2).trans' (T := fun b => b = q) (S := fun b => b = q) o (fun _ _ e => e)
  have hqs : q < wr.heap.size := heap_lt H.hq
  have hkt : KeepT (q + 1) wr wx := of.mono (fun i hi e => by subst e; exact ⟨by omega, A, TTY, H.hq, by decide⟩)
  have hR := RN.only o (fun b hb => by subst hb; exact H.nq) (RN.bend f2 hN2 hsl hs')
  have hD := DN.bend (X := X) hq (h0.trans H.zs.bk) (h1.trans H.zs.sl) (H.ent wx hkt) hne hc
  have hsm : NSm (.inn (isX h.hash X) (pX h.hash X) (kX h.hash X)) := by
    rw [← trT13]
    exact NSm_trT h.hash 13 (fun p hp => by have := hX.2.1 p hp; omega) (by omega)
  have hfw : NFew (.inn (isX h.hash X) (pX h.hash X) (kX h.hash X)) := by
    rw [← trT13]
    exact NFew_trT h.hash 13 (by omega)
  have hBn : Bnt (upN (isX h.hash X) k i') (upN (pX h.hash X) k p') (upN (kX h.hash X) k k') k := by
    have e : ∀ (one : Pr → Nat) (gg : NT → Nat), shr one gg (upN (isX h.hash X) k i') (upN (pX h.hash X) k p') (upN (kX h.hash X) k k') k = if i' = 1 then one p' else if i' = 2 then gg k' else 0 := fun one gg => by
      unfold shr; rw [upN_same, upN_same, upN_same]
    refine ⟨?_, ?_, ?_, ?_, ?_⟩
    · rw [e]
      by_cases i1 : i' = 1
      · have := hB.pr i1
        rw [if_pos i1, prB, List.length_append, textB_len, textB_len]; omega
      · rw [if_neg i1]
        by_cases i2 : i' = 2
        · rw [if_pos i2]; exact (hB.kd i2).1
        · rw [if_neg i2]; omega
    · rw [e]
      by_cases i1 : i' = 1
      · rw [if_pos i1]; omega
      · rw [if_neg i1]
        by_cases i2 : i' = 2
        · rw [if_pos i2]; exact (hB.kd i2).2.1
        · rw [if_neg i2]; omega
    · rw [e]
      by_cases i1 : i' = 1
      · rw [if_pos i1]; omega
      · rw [if_neg i1]
        by_cases i2 : i' = 2
        · rw [if_pos i2]; exact (hB.kd i2).2.2.1
        · rw [if_neg i2]; omega
    · rw [upN_same, upN_same, upN_same]
      exact ⟨fun i1 => by have := hB.pr i1; omega, fun i2 => (hB.kd i2).2.2.2.1⟩
    · rw [upN_same, upN_same]
      exact fun i2 => (hB.kd i2).2.2.2.2
  obtain ⟨b1, b2, b3, b4, b5⟩ := bend_ok hk hsm hfw hBn
  have l1 : (lookN (.inn (isX h.hash X) (pX h.hash X) (kX h.hash X)) 13).length ≤ 9000 := by
    rw [← trT13, lookN_trT]; exact shp_few h.hash hX.1 hX.2.1
  have l3 : (prsN (.inn (isX h.hash X) (pX h.hash X) (kX h.hash X))).length ≤ 40 := by
    rw [← trT13, (prsN_trT h.hash 13 X).length_eq]; exact hX.1
  have l2 : (allN (.inn (isX h.hash X) (pX h.hash X) (kX h.hash X)) 13).length ≤ 40 := by
    rw [← trT13, all_trT, trT13]; exact l3
  exact ⟨((Only.of_ext H.ext).trans' (T := fun b => b = q) (S := fun b => b = q) of (fun _ _ e => e)).ext (fun i hi e => by subst e; have := H.lq; omega), of.heap H.hs H.nh, _, hR, hD, b1, b2, by omega, by omega, by omega⟩
/-- The kids that are hung. -/
theorem kd9_0 (p : Pr) : Kd9 2 p nt0 := ⟨fun e => (by cases e), fun _ => ⟨by decide, by decide, by decide, fun c _ => ⟨fun e => (by cases e), fun e => (by cases e)⟩, fun c _ e => (by cases e)⟩⟩
abbrev nt1 (k : Nat) (p : Pr) : NT := .inn (upN (fun _ => 0) k 1) (upN (fun _ => ([], [])) k p) (fun _ => .bk [])
theorem kd9_1 (p q : Pr) {k : Nat} (hk : k < 32) (h : q.1.length ≤ 40 ∧ q.2.length ≤ 40) : Kd9 2 p (nt1 k q) := by
  have hz : ∀ (one : Pr → Nat) (gg : NT → Nat), ((List.range 32).map (shr one gg (fun _ => 0) (fun _ => ([], [])) (fun _ => .bk []))).sum = 0 := fun one gg => by
    have e : shr one gg (fun _ => 0) (fun _ => ([], [])) (fun _ => .bk []) = fun _ => 0 := rfl
    rw [e]; decide
  have hb : ∀ (one : Pr → Nat) (gg : NT → Nat), ((List.range 32).map (shr one gg (upN (fun _ => 0) k 1) (upN (fun _ => ([], [])) k q) (fun _ => .bk []))).sum ≤ one q := fun one gg => by
    have h1 := shr_bend one gg (fun _ => 0) (fun _ => ([], [])) (fun _ => .bk []) k 1 q (.bk [])
    have e : upN (fun _ => NT.bk []) k (.bk []) = fun _ => .bk [] := by funext j; unfold upN; split <;> rfl
    rw [e, hz] at h1
    have e2 : shr one gg (upN (fun _ => 0) k 1) (upN (fun _ => ([], [])) k q) (fun _ => .bk []) k = one q := by unfold shr; rw [upN_same, upN_same]; rfl
    rw [e2] at h1
    omega
  refine ⟨fun e => (by cases e), fun _ => ⟨?_, ?_, ?_, fun c hc => ⟨fun e => ?_, fun e => ?_⟩, fun c hc e => ?_⟩⟩
  · have := hb (fun q => (prB q).length) (fun t => (lookN t 11).length)
    rw [look_sum 11]
    rw [prB, List.length_append, textB_len, textB_len] at this
    omega
  · have := hb (fun _ => 1) (fun t => (allN t 11).length)
    rw [all_sum 11]; omega
  · have := hb (fun _ => 1) (fun t => (prsN t).length)
    rw [prs_sum]; omega
  · by_cases e1 : c = k
    · subst e1; rw [upN_same]; omega
    · rw [upN_ne _ _ e1] at e; cases e
  · by_cases e1 : c = k
    · subst e1; rw [upN_same] at e; cases e
    · rw [upN_ne _ _ e1] at e; cases e
  · by_cases e1 : c = k
    · subst e1; rw [upN_same] at e; cases e
    · rw [upN_ne _ _ e1] at e; cases e
theorem get130 {A : Array Value} (h : A.size = 130) {j : Nat} (hj : j < 130) : ∃ z, A[j]? = some z := ⟨A[j], Array.getElem?_eq_getElem (by omega)⟩
theorem setI_ne {A : Array Value} {k j : Nat} (z : Value) (h : j ≠ 2 + k) : (A.setIfInBounds (2 + k) z)[j]? = A[j]? := Array.getElem?_setIfInBounds_ne (by omega)
theorem de_setP {R : Nat → Prop} {A : Array Value} {k : Nat} {p : Pr} (h : A.size = 130) (hk : k < 32) : DE R (setP A k p) k 1 p := by
  refine ⟨?_, fun _ => ⟨?_, ?_⟩, fun e => (by cases e)⟩
  · rw [setP, Array.getElem?_setIfInBounds_ne (by omega), Array.getElem?_setIfInBounds_ne (by omega), Array.getElem?_setIfInBounds_self_of_lt (by omega)]; rfl
  · rw [setP, Array.getElem?_setIfInBounds_ne (by omega), Array.getElem?_setIfInBounds_self_of_lt (by simp; omega)]
  · rw [setP, Array.getElem?_setIfInBounds_self_of_lt (by simp; omega)]
theorem de_setK {R : Nat → Prop} {A : Array Value} {k q : Nat} {p : Pr} (h : A.size = 130) (hk : k < 32) (hR : R q) : DE R (setK A k q) k 2 p := by
  refine ⟨?_, fun e => (by cases e), fun _ => ⟨q, ?_, hR⟩⟩
  · rw [setK, Array.getElem?_setIfInBounds_ne (by omega), Array.getElem?_setIfInBounds_self_of_lt (by omega)]; rfl
  · rw [setK, Array.getElem?_setIfInBounds_self_of_lt (by simp; omega)]

set_option maxRecDepth 100000 in
set_option maxHeartbeats 2000000 in
theorem bd_a (w wr : World) (gh g8 g q k : Nat) (h : Hs) (A : Array Value) (p : Pr) (X : List Pr) (hk : k < 32) (H : Hid (BdH w wr gh g8 g q h A p X)) (c d : Code) (K : Act → World → Prop) (Q : Exit → Act → World → Prop) (t0 t1 t2 t3 t4 t6 t7 t9 t10 t12 t15 t16 t17 t18 t19 t20 t21 t22 t23 t24 t25 t26 t27 t28 t29 t30 t31 t32 t33 t34 t35 t36 t37 t38 t39 t40 t41 t42 t43 t44 t45 t46 t47 t48 t49 t50 t51 t52 t53 t54 t55 t56 t57 t58 t59 t60 t61 t62 t63 t64 t65 t66 t67 t68 t69 t70 t71 t72 t73 t74 t75 t76 t77 t78 t79 t80 t81 t82 t83 t84 t85 t86 t87 t88 t89 t90 t91 t92 t93 t94 t95 t96 t97 t98 t99 t100 t101 t102 t103 t104 t105 t106 t107 t108 t109 t110 t111 t112 t113 t114 t115 t116 t117 t118 t119 t120 t121 t122 t123 t124 t125 : Value)
    (hc : (Tryd.f4.body.bind (findR 13)) = some c) (hd : (Tryd.f4.body.bind (findS 14)) = some d)
    (hK : ∀ a w, d.wp Tryd.prog Q a w → K a w)
    (hQ : ∀ (g1 : Nat) (u68 u69 u70 u71 u72 u73 u74 u75 u76 u77 u78 u79 u80 u81 u82 : Value) (wx : World), BdE w wx gh g1 q h → Q .normal { tmps := List.toArray (t0 :: t1 :: t2 :: t3 :: t4 :: (ptr gh) :: t6 :: t7 :: (ptr g8) :: t9 :: t10 :: (ptr g1) :: t12 :: (ptr q) :: (.int .i64 k) :: t15 :: t16 :: t17 :: t18 :: t19 :: t20 :: t21 :: t22 :: t23 :: t24 :: t25 :: t26 :: t27 :: t28 :: t29 :: t30 :: t31 :: t32 :: t33 :: t34 :: t35 :: t36 :: t37 :: t38 :: t39 :: t40 :: t41 :: t42 :: t43 :: t44 :: t45 :: t46 :: t47 :: t48 :: t49 :: t50 :: t51 :: t52 :: t53 :: t54 :: t55 :: t56 :: t57 :: t58 :: t59 :: t60 :: t61 :: t62 :: t63 :: t64 :: t65 :: t66 :: t67 :: u68 :: u69 :: u70 :: u71 :: u72 :: u73 :: u74 :: u75 :: u76 :: u77 :: u78 :: u79 :: u80 :: u81 :: u82 :: t83 :: t84 :: t85 :: t86 :: t87 :: t88 :: t89 :: t90 :: t91 :: t92 :: t93 :: t94 :: t95 :: t96 :: t97 :: t98 :: t99 :: t100 :: t101 :: t102 :: t103 :: t104 :: t105 :: t106 :: t107 :: t108 :: t109 :: t110 :: t111 :: t112 :: t113 :: t114 :: t115 :: t116 :: t117 :: t118 :: t119 :: t120 :: t121 :: t122 :: t123 :: t124 :: t125 :: []), defers := [] } wx) :
    c.wp Tryd.prog (Exit.then K Q) { tmps := List.toArray (t0 :: t1 :: t2 :: t3 :: t4 :: (ptr gh) :: t6 :: t7 :: (ptr g8) :: t9 :: t10 :: (ptr g) :: t12 :: (ptr q) :: (.int .i64 k) :: t15 :: t16 :: t17 :: t18 :: t19 :: t20 :: t21 :: t22 :: t23 :: t24 :: t25 :: t26 :: t27 :: t28 :: t29 :: t30 :: t31 :: t32 :: t33 :: t34 :: t35 :: t36 :: t37 :: t38 :: t39 :: t40 :: t41 :: t42 :: t43 :: t44 :: t45 :: t46 :: t47 :: t48 :: t49 :: t50 :: t51 :: t52 :: t53 :: t54 :: t55 :: t56 :: t57 :: t58 :: t59 :: t60 :: t61 :: t62 :: t63 :: t64 :: t65 :: t66 :: t67 :: t68 :: t69 :: t70 :: t71 :: t72 :: t73 :: t74 :: t75 :: t76 :: t77 :: t78 :: t79 :: t80 :: t81 :: t82 :: t83 :: t84 :: t85 :: t86 :: t87 :: t88 :: t89 :: t90 :: t91 :: t92 :: t93 :: t94 :: t95 :: t96 :: t97 :: t98 :: t99 :: t100 :: t101 :: t102 :: t103 :: t104 :: t105 :: t106 :: t107 :: t108 :: t109 :: t110 :: t111 :: t112 :: t113 :: t114 :: t115 :: t116 :: t117 :: t118 :: t119 :: t120 :: t121 :: t122 :: t123 :: t124 :: t125 :: []), defers := [] } wr := by
  change some _ = some c at hc
  cases hc
  change some _ = some d at hd
  cases hd
  have HQF := Lib.hid hQ
  clear hQ
  obtain ⟨sl, hIn, hsl0⟩ : ∃ sl : List (Slot Nat), In ND wr g sl ∧ ∀ j s, sl[j]? = some s → SlT (isX h.hash X) (pX h.hash X) (fun j q => RN wr (kX h.hash X j) q) j s := TR.rn 13 H.out.tr
  have HSL := Lib.hid hsl0
  clear hsl0
  obtain ⟨b0, b1⟩ := H.out.pr.cells
  have HZ := H.out.zs.size
  have hc1 : (k : Int) < 32 := by omega
  have hc0 : (0 : Int) ≤ (k : Int) := by omega
  repeat' (first | go_at_call 17 | go_skip | go_guarded | go_step)
  refine (setPair_c wr g k sl p hIn hk).mono ?_
  rintro e w2 ⟨g1, rfl, hN2, f2, _⟩
  have H2 : Hid (In ND w2 g1 (sl.set k (.pr p)) ∧ Ext wr w2) := Lib.hid ⟨hN2, f2⟩
  obtain ⟨z0, hz0⟩ := get130 HZ (show 2 + k < 130 by omega)
  obtain ⟨z1, hz1⟩ := get130 HZ (show 34 + k * 2 < 130 by omega)
  obtain ⟨z2, hz2⟩ := get130 HZ (show 34 + k * 2 + 1 < 130 by omega)
  have HB : Hid (w2.heap[q]? = some (.cells A TT (0, 0)) ∧ A[2 + k]? = some z0 ∧ A[34 + k * 2]? = some z1 ∧ A[34 + k * 2 + 1]? = some z2 ∧ w2.cell? ⟨g8, 0, none⟩ = some (str p.1) ∧ w2.cell? ⟨g8, 1, none⟩ = some (str p.2) ∧ g8 ≠ q) := Lib.hid ⟨(f2.block q (heap_lt H.out.hq)).trans H.out.hq, hz0, hz1, hz2, (H.out.pr.ext f2).cells.1, (H.out.pr.ext f2).cells.2, H.out.n8⟩
  clear hN2 f2 hz0 hz1 hz2 hIn b0 b1 HZ
  go_simp
  repeat' (go_not_at_region 14; (first | go_skip | go_guarded | go_step))
  refine bd_14 w2 q k g8 A p z0 z1 z2 hk HB _ _ _ _ _ _ _ _ _ _ _ _ _ _ _ _ _ _ _ _ _ _ _ _ _ _ _ _ _ _ _ _ _ _ _ _ _ _ _ _ _ _ _ _ _ _ _ _ _ _ _ _ _ _ _ _ _ _ _ _ _ _ _ _ _ _ _ _ _ _ _ _ _ _ _ _ _ _ _ _ _ _ _ _ _ _ _ _ _ _ _ _ _ _ _ _ _ _ _ _ _ _ _ _ _ _ _ _ _ _ _ _ _ _ _ _ _ _ _ _ _ _ _ _ _ (by kernel_rfl) ?_
  intro u72 u73 u74 u75 u76 u77 u78 u79 u80 u81 u82 wx hpo
  have HF : Hid (BdE w wx gh g1 q h) := Lib.hid (bd_fin (i' := 1) (p' := p) (k' := .bk []) H.out hk H2.out.2 hpo.2 H2.out.1 HSL.out ⟨upN_same _ _ _, upN_same _ _ _⟩ hpo.1 (setP_ne p (by omega) (by omega) (by omega)) (setP_ne p (by omega) (by omega) (by omega))
    (fun j hj hjk => ⟨setP_ne p (by omega) (by omega) (by omega), setP_ne p (by omega) (by omega) (by omega), setP_ne p (by omega) (by omega) (by omega), setP_ne p (by omega) (by omega) (by omega)⟩) (de_setP H.out.zs.size hk) ⟨fun _ => H.out.ok.2.2, fun e => (by cases e)⟩)
  clear hpo
  repeat' (first | go_skip | go_guarded | go_step)
  exact HQF.out g1 _ _ _ _ _ _ _ _ _ _ _ _ _ _ _ _ HF.out


set_option maxRecDepth 100000 in
set_option maxHeartbeats 2000000 in
theorem bd_b (w wr : World) (gh g8 g q k : Nat) (h : Hs) (A : Array Value) (p : Pr) (X : List Pr) (hk : k < 32) (H : Hid (BdH w wr gh g8 g q h A p X)) (c d : Code) (K : Act → World → Prop) (Q : Exit → Act → World → Prop) (t0 t1 t2 t3 t4 t6 t7 t9 t10 t12 t15 t16 t17 t18 t19 t20 t21 t22 t23 t24 t25 t26 t27 t28 t29 t30 t31 t32 t33 t34 t35 t36 t37 t38 t39 t40 t41 t42 t43 t44 t45 t46 t47 t48 t49 t50 t51 t52 t53 t54 t55 t56 t57 t58 t59 t60 t61 t62 t63 t64 t65 t66 t67 t68 t69 t70 t71 t72 t73 t74 t75 t76 t77 t78 t79 t80 t81 t82 t83 t84 t85 t86 t87 t88 t89 t90 t91 t92 t93 t94 t95 t96 t97 t98 t99 t100 t101 t102 t103 t104 t105 t106 t107 t108 t109 t110 t111 t112 t113 t114 t115 t116 t117 t118 t119 t120 t121 t122 t123 t124 t125 : Value)
    (hc : (Tryd.f4.body.bind (findR 16)) = some c) (hd : (Tryd.f4.body.bind (findS 17)) = some d)
    (hK : ∀ a w, d.wp Tryd.prog Q a w → K a w)
    (hQ : ∀ (g1 : Nat) (u85 u86 u87 u88 u89 u90 u91 u92 : Value) (wx : World), BdE w wx gh g1 q h → Q .normal { tmps := List.toArray (t0 :: t1 :: t2 :: t3 :: t4 :: (ptr gh) :: t6 :: t7 :: (ptr g8) :: t9 :: t10 :: (ptr g1) :: t12 :: (ptr q) :: (.int .i64 k) :: t15 :: t16 :: t17 :: t18 :: t19 :: t20 :: t21 :: t22 :: t23 :: t24 :: t25 :: t26 :: t27 :: t28 :: t29 :: t30 :: t31 :: t32 :: t33 :: t34 :: t35 :: t36 :: t37 :: t38 :: t39 :: t40 :: t41 :: t42 :: t43 :: t44 :: t45 :: t46 :: t47 :: t48 :: t49 :: t50 :: t51 :: t52 :: t53 :: t54 :: t55 :: t56 :: t57 :: t58 :: t59 :: t60 :: t61 :: t62 :: t63 :: t64 :: t65 :: t66 :: t67 :: t68 :: t69 :: t70 :: t71 :: t72 :: t73 :: t74 :: t75 :: t76 :: t77 :: t78 :: t79 :: t80 :: t81 :: t82 :: t83 :: t84 :: u85 :: u86 :: u87 :: u88 :: u89 :: u90 :: u91 :: u92 :: t93 :: t94 :: t95 :: t96 :: t97 :: t98 :: t99 :: t100 :: t101 :: t102 :: t103 :: t104 :: t105 :: t106 :: t107 :: t108 :: t109 :: t110 :: t111 :: t112 :: t113 :: t114 :: t115 :: t116 :: t117 :: t118 :: t119 :: t120 :: t121 :: t122 :: t123 :: t124 :: t125 :: []), defers := [] } wx) :
    c.wp Tryd.prog (Exit.then K Q) { tmps := List.toArray (t0 :: t1 :: t2 :: t3 :: t4 :: (ptr gh) :: t6 :: t7 :: (ptr g8) :: t9 :: t10 :: (ptr g) :: t12 :: (ptr q) :: (.int .i64 k) :: t15 :: t16 :: t17 :: t18 :: t19 :: t20 :: t21 :: t22 :: t23 :: t24 :: t25 :: t26 :: t27 :: t28 :: t29 :: t30 :: t31 :: t32 :: t33 :: t34 :: t35 :: t36 :: t37 :: t38 :: t39 :: t40 :: t41 :: t42 :: t43 :: t44 :: t45 :: t46 :: t47 :: t48 :: t49 :: t50 :: t51 :: t52 :: t53 :: t54 :: t55 :: t56 :: t57 :: t58 :: t59 :: t60 :: t61 :: t62 :: t63 :: t64 :: t65 :: t66 :: t67 :: t68 :: t69 :: t70 :: t71 :: t72 :: t73 :: t74 :: t75 :: t76 :: t77 :: t78 :: t79 :: t80 :: t81 :: t82 :: t83 :: t84 :: t85 :: t86 :: t87 :: t88 :: t89 :: t90 :: t91 :: t92 :: t93 :: t94 :: t95 :: t96 :: t97 :: t98 :: t99 :: t100 :: t101 :: t102 :: t103 :: t104 :: t105 :: t106 :: t107 :: t108 :: t109 :: t110 :: t111 :: t112 :: t113 :: t114 :: t115 :: t116 :: t117 :: t118 :: t119 :: t120 :: t121 :: t122 :: t123 :: t124 :: t125 :: []), defers := [] } wr := by
  change some _ = some c at hc
  cases hc
  change some _ = some d at hd
  cases hd
  have HQF := Lib.hid hQ
  clear hQ
  obtain ⟨sl, hIn, hsl0⟩ : ∃ sl : List (Slot Nat), In ND wr g sl ∧ ∀ j s, sl[j]? = some s → SlT (isX h.hash X) (pX h.hash X) (fun j q => RN wr (kX h.hash X j) q) j s := TR.rn 13 H.out.tr
  have HSL := Lib.hid hsl0
  clear hsl0
  obtain ⟨b0, b1⟩ := H.out.pr.cells
  have HZ := H.out.zs.size
  have hc1 : (k : Int) < 32 := by omega
  have hc0 : (0 : Int) ≤ (k : Int) := by omega
  repeat' (first | go_at_call 18 | go_skip | go_guarded | go_step)
  refine (clear_c wr g k sl hIn hk).mono ?_
  rintro e w2 ⟨g1, rfl, hN2, f2, _⟩
  have H2 : Hid (In ND w2 g1 (sl.set k .no) ∧ Ext wr w2) := Lib.hid ⟨hN2, f2⟩
  obtain ⟨z0, hz0⟩ := get130 HZ (show 2 + k < 130 by omega)
  have hq2 : w2.heap[q]? = some (.cells A TT (0, 0)) := (f2.block q (heap_lt H.out.hq)).trans H.out.hq
  have c0 := cell_at hq2 hz0
  have cf : ∀ j, w2.frozen? ⟨q, j, none⟩ = false := fun j => by simp [World.frozen?, hq2]
  have HP : Hid (BdE w (w2.setCell ⟨q, 2 + k, none⟩ (.int .i64 0)) gh g1 q h) := Lib.hid (bd_fin (i' := 0) (p' := p) (k' := .bk []) H.out hk H2.out.2 ((Only.refl w2).setCell (p := ⟨q, 2 + k, none⟩) (S := fun b => b = q) (.inl rfl) _) H2.out.1 HSL.out ⟨by rw [upN_same]; decide, by rw [upN_same]; decide⟩ (heap_set hq2 (2 + k) (.int .i64 0)) (setI_ne _ (by omega)) (setI_ne _ (by omega))
    (fun j hj hjk => ⟨setI_ne _ (by omega), setI_ne _ (by omega), setI_ne _ (by omega), setI_ne _ (by omega)⟩) ⟨Array.getElem?_setIfInBounds_self_of_lt (by have := H.out.zs.size; omega), fun e => (by cases e), fun e => (by cases e)⟩ ⟨fun e => (by cases e), fun e => (by cases e)⟩)
  clear hN2 f2 hz0 hIn b0 b1 HZ hq2
  go_simp
  repeat' (first | go_skip | go_guarded | go_step)
  exact HQF.out g1 _ _ _ _ _ _ _ _ _ HP.out


set_option maxRecDepth 100000 in
set_option maxHeartbeats 2000000 in
theorem bd_c (w wr : World) (gh g8 g q k : Nat) (h : Hs) (A : Array Value) (p : Pr) (X : List Pr) (hk : k < 32) (H : Hid (BdH w wr gh g8 g q h A p X)) (c d : Code) (K : Act → World → Prop) (Q : Exit → Act → World → Prop) (t0 t1 t2 t3 t4 t6 t7 t9 t10 t12 t15 t16 t17 t18 t19 t20 t21 t22 t23 t24 t25 t26 t27 t28 t29 t30 t31 t32 t33 t34 t35 t36 t37 t38 t39 t40 t41 t42 t43 t44 t45 t46 t47 t48 t49 t50 t51 t52 t53 t54 t55 t56 t57 t58 t59 t60 t61 t62 t63 t64 t65 t66 t67 t68 t69 t70 t71 t72 t73 t74 t75 t76 t77 t78 t79 t80 t81 t82 t83 t84 t85 t86 t87 t88 t89 t90 t91 t92 t93 t94 t95 t96 t97 t98 t99 t100 t101 t102 t103 t104 t105 t106 t107 t108 t109 t110 t111 t112 t113 t114 t115 t116 t117 t118 t119 t120 t121 t122 t123 t124 t125 : Value)
    (hc : (Tryd.f4.body.bind (findR 19)) = some c) (hd : (Tryd.f4.body.bind (findS 20)) = some d)
    (hK : ∀ a w, d.wp Tryd.prog Q a w → K a w)
    (hQ : ∀ (g1 : Nat) (u95 u96 u97 u98 u99 u100 u101 u102 u103 u104 u105 u106 u107 u108 u109 u110 : Value) (wx : World), BdE w wx gh g1 q h → Q .normal { tmps := List.toArray (t0 :: t1 :: t2 :: t3 :: t4 :: (ptr gh) :: t6 :: t7 :: (ptr g8) :: t9 :: t10 :: (ptr g1) :: t12 :: (ptr q) :: (.int .i64 k) :: t15 :: t16 :: t17 :: t18 :: t19 :: t20 :: t21 :: t22 :: t23 :: t24 :: t25 :: t26 :: t27 :: t28 :: t29 :: t30 :: t31 :: t32 :: t33 :: t34 :: t35 :: t36 :: t37 :: t38 :: t39 :: t40 :: t41 :: t42 :: t43 :: t44 :: t45 :: t46 :: t47 :: t48 :: t49 :: t50 :: t51 :: t52 :: t53 :: t54 :: t55 :: t56 :: t57 :: t58 :: t59 :: t60 :: t61 :: t62 :: t63 :: t64 :: t65 :: t66 :: t67 :: t68 :: t69 :: t70 :: t71 :: t72 :: t73 :: t74 :: t75 :: t76 :: t77 :: t78 :: t79 :: t80 :: t81 :: t82 :: t83 :: t84 :: t85 :: t86 :: t87 :: t88 :: t89 :: t90 :: t91 :: t92 :: t93 :: t94 :: u95 :: u96 :: u97 :: u98 :: u99 :: u100 :: u101 :: u102 :: u103 :: u104 :: u105 :: u106 :: u107 :: u108 :: u109 :: u110 :: t111 :: t112 :: t113 :: t114 :: t115 :: t116 :: t117 :: t118 :: t119 :: t120 :: t121 :: t122 :: t123 :: t124 :: t125 :: []), defers := [] } wx) :
    c.wp Tryd.prog (Exit.then K Q) { tmps := List.toArray (t0 :: t1 :: t2 :: t3 :: t4 :: (ptr gh) :: t6 :: t7 :: (ptr g8) :: t9 :: t10 :: (ptr g) :: t12 :: (ptr q) :: (.int .i64 k) :: t15 :: t16 :: t17 :: t18 :: t19 :: t20 :: t21 :: t22 :: t23 :: t24 :: t25 :: t26 :: t27 :: t28 :: t29 :: t30 :: t31 :: t32 :: t33 :: t34 :: t35 :: t36 :: t37 :: t38 :: t39 :: t40 :: t41 :: t42 :: t43 :: t44 :: t45 :: t46 :: t47 :: t48 :: t49 :: t50 :: t51 :: t52 :: t53 :: t54 :: t55 :: t56 :: t57 :: t58 :: t59 :: t60 :: t61 :: t62 :: t63 :: t64 :: t65 :: t66 :: t67 :: t68 :: t69 :: t70 :: t71 :: t72 :: t73 :: t74 :: t75 :: t76 :: t77 :: t78 :: t79 :: t80 :: t81 :: t82 :: t83 :: t84 :: t85 :: t86 :: t87 :: t88 :: t89 :: t90 :: t91 :: t92 :: t93 :: t94 :: t95 :: t96 :: t97 :: t98 :: t99 :: t100 :: t101 :: t102 :: t103 :: t104 :: t105 :: t106 :: t107 :: t108 :: t109 :: t110 :: t111 :: t112 :: t113 :: t114 :: t115 :: t116 :: t117 :: t118 :: t119 :: t120 :: t121 :: t122 :: t123 :: t124 :: t125 :: []), defers := [] } wr := by
  change some _ = some c at hc
  cases hc
  change some _ = some d at hd
  cases hd
  have HQF := Lib.hid hQ
  clear hQ
  obtain ⟨sl, hIn, hsl0⟩ : ∃ sl : List (Slot Nat), In ND wr g sl ∧ ∀ j s, sl[j]? = some s → SlT (isX h.hash X) (pX h.hash X) (fun j q => RN wr (kX h.hash X j) q) j s := TR.rn 13 H.out.tr
  have HSL := Lib.hid hsl0
  clear hsl0
  obtain ⟨b0, b1⟩ := H.out.pr.cells
  have HZ := H.out.zs.size
  have hc1 : (k : Int) < 32 := by omega
  have hc0 : (0 : Int) ≤ (k : Int) := by omega
  have HNW : Hid (∀ W, Ext wr W → ∀ b, W.heap.size ≤ b → S9 b) := Lib.hid (fun W f b hb => by obtain ⟨_, _, _, _, nd⟩ := hIn; exact nd.nw b (Nat.le_trans f.size hb))
  repeat' (first | go_at_call 20 | go_skip | go_guarded | go_step)
  refine (inner0_c wr (HNW.out wr (Ext.refl _))).mono ?_
  rintro e w1 ⟨gk, rfl, hNk, f1, _⟩
  have H1 : Hid (In ND w1 gk (sl0 Nat) ∧ Ext wr w1) := Lib.hid ⟨hNk, f1⟩
  have hIn1 := hIn.ext f1
  clear hNk f1
  go_simp
  repeat' (first | go_at_call 19 | go_skip | go_guarded | go_step)
  refine (setKid_c w1 g k gk sl hIn1 hk).mono ?_
  rintro e w2 ⟨g1, rfl, hN2, f2, _⟩
  have H2 : Hid (In ND w2 g1 (sl.set k (.kid gk)) ∧ Ext wr w2 ∧ RN w2 nt0 gk) := Lib.hid ⟨hN2, H1.out.2.trans f2, RN.nt0 (H1.out.1.ext f2)⟩
  obtain ⟨z0, hz0⟩ := get130 HZ (show 2 + k < 130 by omega)
  obtain ⟨z1, hz1⟩ := get130 HZ (show 98 + k < 130 by omega)
  have HB : Hid (w2.heap[q]? = some (.cells A TT (0, 0)) ∧ A[2 + k]? = some z0 ∧ A[98 + k]? = some z1) := Lib.hid ⟨(H2.out.2.1.block q (heap_lt H.out.hq)).trans H.out.hq, hz0, hz1⟩
  clear hN2 f2 hz0 hz1 hIn hIn1 b0 b1 HZ
  go_simp
  repeat' (go_not_at_region 20; (first | go_skip | go_guarded | go_step))
  refine bd_20 w2 q k A z0 z1 hk HB _ _ _ _ _ _ _ _ _ _ _ _ _ _ _ _ _ _ _ _ _ _ _ _ _ _ _ _ _ _ _ _ _ _ _ _ _ _ _ _ _ _ _ _ _ _ _ _ _ _ _ _ _ _ _ _ _ _ _ _ _ _ _ _ _ _ _ _ _ _ _ _ _ _ _ _ _ _ _ _ _ _ _ _ _ _ _ _ _ _ _ _ _ _ _ _ _ _ _ _ _ _ _ _ _ _ _ _ _ _ _ _ _ _ _ _ _ _ _ _ _ _ _ _ _ _ (by kernel_rfl) ?_
  intro u99 u100 u101 u102 u103 u104 u105 u106 u107 u108 u109 u110 wx hpo
  have HF : Hid (BdE w wx gh g1 q h) := Lib.hid (by
    obtain ⟨q2, p1, p2, p3, p4, p5⟩ := hpo
    exact bd_fin (i' := 2) (p' := p) (k' := nt0) H.out hk H2.out.2.1 p5 H2.out.1 HSL.out ⟨upN_same _ _ _, by show RN w2 (upN (kX h.hash X) k nt0 k) gk; rw [upN_same]; exact H2.out.2.2⟩ p1 (setK_ne q2 (by omega) (by omega)) (setK_ne q2 (by omega) (by omega))
      (fun j hj hjk => ⟨setK_ne q2 (by omega) (by omega), setK_ne q2 (by omega) (by omega), setK_ne q2 (by omega) (by omega), setK_ne q2 (by omega) (by omega)⟩) (de_setK H.out.zs.size hk (dn_zero p2)) (kd9_0 p))
  clear hpo
  repeat' (first | go_skip | go_guarded | go_step)
  exact HQF.out g1 _ _ _ _ _ _ _ _ _ _ _ _ _ _ _ _ _ HF.out


theorem RN.nt0_sl {c : Nat} {s : Slot Nat} (hs : (sl0 Nat)[c]? = some s) : s = .no := by
  unfold sl0 at hs
  rw [List.getElem?_replicate] at hs
  by_cases hc : c < 32
  · rw [if_pos hc] at hs; cases hs; rfl
  · rw [if_neg hc] at hs; cases hs
set_option maxRecDepth 100000 in
set_option maxHeartbeats 2000000 in
theorem bd_d (w wr : World) (gh g8 g q k : Nat) (h : Hs) (A : Array Value) (p : Pr) (X : List Pr) (hk : k < 32) (H : Hid (BdH w wr gh g8 g q h A p X)) (c d : Code) (K : Act → World → Prop) (Q : Exit → Act → World → Prop) (t0 t1 t2 t3 t4 t6 t7 t9 t10 t12 t15 t16 t17 t18 t19 t20 t21 t22 t23 t24 t25 t26 t27 t28 t29 t30 t31 t32 t33 t34 t35 t36 t37 t38 t39 t40 t41 t42 t43 t44 t45 t46 t47 t48 t49 t50 t51 t52 t53 t54 t55 t56 t57 t58 t59 t60 t61 t62 t63 t64 t65 t66 t67 t68 t69 t70 t71 t72 t73 t74 t75 t76 t77 t78 t79 t80 t81 t82 t83 t84 t85 t86 t87 t88 t89 t90 t91 t92 t93 t94 t95 t96 t97 t98 t99 t100 t101 t102 t103 t104 t105 t106 t107 t108 t109 t110 t111 t112 t113 t114 t115 t116 t117 t118 t119 t120 t121 t122 t123 t124 t125 : Value)
    (hc : (Tryd.f4.body.bind (findR 8)) = some c) (hd : (Tryd.f4.body.bind (findS 9)) = some d)
    (hK : ∀ a w, d.wp Tryd.prog Q a w → K a w)
    (hQ : ∀ (g1 : Nat) (u15 u35 u36 u37 u38 u39 u40 u41 u42 u43 u44 u45 u46 u47 u48 u49 u50 u51 u52 u53 u54 u55 u56 u57 u58 u59 u60 u61 u62 u63 u64 u65 : Value) (wx : World), BdE w wx gh g1 q h → Q .normal { tmps := List.toArray (t0 :: t1 :: t2 :: t3 :: t4 :: (ptr gh) :: t6 :: t7 :: (ptr g8) :: t9 :: t10 :: (ptr g1) :: t12 :: (ptr q) :: (.int .i64 k) :: u15 :: t16 :: t17 :: t18 :: t19 :: t20 :: t21 :: t22 :: t23 :: t24 :: t25 :: t26 :: t27 :: t28 :: t29 :: t30 :: t31 :: t32 :: t33 :: t34 :: u35 :: u36 :: u37 :: u38 :: u39 :: u40 :: u41 :: u42 :: u43 :: u44 :: u45 :: u46 :: u47 :: u48 :: u49 :: u50 :: u51 :: u52 :: u53 :: u54 :: u55 :: u56 :: u57 :: u58 :: u59 :: u60 :: u61 :: u62 :: u63 :: u64 :: u65 :: t66 :: t67 :: t68 :: t69 :: t70 :: t71 :: t72 :: t73 :: t74 :: t75 :: t76 :: t77 :: t78 :: t79 :: t80 :: t81 :: t82 :: t83 :: t84 :: t85 :: t86 :: t87 :: t88 :: t89 :: t90 :: t91 :: t92 :: t93 :: t94 :: t95 :: t96 :: t97 :: t98 :: t99 :: t100 :: t101 :: t102 :: t103 :: t104 :: t105 :: t106 :: t107 :: t108 :: t109 :: t110 :: t111 :: t112 :: t113 :: t114 :: t115 :: t116 :: t117 :: t118 :: t119 :: t120 :: t121 :: t122 :: t123 :: t124 :: t125 :: []), defers := [] } wx) :
    c.wp Tryd.prog (Exit.then K Q) { tmps := List.toArray (t0 :: t1 :: t2 :: t3 :: t4 :: (ptr gh) :: t6 :: t7 :: (ptr g8) :: t9 :: t10 :: (ptr g) :: t12 :: (ptr q) :: (.int .i64 k) :: t15 :: t16 :: t17 :: t18 :: t19 :: t20 :: t21 :: t22 :: t23 :: t24 :: t25 :: t26 :: t27 :: t28 :: t29 :: t30 :: t31 :: t32 :: t33 :: t34 :: t35 :: t36 :: t37 :: t38 :: t39 :: t40 :: t41 :: t42 :: t43 :: t44 :: t45 :: t46 :: t47 :: t48 :: t49 :: t50 :: t51 :: t52 :: t53 :: t54 :: t55 :: t56 :: t57 :: t58 :: t59 :: t60 :: t61 :: t62 :: t63 :: t64 :: t65 :: t66 :: t67 :: t68 :: t69 :: t70 :: t71 :: t72 :: t73 :: t74 :: t75 :: t76 :: t77 :: t78 :: t79 :: t80 :: t81 :: t82 :: t83 :: t84 :: t85 :: t86 :: t87 :: t88 :: t89 :: t90 :: t91 :: t92 :: t93 :: t94 :: t95 :: t96 :: t97 :: t98 :: t99 :: t100 :: t101 :: t102 :: t103 :: t104 :: t105 :: t106 :: t107 :: t108 :: t109 :: t110 :: t111 :: t112 :: t113 :: t114 :: t115 :: t116 :: t117 :: t118 :: t119 :: t120 :: t121 :: t122 :: t123 :: t124 :: t125 :: []), defers := [] } wr := by
  change some _ = some c at hc
  cases hc
  change some _ = some d at hd
  cases hd
  have HQF := Lib.hid hQ
  clear hQ
  obtain ⟨sl, hIn, hsl0⟩ : ∃ sl : List (Slot Nat), In ND wr g sl ∧ ∀ j s, sl[j]? = some s → SlT (isX h.hash X) (pX h.hash X) (fun j q => RN wr (kX h.hash X j) q) j s := TR.rn 13 H.out.tr
  have HSL := Lib.hid hsl0
  clear hsl0
  obtain ⟨b0, b1⟩ := H.out.pr.cells
  have HZ := H.out.zs.size
  have hc1 : (k : Int) < 32 := by omega
  have hc0 : (0 : Int) ≤ (k : Int) := by omega
  have HNW : Hid (∀ W, Ext wr W → ∀ b, W.heap.size ≤ b → S9 b) := Lib.hid (fun W f b hb => by obtain ⟨_, _, _, _, nd⟩ := hIn; exact nd.nw b (Nat.le_trans f.size hb))
  have HIn := Lib.hid hIn
  have HcS : Hid (∀ W, Ext wr W → (fun w' : World => w'.cell? ⟨g8, 0, none⟩ = some (str p.1) ∧ w'.cell? ⟨g8, 1, none⟩ = some (str p.2)) W) := Lib.hid (fun W f => (H.out.pr.ext f).cells)
  clear hIn
  repeat' (go_not_at_region 8; (first | go_skip | go_guarded | go_step))
  go_region_held3 (fun w' : World => w'.cell? ⟨g8, 0, none⟩ = some (str p.1) ∧ w'.cell? ⟨g8, 1, none⟩ = some (str p.2))
    (first | exact HcS.out _ k3.out | exact HcS.out _ k2.out | exact HcS.out _ k1.out | exact HcS.out _ (ext_drew (Ext.refl _)))
    (first
      | (go_at_call 19; have mz := k2; clear mz; refine (setKid_c _ g k g1 sl (HIn.out.ext k2.out) hk).mono ?_; rintro e x3 ⟨g2, rfl, n3, f3, _⟩; have K3 : Hid (In ND x3 g2 (sl.set k (.kid g1)) ∧ In ND x3 g1 ((sl0 Nat).set k (.pr p))) := Lib.hid ⟨n3, K2.out.ext f3⟩; have k3 : Hid (Ext wr x3) := Lib.hid (Ext.trans k2.out f3); clear f3 n3)
      | (go_at_call 17; have mz := k1; clear mz; refine (setPair_c _ gk k (sl0 Nat) p K1.out hk).mono ?_; rintro e x2 ⟨g1, rfl, n2, f2, _⟩; have K2 := Lib.hid n2; have k2 : Hid (Ext wr x2) := Lib.hid (Ext.trans k1.out f2); clear f2 n2)
      | (go_at_call 20; refine (inner0_c _ (HNW.out _ (ext_drew (Ext.refl _)))).mono ?_; rintro e x1 ⟨gk, rfl, n1, f1, _⟩; have K1 := Lib.hid n1; have k1 : Hid (Ext wr x1) := Lib.hid (Ext.trans (ext_drew (Ext.refl _)) f1); clear f1 n1))
  clear HcS HNW HIn b0 b1
  repeat' (go_not_at_region 10; (first | go_skip | go_guarded | go_step))
  obtain ⟨q2, hq2⟩ : ∃ q2, q2 = x3.heap.size := ⟨_, rfl⟩
  rw [← hq2]
  refine wp_nameS (fun w' => w'.heap[q2]? = some (.cells Tryd.zeroCells57 TT (0, 0)) ∧ Ext x3 w' ∧ x3.heap.size ≤ q2) ⟨by rw [hq2]; exact heap_new x3 _, (Ext.refl x3).alloc (Nat.le_refl _) _, by omega⟩ ?_
  clear hq2
  intro w3 H3
  obtain ⟨z0, hz0⟩ := get130 zs0.size (show 2 + k < 130 by omega)
  obtain ⟨z1, hz1⟩ := get130 zs0.size (show 34 + k * 2 < 130 by omega)
  obtain ⟨z2, hz2⟩ := get130 zs0.size (show 34 + k * 2 + 1 < 130 by omega)
  have hqx : q < x3.heap.size := Nat.lt_of_lt_of_le (heap_lt H.out.hq) k3.out.size
  have h8x : g8 < x3.heap.size := Nat.lt_of_lt_of_le (heap_lt H.out.pr) k3.out.size
  have hne : q2 ≠ q := by have := H3.out.2.2; omega
  have E3 : Ext wr w3 := Ext.trans k3.out H3.out.2.1
  have HB : Hid (w3.heap[q2]? = some (.cells Tryd.zeroCells57 TT (0, 0)) ∧ Tryd.zeroCells57[2 + k]? = some z0 ∧ Tryd.zeroCells57[34 + k * 2]? = some z1 ∧ Tryd.zeroCells57[34 + k * 2 + 1]? = some z2 ∧ w3.cell? ⟨g8, 0, none⟩ = some (str p.1) ∧ w3.cell? ⟨g8, 1, none⟩ = some (str p.2) ∧ g8 ≠ q2) := Lib.hid ⟨H3.out.1, hz0, hz1, hz2, (H.out.pr.ext E3).cells.1, (H.out.pr.ext E3).cells.2, by have := H3.out.2.2; omega⟩
  have HE3 := Lib.hid E3
  clear hz0 hz1 hz2 E3
  refine bd_10 w3 q2 k g8 _ p z0 z1 z2 hk HB _ _ _ _ _ _ _ _ _ _ _ _ _ _ _ _ _ _ _ _ _ _ _ _ _ _ _ _ _ _ _ _ _ _ _ _ _ _ _ _ _ _ _ _ _ _ _ _ _ _ _ _ _ _ _ _ _ _ _ _ _ _ _ _ _ _ _ _ _ _ _ _ _ _ _ _ _ _ _ _ _ _ _ _ _ _ _ _ _ _ _ _ _ _ _ _ _ _ _ _ _ _ _ _ _ _ _ _ _ _ _ _ _ _ _ _ _ _ _ _ _ _ _ _ _ (by kernel_rfl) ?_
  intro u44 u45 u46 u47 u48 u49 u50 u51 u52 u53 u54 w4 hpo
  have E4 : Ext x3 w4 := ((Only.of_ext H3.out.2.1).trans' (T := fun b => b = q2) (S := fun b => b = q2) hpo.2 (fun _ _ e => e)).ext (fun i hi e => by have := H3.out.2.2; omega)
  have H4 : Hid (Ext x3 w4 ∧ w4.heap[q2]? = some (.cells (setP Tryd.zeroCells57 k p) TT (0, 0))) := Lib.hid ⟨E4, hpo.1⟩
  clear E4 hpo
  have E5 : Ext wr w4 := Ext.trans k3.out H4.out.1
  obtain ⟨z3, hz3⟩ := get130 HZ (show 2 + k < 130 by omega)
  obtain ⟨z4, hz4⟩ := get130 HZ (show 98 + k < 130 by omega)
  have HC : Hid (w4.heap[q]? = some (.cells A TT (0, 0)) ∧ A[2 + k]? = some z3 ∧ A[98 + k]? = some z4) := Lib.hid ⟨(E5.block q (heap_lt H.out.hq)).trans H.out.hq, hz3, hz4⟩
  have HE5 := Lib.hid E5
  clear hz3 hz4 E5 HZ
  repeat' (go_not_at_region 11; (first | go_skip | go_guarded | go_step))
  refine bd_11 w4 q k q2 A z3 z4 hk HC _ _ _ _ _ _ _ _ _ _ _ _ _ _ _ _ _ _ _ _ _ _ _ _ _ _ _ _ _ _ _ _ _ _ _ _ _ _ _ _ _ _ _ _ _ _ _ _ _ _ _ _ _ _ _ _ _ _ _ _ _ _ _ _ _ _ _ _ _ _ _ _ _ _ _ _ _ _ _ _ _ _ _ _ _ _ _ _ _ _ _ _ _ _ _ _ _ _ _ _ _ _ _ _ _ _ _ _ _ _ _ _ _ _ _ _ _ _ _ _ _ _ _ _ _ (by kernel_rfl) ?_
  intro u55 u56 u57 u58 u59 u60 u61 u62 u63 u64 u65 wx hpo
  have HF : Hid (BdE w wx gh g2 q h) := Lib.hid (by
    have hd : DN wx (nt1 k p) q2 := dn_one hk (hpo.2.heap H4.out.2 hne)
    have hN1 : RN w4 (nt1 k p) g1 := RN.bend (is := fun _ => 0) (p := fun _ => ([], [])) (k := fun _ => .bk []) (w := x3) (c := k) (i' := 1) (p' := p) (k' := .bk []) (s' := .pr p) (sl := sl0 Nat) H4.out.1 (K3.out.2.ext H4.out.1) (fun j s hs => by
      have hn := RN.nt0_sl hs
      subst hn
      exact ⟨(by show (0 : Nat) ≠ 1; decide), (by show (0 : Nat) ≠ 2; decide)⟩) ⟨upN_same _ _ _, upN_same _ _ _⟩ |> fun h => by
        have e : upN (fun _ => NT.bk []) k (.bk []) = fun _ => .bk [] := by funext j; unfold upN; split <;> rfl
        rw [e] at h; exact h
    exact bd_fin (i' := 2) (p' := p) (k' := nt1 k p) H.out hk HE5.out hpo.2 (K3.out.1.ext H4.out.1) HSL.out ⟨upN_same _ _ _, by show RN w4 (upN (kX h.hash X) k (nt1 k p) k) g1; rw [upN_same]; exact hN1⟩ hpo.1 (setK_ne q2 (by omega) (by omega)) (setK_ne q2 (by omega) (by omega))
      (fun j hj hjk => ⟨setK_ne q2 (by omega) (by omega), setK_ne q2 (by omega) (by omega), setK_ne q2 (by omega) (by omega), setK_ne q2 (by omega) (by omega)⟩) (de_setK H.out.zs.size hk hd) (kd9_1 p p hk H.out.ok.2.2))
  clear hpo
  repeat' (first | go_skip | go_guarded | go_step)
  exact HQF.out g2 _ _ _ _ _ _ _ _ _ _ _ _ _ _ _ _ _ _ _ _ _ _ _ _ _ _ _ _ _ _ _ _ _ HF.out

end Go.Proofs.YtclcgelbcbnekaaDoor
