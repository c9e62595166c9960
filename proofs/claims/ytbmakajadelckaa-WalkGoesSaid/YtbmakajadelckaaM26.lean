/- Texts joined. -/
import Derived.Test.YtbmakajadelckaaWlp
import Derived.Test.YtbmakajadelckaaWln
import Derived.Deep.QuietTactic
import Derived.RangeFuncNested
import Derived.Test.YtbmakajadelckaaM03
set_option linter.unusedVariables false
set_option linter.unusedSimpArgs false
/- Contracts: the document's walk of any trie; a cursor's Depth; law 8's goes. -/
namespace Go.Proofs.Ytbmakajadelckaa
open Go.RowKit Go.QS Go.QS.Nk
set_option linter.unusedVariables false

theorem all_c {H : List UInt8 → Nat} {w : World} : ∀ (f q : Nat) (l : List Pr) (d : Nat), DR H w f q l → l.length ≤ 100000 → d + f ≤ 1000 → AllR w d q (walkT (trieOf H f l) d)
  | 0, q, l, d, ⟨A, v, hq, a0, a1, hP, hZ⟩, h9, hd => by
    refine all_go H 0 w q d A v l (List.replicate 32 []) hq a1 hP (by simp) (fun c x hx => ?_) (by omega) _ ?_ (by rw [walk_len]; omega)
    · rw [List.getElem?_replicate] at hx
      split at hx
      · rename_i hc
        cases hx
        exact .inl ⟨rfl, hZ c hc⟩
      · cases hx
    · rw [walkT_eq]
      have e1 : ones (List.replicate 32 ([] : List Pr)) = [] := rfl
      have e2 : twos (List.replicate 32 ([] : List Pr)) = [] := rfl
      rw [e1, e2]
      simp [trieOf, walkL]
  | f + 1, q, l, d, ⟨A, hq, a0, hE, hL⟩, h9, hd => by
    refine all_go H f w q d A (.slice none 0 0) [] (parts H (12 - f) l) hq hL (Sl.nil _ _) (parts_length _ _ _) (fun c x hx => ?_) (by omega) _ ?_ (by rw [walk_len]; omega)
    · have hc : c < 32 := by have := (List.getElem?_eq_some_iff.1 hx).1; rw [parts_length] at this; exact this
      rw [parts_get H _ l hc] at hx
      cases hx
      refine (hE c hc).mono ?_
      intro q' hR
      exact all_c f q' _ (d + 1) hR (Nat.le_trans part_length h9) (by omega)
    · rw [walkT_eq]
      simp [trieOf]

set_option maxRecDepth 100000 in
theorem depth_c {W0 w : World} {c : Nat} {V : Value} {ms : List Fm} {st : List Fp} {d : Nat} (h : Cur W0 w c V ms st d) : Calls Try.prog 17 #[ptr c] w fun e w' => e = .returned (.int .i64 (d : Int)) ∧ w' = w := by
  have c1 : w.cell? ⟨c, 1, none⟩ = some (.int .i64 (d : Int)) := by have := h.cell; simp [World.cell?, this]
  clear h
  go_enter Try.func17, Try.ntmps17
  repeat' (first | go_skip | go_guarded | go_step)
  go_ret
  exact ⟨rfl, rfl⟩
theorem neqS (p : Pr) (w : World) : (binOp .neq 36 (.agg #[str p.1, str p.2]) (.agg #[str p.1, str p.2])).run Try.prog w = .ok (.bool false) w := by
  obtain ⟨a, b⟩ := p
  simp [go_sem]

set_option maxRecDepth 100000 in
set_option maxHeartbeats 2000000 in
theorem goes_c (W0 w : World) (c : Nat) (V : Value) (ms : List Fm) (st : List Fp) (d : Nat) (L : List (Pr × Nat)) (vs : Value) (h : Cur W0 w c V ms st d) (hw9 : wtB st ≤ 1000000) (hL : comB st 1 = L) (hs : Sl W0 3 vs L.length (flatS L)) (h9 : L.length ≤ 1000000) :
    Calls Try.prog 16 #[ptr c, vs] w fun e w' => e = .returned (.bool true) ∧ Ext W0 w' ∧ TwoW c V w w' := by
  obtain ⟨A, C, rfl, _, hn, hC9, hsg⟩ := hs
  obtain ⟨n, hnl⟩ : ∃ n, n = L.length := ⟨_, rfl⟩
  rw [← hnl] at hn ⊢
  have HH := Lib.hid (And.intro h (And.intro hL (And.intro hsg hnl)))
  have hn9 : n ≤ 1000000 := by omega
  clear h hL hsg hnl
  go_enter Try.func16, Try.ntmps16
  repeat' (go_not_at_region 2; (first | go_skip | go_guarded | go_step))
  go_loopg [6, 7, 8, 13] n (fun gk v6 v7 v8 v13 wr => ∃ (i : Nat) (V1 : Value) (ms1 : List Fm) (st1 : List Fp) (d1 : Nat), v13 = .int .i64 i ∧ i ≤ n ∧ n - i ≤ gk ∧ wtB st1 ≤ wtB st ∧ Hid (Cur W0 wr c V1 ms1 st1 d1 ∧ comB st1 1 = L.drop i ∧ TwoW c V w wr ∧ NewW w V V1))
  case atStart => exact ⟨0, V, ms, st, d, rfl, Nat.zero_le _, by omega, Nat.le_refl _, Lib.hid ⟨HH.out.1, by rw [List.drop_zero]; exact HH.out.2.1, Only.refl _, NewW.refl _ _⟩⟩
  case round =>
    obtain ⟨i, V1, ms1, st1, d1, rfl, hi, hgk, hwt, HI⟩ := hrel
    rcases Nat.lt_or_ge i n with hlt | hge
    · have e1 : decide (i < n) = true := by simp [hlt]
      have hi1 : (i : Int) < (n : Int) := by omega
      obtain ⟨s, hs⟩ := get_of_lt L (show i < L.length by have := HH.out.2.2.2; omega)
      obtain ⟨b, o, rfl, y0, y1, y2⟩ := seg_step (HH.out.2.2.1.below HI.out.1.ext) hs
      obtain ⟨p, ds⟩ := s
      simp only at y0 y1 y2
      have HD : Hid (L.drop i = (p, ds) :: L.drop (i + 1)) := Lib.hid (drop_cons hs)
      clear hs
      repeat' (go_not_at_region 4; (first | go_skip | go_guarded | go_step))
      obtain ⟨g6, hg6⟩ : ∃ g, g = wr.heap.size := ⟨_, rfl⟩
      rw [← hg6]
      refine wp_nameW (fun w' => w'.heap[g6]? = some (.cells #[str p.1, str p.2, .int .i64 (ds : Int)] ST8 (0, 0)) ∧ Ext wr w' ∧ wr.heap.size ≤ g6) ⟨by rw [hg6]; exact heap_new wr _, (Ext.refl _).alloc (Nat.le_refl _) _, by omega⟩ ?_
      clear hg6 y0 y1 y2
      intro w1 H1
      have HNX := Lib.hid (wnext_c W0 w1 c V1 ms1 st1 d1 (HI.out.1.keep H1.out.2.1) (by omega))
      repeat' (first | go_at_call 15 | go_skip | go_guarded | go_step)
      refine HNX.out.mono ?_
      rintro e w2 ⟨V2, ms2, st2, d2, hC2, hwt2, hT2, hN2, ⟨hz, _⟩ | ⟨p', hcom, rfl⟩⟩
      · rw [HI.out.2.1, HD.out] at hz; cases hz
      · rw [HI.out.2.1, HD.out] at hcom
        obtain ⟨⟨rfl, rfl⟩, hcom2⟩ : (p = p' ∧ ds = d2) ∧ L.drop (i + 1) = comB st2 1 := by
          injection hcom with h1 h2
          injection h1 with h3 h4
          exact ⟨⟨h3, h4⟩, h2⟩
        have hcl1 := heap_lt HI.out.1.cell
        have hVl := World.ownsRow.lt HI.out.1.row
        have hg6 : w2.heap[g6]? = some (.cells #[str p.1, str p.2, .int .i64 (ds : Int)] ST8 (0, 0)) := hT2.heap H1.out.1 (by
          rintro (e | e)
          · have := H1.out.2.2; omega
          · have := (hVl g6 e).2; have := H1.out.2.2; omega)
        have H2 : Hid (w2.heap[g6]? = some (.cells #[str p.1, str p.2, .int .i64 (ds : Int)] ST8 (0, 0)) ∧ Cur W0 w2 c V2 ms2 st2 ds ∧ comB st2 1 = L.drop (i + 1) ∧ TwoW c V w w2 ∧ NewW w V V2) := Lib.hid ⟨hg6, hC2, hcom2.symm, TwoW.trans (Only.trans HI.out.2.2.1 (Only.of_ext H1.out.2.1) : TwoW c V w w1) hT2 HI.out.2.2.2, HI.out.2.2.2.trans (V'' := V2) (hN2.imp id fun h b hb => Nat.le_trans H1.out.2.1.size (h b hb)) HI.out.2.2.1.size⟩
        clear hcom hcom2 hC2 hT2 hN2 hg6 hcl1 hVl HNX H1
        go_simp
        repeat' (go_not_at_region 5; (first | go_skip | go_guarded | go_step))
        obtain ⟨g7, hg7⟩ : ∃ g, g = w2.heap.size := ⟨_, rfl⟩
        rw [← hg7]
        refine wp_nameW (fun w' => w'.heap[g7]? = some (.cells #[str p.1, str p.2] NP (0, 0)) ∧ Ext w2 w') ⟨by rw [hg7]; exact heap_new w2 _, (Ext.refl _).alloc (Nat.le_refl _) _⟩ ?_
        clear hg7
        intro w3 H3
        have x6 := (H3.out.2.block g6 (heap_lt H2.out.1)).trans H2.out.1
        have s0 : w3.cell? ⟨g6, 0, none⟩ = some (str p.1) ∧ w3.cell? ⟨g6, 1, none⟩ = some (str p.2) ∧ w3.cell? ⟨g6, 2, none⟩ = some (.int .i64 (ds : Int)) := by refine ⟨?_, ?_, ?_⟩ <;> simp [World.cell?, x6]
        obtain ⟨s0, s1, s2⟩ := s0
        have t0 : w3.cell? ⟨g7, 0, none⟩ = some (str p.1) ∧ w3.cell? ⟨g7, 1, none⟩ = some (str p.2) := by
          have := H3.out.1
          constructor <;> simp [World.cell?, this]
        obtain ⟨t0, t1⟩ := t0
        have HDp : Hid (∀ n, Calls Try.prog 17 #[ptr c] (w3.drewN n) fun e w' => e = .returned (.int .i64 (ds : Int)) ∧ w' = w3.drewN n) := Lib.hid (fun n => depth_c (H2.out.2.1.keep (Ext.trans H3.out.2 (below_drewN (Ext.refl _) n))))
        have hne := neqS p
        clear x6
        go_quiet ((go_at_call 17; refine Calls.quiet_of_same (HDp.out _)))
        have E4 : Ext w2 (w3.drewN nq) := Ext.trans H3.out.2 (below_drewN (Ext.refl _) nq)
        have H4 : Hid (Cur W0 (w3.drewN nq) c V2 ms2 st2 ds ∧ TwoW c V w (w3.drewN nq)) := Lib.hid ⟨H2.out.2.1.keep E4, Only.trans H2.out.2.2.2.1 (Only.of_ext E4)⟩
        generalize w3.drewN nq = w4 at H4 ⊢
        clear s0 s1 s2 t0 t1 E4
        repeat' (first | go_skip | go_guarded | go_step)
        go_roundg (n - (i + 1))
        case measure => omega
        case rel => exact ⟨i + 1, V2, ms2, st2, ds, by go_num, by omega, Nat.le_refl _, by omega, Lib.hid ⟨H4.out.1, H2.out.2.2.1, H4.out.2, H2.out.2.2.2.2⟩⟩
    · obtain rfl : i = n := by omega
      have e1 : decide (i < i) = false := by simp
      have hz : comB st1 1 = [] := by rw [HI.out.2.1]; exact List.drop_eq_nil_of_le (by have := HH.out.2.2.2; omega)
      have HZ : Hid (Cur W0 wr c V1 ms1 st1 d1 ∧ comB st1 1 = [] ∧ TwoW c V w wr ∧ NewW w V V1) := Lib.hid ⟨HI.out.1, hz, HI.out.2.2.1, HI.out.2.2.2⟩
      clear hz HI hgk
      repeat' (go_not_at_region 9; (first | go_skip | go_guarded | go_step))
      go_loopg [9, 10, 38] 2 (fun gk v9 v10 v38 wx => ∃ (k : Nat) (V2 : Value) (ms2 : List Fm) (st2 : List Fp) (d2 : Nat), v38 = .int .i64 k ∧ k ≤ 2 ∧ 2 - k ≤ gk ∧ wtB st2 ≤ wtB st ∧ Hid (Cur W0 wx c V2 ms2 st2 d2 ∧ comB st2 1 = [] ∧ TwoW c V w wx ∧ NewW w V V2))
      case atStart => exact ⟨0, V1, ms1, st1, d1, rfl, Nat.zero_le _, by omega, hwt, HZ⟩
      case round =>
        obtain ⟨k, V2, ms2, st2, d2, rfl, hk, hgk, hwt2, HI⟩ := hrel
        rcases Nat.lt_or_ge k 2 with hlt | hge
        · have e1 : decide (k < 2) = true := by simp [hlt]
          have hi1 : (k : Int) < 2 := by omega
          have HNX := Lib.hid (wnext_c W0 wr c V2 ms2 st2 d2 HI.out.1 (by omega))
          repeat' (first | go_at_call 15 | go_skip | go_guarded | go_step)
          refine HNX.out.mono ?_
          rintro e w2 ⟨V3, ms3, st3, d3, hC3, hwt3, hT3, hN3, ⟨_, rfl, hz3, rfl⟩ | ⟨p', hcom, rfl⟩⟩
          · have H2 : Hid (Cur W0 w2 c V3 ms3 st3 0 ∧ comB st3 1 = [] ∧ TwoW c V w w2 ∧ NewW w V V3) := Lib.hid ⟨hC3, hz3, HI.out.2.2.1.trans hT3 HI.out.2.2.2, HI.out.2.2.2.trans hN3 HI.out.2.2.1.size⟩
            clear hC3 hz3 hT3 hN3 HNX
            go_simp
            repeat' (go_not_at_region 11; (first | go_skip | go_guarded | go_step))
            obtain ⟨g9, hg9⟩ : ∃ g, g = w2.heap.size := ⟨_, rfl⟩
            rw [← hg9]
            refine wp_nameW (fun w' => w'.heap[g9]? = some (.cells #[str [], str []] NP (0, 0)) ∧ Ext w2 w') ⟨by rw [hg9]; exact heap_new w2 _, (Ext.refl _).alloc (Nat.le_refl _) _⟩ ?_
            clear hg9
            intro w3 H3
            have t0 : w3.cell? ⟨g9, 0, none⟩ = some (str []) ∧ w3.cell? ⟨g9, 1, none⟩ = some (str []) := by
              have := H3.out.1
              constructor <;> simp [World.cell?, this]
            obtain ⟨t0, t1⟩ := t0
            have H4 : Hid (Cur W0 w3 c V3 ms3 st3 0 ∧ TwoW c V w w3) := Lib.hid ⟨H2.out.1.keep H3.out.2, Only.trans H2.out.2.2.1 (Only.of_ext H3.out.2)⟩
            have HDp := Lib.hid (depth_c H4.out.1)
            repeat' (first | go_at_call 17 | go_skip | go_guarded | go_step)
            refine HDp.out.mono ?_
            rintro e w4 ⟨rfl, rfl⟩
            go_simp
            repeat' (first | go_skip | go_guarded | go_step)
            go_roundg (2 - (k + 1))
            case measure => omega
            case rel => exact ⟨k + 1, V3, ms3, st3, 0, by go_num, by omega, Nat.le_refl _, by omega, Lib.hid ⟨H4.out.1, H2.out.2.1, H4.out.2, H2.out.2.2.2⟩⟩
          · rw [HI.out.2.1] at hcom; cases hcom
        · obtain rfl : k = 2 := by omega
          have e1 : decide (2 < 2) = false := by simp
          repeat' (first | go_skip | go_guarded | go_step)
          go_ret
          exact ⟨rfl, HI.out.1.ext, HI.out.2.2.1⟩
end Go.Proofs.Ytbmakajadelckaa
/- A range over a function whose iterator keeps its state in cells of its own: what the iterator's own steps may turn is a relation St, which the caller's invariants abide. After the kit's own law (there only walks' objects may turn). No program. -/
namespace Go.QS
open Go Go.RowKit

/-- An iterator's contract: what the iterator itself does between two rounds is St; what a round keeps is Kp; Pre is what holds when it is called. -/
def SeqR {α : Type} (F : Fence) (n : Nat) (P : Program) (g : Nat) (lb : Array Value) (encs : α → Array Value) (St Kp : World → World → Prop) (S Sp : List α → Prop) (N : Nat) (Pre : World → Prop) : Prop :=
  ∀ (l : Nat) (J Jx : List α → World → Prop) (W : World), Pre W → (∀ s A B, J s A → St A B → J s B) → (∀ s A B, Jx s A → St A B → Jx s B) →
    (∀ pre x W1, J pre W1 → pre.length < N → YieldAt F (n - 1) P l (encs x) W1 fun e W' =>
      (e = .returned (.bool true) ∧ J (pre ++ [x]) W' ∧ Kp W1 W') ∨ (e = .returned (.bool false) ∧ Jx (pre ++ [x]) W')) →
    J [] W →
    CallsIn F n P g (#[.func (.yield l) #[] #[]] ++ lb) W fun e W' => (∃ v, e = .returned v) ∧ ((∃ xs, S xs ∧ J xs W') ∨ (∃ pre, Sp pre ∧ Jx pre W'))

theorem SeqR.pre {α : Type} {F : Fence} {n : Nat} {P : Program} {g : Nat} {lb : Array Value} {encs : α → Array Value} {St Kp : World → World → Prop} {S Sp : List α → Prop} {N : Nat} {Pre Pre' : World → Prop} (h : SeqR F n P g lb encs St Kp S Sp N Pre) (hp : ∀ W, Pre' W → Pre W) : SeqR F n P g lb encs St Kp S Sp N Pre' :=
  fun l J Jx W hW => h l J Jx W (hp W hW)

section
variable {F : Fence} {n : Nat} {P : Program}

/-- The statement over such an iterator. Bk: the law's own steps (a block that is no cells turns, at or beyond B) are kept by I, Ix, Ax, and count as kept by Kp. -/
theorem wpIn_rangeFunc_R {α : Type} {g : Operand} {ps : Array Tmp} {assign body : Code} {Q : Exit → Act → World → Prop} {a : Act} {w : World}
    (hro : F.round = none) (h1 : 1 ≤ n) {gf : Nat} {lb : Array Value} (hg : a.eval g = .func (.func gf) #[] lb) (hFg : F.fn gf) (eg : ∀ args w, (callFunc gf args).run P w = .ok (.enter gf args) w)
    {encs : α → Array Value} {St Kp : World → World → Prop} {S Sp : List α → Prop} {N : Nat} {Pre : World → Prop} (hseq : SeqR F (n - 1) P gf lb encs St Kp S Sp N Pre)
    (hSt : ∀ {A B : World} (k : Nat) (o : Obj), St A B → w.heap.size ≤ k → A.heap[k]? = some o → o.isCells = false → B.heap[k]? = some o)
    (hKt : ∀ {A B C : World}, Kp A B → Kp B C → Kp A C) (hKb : ∀ (W : World) (l : Nat) (o o' : Obj), w.heap.size ≤ l → W.heap[l]? = some o → o.isCells = false → o.isWalk = false → Kp W (W.putObj l o'))
    (hPre : ∀ r, Pre ((w.alloc (.deferred (some []))).alloc (.loop r))) (hps : ∀ x, (encs x).size = ps.size)
    (I : List α → World → Prop) (Ix : Code → List α → World → Prop) (hI : OwnFrom w.heap.size I) (hIx : ∀ c, OwnFrom w.heap.size (Ix c))
    (hIs : ∀ s A B, I s A → St A B → I s B) (hIxs : ∀ c s A B, Ix c s A → St A B → Ix c s B) (h0 : I [] w) (Ax : α → Act → World → Prop) (hAx : ∀ x a', OwnFrom w.heap.size (fun (_ : Unit) W => Ax x a' W))
    (hassign : ∀ (l : Nat) (pre : List α) (x : α) (W : World) (K : Act → World → Prop), I pre W → (∀ a' W', KeepsFrom w.heap.size W W' → Kp W W' → I pre W' → Ax x a' W' → K a' W') →
      assign.wpIn (F.inRound l) (n - 1 - 1) P (Exit.then K (fun _ _ _ => False)) { tmps := (ps.zip (encs x)).foldl (fun t (p, v) => t.setIfInBounds p v) a.tmps, defers := [] } W)
    (hbody : ∀ (l : Nat) (pre : List α) (x : α) (a' : Act) (W : World), w.heap.size ≤ l → (∃ r, W.heap[l]? = some (.loop r)) → I pre W → Ax x a' W → pre.length < N → body.wpIn (F.inRound l) (n - 1 - 1) P (ownPostG w.heap.size Kp I Ix (pre ++ [x]) W) a' W)
    (hdone : ∀ (D : Nat) (xs : List α) (W : World), w.heap.size ≤ D → S xs → I xs W → W.heap[D]? = some (.deferred (some [])) → Q .normal { a with defers := { target := .collected D, args := #[] } :: a.defers } W)
    (hstop : ∀ (D : Nat) (c : Code) (pre : List α) (W : World), w.heap.size ≤ D → Sp pre → Ix c pre W → W.heap[D]? = some (.deferred (some [])) → c.wpIn F n P Q { a with defers := { target := .collected D, args := #[] } :: a.defers } W) :
    (Code.rangeFunc g ps assign body).wpIn F n P Q a w := by
  refine wpIn_rangeFunc ?_
  intro fn hfn
  rw [hro]
  obtain ⟨rec, hrec⟩ : ∃ rec : LoopState → Option Code → Loop, rec = fun st pe => { state := st, pending := pe, fn, tmps := a.tmps, params := ps, assign, body, defers := w.heap.size } := ⟨_, rfl⟩
  have hPre1 := hPre (rec .ready none)
  obtain ⟨W1, hW1⟩ : ∃ W1, (w.alloc (.deferred (some []))).alloc (.loop (rec .ready none)) = W1 := ⟨_, rfl⟩
  rw [hW1] at hPre1
  have hL1 : W1.heap[w.heap.size + 1]? = some (.loop (rec .ready none)) := by
    rw [← hW1]; have := World.alloc_heap_new (w.alloc (.deferred (some []))) (.loop (rec .ready none)); rwa [World.size_alloc] at this
  have hK1 : W1.heap[w.heap.size]? = some (.deferred (some [])) := by
    rw [← hW1]; exact (Below.heap_alloc _ _ _ (by simp)).trans (World.alloc_heap_new w _)
  have hI1 : I [] W1 := by rw [← hW1]; exact hI.alloc _ (hI.alloc _ h0)
  refine ⟨w.heap.size + 1, [{ target := .collected w.heap.size, args := #[] }], W1, { target := .fn (.func gf) lb, args := #[.func (.yield (w.heap.size + 1)) #[] #[]] }, W1, gf,
    #[.func (.yield (w.heap.size + 1)) #[] #[]] ++ lb, W1, ?_, ?_, ?_, ?_, fun _ => h1, ?_⟩
  · rw [← hW1, hrec]; exact run_enterLoop_outer _ _ _ _ _
  · simp only [resolve, hg]
    simp [go_sem]
  · intro f' hf'; simp [Target.leads] at hf'; subst hf'; exact hFg
  · simp [invoke, go_sem, eg]
  · refine (hseq (w.heap.size + 1)
      (fun pre W => I pre W ∧ W.heap[w.heap.size + 1]? = some (.loop (rec .ready none)) ∧ W.heap[w.heap.size]? = some (.deferred (some [])))
      (fun pre W => ∃ c, Ix c pre W ∧ W.heap[w.heap.size + 1]? = some (.loop (rec .done (some c))) ∧ W.heap[w.heap.size]? = some (.deferred (some [])))
      W1 hPre1
      (fun s A B hs hst => ⟨hIs s A B hs.1 hst, hSt _ _ hst (by omega) hs.2.1 rfl, hSt _ _ hst (Nat.le_refl _) hs.2.2 rfl⟩)
      (fun s A B hs hst => by
        obtain ⟨c, hc, hl, hk⟩ := hs
        exact ⟨c, hIxs c s A B hc hst, hSt _ _ hst (by omega) hl rfl, hSt _ _ hst (Nat.le_refl _) hk rfl⟩)
      ?_ ⟨hI1, hL1, hK1⟩).mono ?_
    · rintro pre x W ⟨hi, hl, hk⟩ hlen
      have hlt : w.heap.size + 1 < W.heap.size := (Array.getElem?_eq_some_iff.1 hl).1
      have hy := run_yield (P := P) (args := encs x) hl (by rw [hrec]; exact hps x)
      rw [hrec] at hy
      refine ⟨fn, _, assign, body, hy, roundIn_of_wpIn hfn (hassign _ pre x W _ hi ?_)⟩
      clear hy
      intro a' Wa hkfa hkpa hia hax
      replace hl := hkfa.same _ _ (by omega) hl rfl
      replace hk := hkfa.same _ _ (Nat.le_refl _) hk rfl
      replace hlt : w.heap.size + 1 < Wa.heap.size := (Array.getElem?_eq_some_iff.1 hl).1
      replace hi := hia
      clear hia
      revert hkpa hkfa
      generalize W = Wb
      intro hkfa hkpa
      obtain ⟨W, rfl⟩ : ∃ W, W = Wa := ⟨_, rfl⟩
      refine ⟨_, run_beginRound hl (by rw [hrec]), ?_⟩
      have hl2 : (W.putObj (w.heap.size + 1) (.loop { rec .ready none with state := .busy })).heap[w.heap.size + 1]? = some (.loop { rec .ready none with state := .busy }) := World.putObj_heap_same hlt
      have hk2 : (W.putObj (w.heap.size + 1) (.loop { rec .ready none with state := .busy })).heap[w.heap.size]? = some (.deferred (some [])) := (World.putObj_heap_other (by omega)).trans hk
      have hw2 : Kp W (W.putObj (w.heap.size + 1) (.loop { rec .ready none with state := .busy })) := hKb _ _ _ _ (by omega) hl rfl rfl
      refine wpIn_mono (hbody _ pre x a' _ (by omega) ⟨_, hl2⟩ (hI.putObj _ hi (by omega) hl rfl) ((hAx x a').putObj (s := ()) _ hax (by omega) hl rfl) hlen) ?_
      have fin : ∀ (jump : Option Code) (W3 : World), KeepsFrom w.heap.size (W.putObj (w.heap.size + 1) (.loop { rec .ready none with state := .busy })) W3 →
          (Instr.endRound (w.heap.size + 1) jump).run P W3 = .ok (.bool jump.isNone) (W3.putObj (w.heap.size + 1) (.loop (rec (if jump.isNone then .ready else .done) jump))) ∧
          W3.heap[w.heap.size + 1]? = some (.loop { rec .ready none with state := .busy }) ∧
          (W3.putObj (w.heap.size + 1) (.loop (rec (if jump.isNone then .ready else .done) jump))).heap[w.heap.size + 1]? = some (.loop (rec (if jump.isNone then .ready else .done) jump)) ∧
          (W3.putObj (w.heap.size + 1) (.loop (rec (if jump.isNone then .ready else .done) jump))).heap[w.heap.size]? = some (.deferred (some [])) := fun jump W3 hk3 => by
        have hl3 := hk3.same _ _ (by omega) hl2 rfl
        have := run_endRound (P := P) jump hl3
        rw [hrec] at this ⊢
        exact ⟨this, by rw [hrec] at hl3; exact hl3, World.putObj_heap_same (Array.getElem?_eq_some_iff.1 hl3).1, (World.putObj_heap_other (by omega)).trans (hk3.same _ _ (Nat.le_refl _) hk2 rfl)⟩
      rintro e a3 W3 hp
      cases e with
      | normal =>
        obtain ⟨hk3, hkp3, hi3⟩ := hp
        obtain ⟨hr, hl3, hl4, hk4⟩ := fin none W3 hk3
        exact ⟨_, _, hr, .inl ⟨rfl, ⟨hI.putObj _ hi3 (by omega) hl3 rfl, hl4, hk4⟩, hKt hkpa (hKt (hKt hw2 hkp3) (hKb _ _ _ _ (by omega) hl3 rfl rfl))⟩⟩
      | ret =>
        obtain ⟨hk3, hi3⟩ := hp
        obtain ⟨hr, hl3, hl4, hk4⟩ := fin (some .ret) W3 hk3
        exact ⟨_, _, hr, .inr ⟨rfl, .ret, (hIx _).putObj _ hi3 (by omega) hl3 rfl, hl4, hk4⟩⟩
      | exit id =>
        obtain ⟨hk3, hi3⟩ := hp
        obtain ⟨hr, hl3, hl4, hk4⟩ := fin (some (.exit id)) W3 hk3
        exact ⟨_, _, hr, .inr ⟨rfl, .exit id, (hIx _).putObj _ hi3 (by omega) hl3 rfl, hl4, hk4⟩⟩
      | goto t =>
        obtain ⟨hk3, hi3⟩ := hp
        obtain ⟨hr, hl3, hl4, hk4⟩ := fin (some (.goto t)) W3 hk3
        exact ⟨_, _, hr, .inr ⟨rfl, .goto t, (hIx _).putObj _ hi3 (by omega) hl3 rfl, hl4, hk4⟩⟩
      | panic ch => exact hp.elim
      | outgrown => exact hp.elim
    · rintro e W2 ⟨⟨v, rfl⟩, (⟨xs, hS, hi, hl, hk⟩ | ⟨pre, hSp, c, hi, hl, hk⟩)⟩
      · exact ⟨none, _, by have := run_endLoop (P := P) hl (by rw [hrec]; simp); rw [hrec] at this; exact this, hdone _ xs _ (Nat.le_refl _) hS (hI.putObj _ hi (by omega) hl rfl) ((World.putObj_heap_other (by omega)).trans hk)⟩
      · exact ⟨some c, _, by have := run_endLoop (P := P) hl (by rw [hrec]; simp); rw [hrec] at this; exact this, hstop _ c pre _ (Nat.le_refl _) hSp ((hIx c).putObj _ hi (by omega) hl rfl) ((World.putObj_heap_other (by omega)).trans hk)⟩
/-- The same, where what a round's frame is may name the loop's own temporaries. -/
theorem wpIn_rangeFunc_RT {α : Type} {g : Operand} {ps : Array Tmp} {assign body : Code} {Q : Exit → Act → World → Prop} {a : Act} {w : World}
    (hro : F.round = none) (h1 : 1 ≤ n) {gf : Nat} {lb : Array Value} (hg : a.eval g = .func (.func gf) #[] lb) (hFg : F.fn gf) (eg : ∀ args w, (callFunc gf args).run P w = .ok (.enter gf args) w)
    {encs : α → Array Value} {St Kp : World → World → Prop} {S Sp : List α → Prop} {N : Nat} {Pre : World → Prop} (hseq : SeqR F (n - 1) P gf lb encs St Kp S Sp N Pre)
    (hSt : ∀ {A B : World} (k : Nat) (o : Obj), St A B → w.heap.size ≤ k → A.heap[k]? = some o → o.isCells = false → B.heap[k]? = some o)
    (hKt : ∀ {A B C : World}, Kp A B → Kp B C → Kp A C) (hKb : ∀ (W : World) (l : Nat) (o o' : Obj), w.heap.size ≤ l → W.heap[l]? = some o → o.isCells = false → o.isWalk = false → Kp W (W.putObj l o'))
    (hPre : ∀ r, Pre ((w.alloc (.deferred (some []))).alloc (.loop r))) (hps : ∀ x, (encs x).size = ps.size)
    (I : List α → World → Prop) (Ix : Code → List α → World → Prop) (hI : OwnFrom w.heap.size I) (hIx : ∀ c, OwnFrom w.heap.size (Ix c))
    (hIs : ∀ s A B, I s A → St A B → I s B) (hIxs : ∀ c s A B, Ix c s A → St A B → Ix c s B) (h0 : I [] w) (Ax : Array Value → α → Act → World → Prop) (hAx : ∀ x a', OwnFrom w.heap.size (fun (_ : Unit) W => Ax a.tmps x a' W))
    (hassign : ∀ (l : Nat) (pre : List α) (x : α) (W : World) (K : Act → World → Prop), I pre W → (∀ a' W', KeepsFrom w.heap.size W W' → Kp W W' → I pre W' → Ax a.tmps x a' W' → K a' W') →
      assign.wpIn (F.inRound l) (n - 1 - 1) P (Exit.then K (fun _ _ _ => False)) { tmps := (ps.zip (encs x)).foldl (fun t (p, v) => t.setIfInBounds p v) a.tmps, defers := [] } W)
    (hbody : ∀ (l : Nat) (pre : List α) (x : α) (a' : Act) (W : World), w.heap.size ≤ l → (∃ r, W.heap[l]? = some (.loop r)) → I pre W → Ax a.tmps x a' W → pre.length < N → body.wpIn (F.inRound l) (n - 1 - 1) P (ownPostG w.heap.size Kp I Ix (pre ++ [x]) W) a' W)
    (hdone : ∀ (D : Nat) (xs : List α) (W : World), w.heap.size ≤ D → S xs → I xs W → W.heap[D]? = some (.deferred (some [])) → Q .normal { a with defers := { target := .collected D, args := #[] } :: a.defers } W)
    (hstop : ∀ (D : Nat) (c : Code) (pre : List α) (W : World), w.heap.size ≤ D → Sp pre → Ix c pre W → W.heap[D]? = some (.deferred (some [])) → c.wpIn F n P Q { a with defers := { target := .collected D, args := #[] } :: a.defers } W) :
    (Code.rangeFunc g ps assign body).wpIn F n P Q a w := 
  wpIn_rangeFunc_R hro h1 hg hFg eg hseq hSt hKt hKb hPre hps I Ix hI hIx hIs hIxs h0 (Ax a.tmps) hAx hassign hbody hdone hstop
end

/-- What an iterator may turn: blocks at or beyond B that hold cells of such types. -/
structure TurnT (B : Nat) (τ : TypeId → Prop) (w w' : World) : Prop where
  os : w'.os = w.os
  tape : w'.tape = w.tape
  output : w'.output = w.output
  size : w.heap.size ≤ w'.heap.size
  block : ∀ k, k < w.heap.size → w'.heap[k]? = w.heap[k]? ∨ (B ≤ k ∧ ∃ A T f, w.heap[k]? = some (.cells A T f) ∧ τ T ∧ ∃ A', w'.heap[k]? = some (.cells A' T f))
section
variable {B : Nat} {τ : TypeId → Prop} {w w' a b c : World}
theorem TurnT.of_ext (h : Ext w w') : TurnT B τ w w' := ⟨h.os, h.tape, h.output, h.size, fun k hk => .inl (h.block k hk)⟩
theorem TurnT.refl (w : World) : TurnT B τ w w := .of_ext (Ext.refl w)
theorem TurnT.trans (h : TurnT B τ a b) (k : TurnT B τ b c) : TurnT B τ a c :=
  ⟨k.os.trans h.os, k.tape.trans h.tape, k.output.trans h.output, Nat.le_trans h.size k.size, fun i hi => by
    rcases k.block i (Nat.lt_of_lt_of_le hi h.size) with e | ⟨h1, A, T, f, h2, h3, A', h4⟩
    · rcases h.block i hi with e' | ⟨h1, A, T, f, h2, h3, A', h4⟩
      · exact .inl (e.trans e')
      · exact .inr ⟨h1, A, T, f, h2, h3, A', e.trans h4⟩
    · rcases h.block i hi with e' | ⟨g1, A1, T1, f1, g2, g3, A1', g4⟩
      · exact .inr ⟨h1, A, T, f, e'.symm.trans h2, h3, A', h4⟩
      · rw [h2] at g4; cases g4
        exact .inr ⟨g1, A1, T, f, g2, g3, A', h4⟩⟩
theorem TurnT.setCell (W : World) {g : Nat} {A : Array Value} {T : TypeId} {f : Nat × Nat} (hB : B ≤ g) (hg : W.heap[g]? = some (.cells A T f)) (hT : τ T) (j : Nat) (u : Value) : TurnT B τ W (W.setCell ⟨g, j, none⟩ u) :=
  ⟨rfl, rfl, rfl, by simp [World.setCell], fun k hk => by
    by_cases e : k = g
    · subst e; exact .inr ⟨hB, A, T, f, hg, hT, _, heap_set hg j u⟩
    · exact .inl (Below.heap_setCell W _ u k e)⟩
theorem TurnT.drew (h : TurnT B τ a w) : TurnT B τ a w.drew := ⟨h.os, h.tape, h.output, h.size, h.block⟩
theorem TurnT.drewN (h : TurnT B τ a w) (n : Nat) : TurnT B τ a (w.drewN n) := h.trans (.of_ext (below_drewN (Ext.refl _) n))
theorem TurnT.heap (h : TurnT B τ w w') {g : Nat} {A : Array Value} {T : TypeId} {f : Nat × Nat} (hg : w.heap[g]? = some (.cells A T f)) (hT : ¬ (B ≤ g ∧ τ T)) : w'.heap[g]? = some (.cells A T f) := by
  rcases h.block g (heap_lt hg) with e | ⟨h1, A', T', f', h2, h3, _⟩
  · exact e.trans hg
  · rw [hg] at h2; cases h2; exact absurd ⟨h1, h3⟩ hT
theorem TurnT.other (h : TurnT B τ w w') {g : Nat} {o : Obj} (hg : w.heap[g]? = some o) (ho : o.isCells = false) : w'.heap[g]? = some o := by
  rcases h.block g (heap_lt hg) with e | ⟨h1, A', T', f', h2, h3, _⟩
  · exact e.trans hg
  · rw [hg] at h2; cases h2; cases ho
/-- What lay ahead of B lies as it lay. -/
theorem TurnT.ext (h : TurnT B τ w w') (he : Ext a w) (hB : a.heap.size ≤ B) : Ext a w' :=
  ⟨h.os.trans he.os, h.tape.trans he.tape, h.output.trans he.output, Nat.le_trans he.size h.size, fun k hk => by
    rcases h.block k (Nat.lt_of_lt_of_le hk he.size) with e | ⟨h1, _⟩
    · exact e.trans (he.block k hk)
    · omega⟩
theorem TurnT.mono {B' : Nat} {τ' : TypeId → Prop} (h : TurnT B τ w w') (hB : B' ≤ B) (hT : ∀ t, τ t → τ' t) : TurnT B' τ' w w' :=
  ⟨h.os, h.tape, h.output, h.size, fun k hk => by
    rcases h.block k hk with e | ⟨h1, A, T, f, h2, h3, h4⟩
    · exact .inl e
    · exact .inr ⟨Nat.le_trans hB h1, A, T, f, h2, hT _ h3, h4⟩⟩
end
end Go.QS
