/-
  A range over a function whose iterator keeps its state in cells of its own (a captured variable): the law, at the wide fence.
  The shape of the proof is that of the kit's law for a range over a function.
-/
import Derived.RangeFuncFrom
import Derived.Test.YtmebolbjidjajaaDoorMem
set_option linter.unusedSimpArgs false
namespace Go.Proofs.YtmebolbjidjajaaDoor
open Go.RowKit
/-- What the book-keeping of a loop and its iterator may turn: blocks of fp, and blocks from B on that are no cells. -/
structure Mild (B : Nat) (fp : List Nat) (w w' : World) : Prop where
  os : w'.os = w.os
  tape : w'.tape = w.tape
  output : w'.output = w.output
  size : w.heap.size ≤ w'.heap.size
  block : ∀ k, k < w.heap.size → k ∉ fp → (k < B ∨ ∃ o, w.heap[k]? = some o ∧ o.isCells = true) → w'.heap[k]? = w.heap[k]?
section mild
variable {B : Nat} {fp S : List Nat} {w w' w'' : World}
theorem Mild.of_only (h : Only fp w w') : Mild B fp w w' := ⟨h.os, h.tape, h.output, h.size, fun k hk hn _ => h.block k hk hn⟩
theorem Mild.putObj {l : Nat} {o : Obj} (o' : Obj) (hB : B ≤ l) (hl : w.heap[l]? = some o) (ho : o.isCells = false) : Mild B fp w (w.putObj l o') :=
  ⟨rfl, rfl, rfl, by simp [World.putObj], fun k _ _ hc => World.putObj_heap_other (by
    rintro rfl
    rcases hc with hc | ⟨o2, h2, h3⟩
    · omega
    · rw [hl] at h2; injection h2 with h2; subst h2; rw [ho] at h3; cases h3)⟩
theorem Mild.alloc (o : Obj) : Mild B fp w (w.alloc o) := .of_only ((Only.refl fp w).alloc o)
theorem Blk.mild {g : Nat} {t : TypeId} {cs : Array Value} (hb : Blk w g t cs) (h : Mild B fp w w') (hn : g ∉ fp) : Blk w' g t cs :=
  (h.block g hb.lt hn (.inr ⟨_, hb, rfl⟩)).trans hb
theorem Only.mild (h : Only S w w') (h' : Mild B fp w' w'') (hB : w.heap.size ≤ B) (hs : ∀ k ∈ fp, k ∈ S ∨ w.heap.size ≤ k) : Only S w w'' :=
  ⟨h'.os.trans h.os, h'.tape.trans h.tape, h'.output.trans h.output, Nat.le_trans h.size h'.size, fun k hk hn =>
    (h'.block k (Nat.lt_of_lt_of_le hk h.size) (fun hm => by
      rcases hs k hm with h1 | h1
      · exact hn h1
      · omega) (.inl (by omega))).trans (h.block k hk hn)⟩
end mild
/-- What the body of a loop keeps: the blocks of kp, and what is no cells from B on. -/
structure Body (B : Nat) (kp : Nat → Prop) (w w' : World) : Prop where
  size : w.heap.size ≤ w'.heap.size
  kept : ∀ k, kp k → w'.heap[k]? = w.heap[k]?
  other : ∀ k o, B ≤ k → w.heap[k]? = some o → o.isCells = false → w'.heap[k]? = some o
section body
variable {B : Nat} {kp : Nat → Prop} {S : List Nat} {w w' w'' : World}
theorem Body.of_only (h : Only S w w') (hs : ∀ k ∈ S, ¬ kp k ∧ (k < B ∨ ∃ t cs, Blk w k t cs)) (hk : ∀ k, kp k → k < w.heap.size) : Body B kp w w' :=
  ⟨h.size, fun k h' => h.block k (hk k h') (fun hm => (hs k hm).1 h'), fun k o hB ho hc => (h.block k (Array.getElem?_eq_some_iff.1 ho).1 (fun hm => by
    rcases (hs k hm).2 with h1 | ⟨t, cs, h1⟩
    · omega
    · unfold Blk at h1; rw [ho] at h1; injection h1 with h1; subst h1; cases hc)).trans ho⟩
theorem Body.trans (h : Body B kp w w') (h' : Body B kp w' w'') : Body B kp w w'' :=
  ⟨Nat.le_trans h.size h'.size, fun k hk => (h'.kept k hk).trans (h.kept k hk), fun k o hB ho hc => h'.other k o hB (h.other k o hB ho hc) hc⟩
end body
/-- How a round may be left. -/
def roundEnd {α : Type} (B : Nat) (kp : Nat → Prop) (I : List α → World → Prop) (Ix : Code → List α → World → Prop) (xs : List α) (W : World) : Exit → Act → World → Prop
  | .normal, _, W' => Body B kp W W' ∧ I xs W'
  | .ret, _, W' => Body B kp W W' ∧ Ix .ret xs W'
  | .exit id, _, W' => Body B kp W W' ∧ Ix (.exit id) xs W'
  | .goto t, _, W' => Body B kp W W' ∧ Ix (.goto t) xs W'
  | .panic _, _, _ => False
  | .outgrown, _, _ => False
/-- What an iterator hands to its loop: the things of xs, one by one; it turns the blocks fp, and asks that the blocks kp be kept. -/
def Yields {α : Type} (n : Nat) (P : Program) (g : Nat) (lb : Array Value) (encs : α → Array Value) (fp : List Nat) (kp : Nat → Prop) (xs : List α) (w : World) : Prop :=
  ∀ (l : Nat) (J Jx : List α → World → Prop) (W : World), Only [] w W → (∀ s A B, J s A → Only fp A B → J s B) → (∀ s A B, Jx s A → Only fp A B → Jx s B) →
    (∀ pre x post W1, xs = pre ++ x :: post → J pre W1 → YieldAt Fence.wide (n - 1) P l (encs x) W1 fun e W' =>
      (e = .returned (.bool true) ∧ J (pre ++ [x]) W' ∧ W1.heap.size ≤ W'.heap.size ∧ ∀ k, kp k → W'.heap[k]? = W1.heap[k]?) ∨ (e = .returned (.bool false) ∧ Jx (pre ++ [x]) W')) →
    J [] W →
    CallsIn Fence.wide n P g (#[.func (.yield l) #[] #[]] ++ lb) W fun e W' => (∃ v, e = .returned v) ∧ (J xs W' ∨ ∃ pre post, xs = pre ++ post ∧ Jx pre W')
theorem wpIn_rangeFunc_list {n : Nat} {P : Program} {α : Type} {g : Operand} {ps : Array Tmp} {assign body : Code} {Q : Exit → Act → World → Prop} {a : Act} {w : World}
    (h1 : 1 ≤ n) {gf : Nat} {lb : Array Value} (hg : a.eval g = .func (.func gf) #[] lb) (eg : ∀ args w, (callFunc gf args).run P w = .ok (.enter gf args) w)
    {encs : α → Array Value} {fp : List Nat} {kp : Nat → Prop} {xs : List α} (hseq : Yields (n - 1) P gf lb encs fp kp xs w)
    (hfp : ∀ k ∈ fp, k < w.heap.size) (hkp : ∀ k, kp k → k < w.heap.size) (hps : ∀ x, (encs x).size = ps.size)
    (I : List α → World → Prop) (Ix : Code → List α → World → Prop) (hI : ∀ s A B, I s A → Mild w.heap.size fp A B → I s B) (hIx : ∀ c s A B, Ix c s A → Mild w.heap.size fp A B → Ix c s B) (h0 : I [] w) (a₁ : α → Act)
    (hassign : ∀ (l : Nat) (x : α) (W : World) (K : Act → World → Prop), K (a₁ x) W →
      assign.wpIn (Fence.wide.inRound l) (n - 1 - 1) P (Exit.then K (fun _ _ _ => False)) { tmps := (ps.zip (encs x)).foldl (fun t (p, v) => t.setIfInBounds p v) a.tmps, defers := [] } W)
    (hbody : ∀ (l : Nat) (pre : List α) (x : α) (post : List α) (W : World), xs = pre ++ x :: post → I pre W → body.wpIn (Fence.wide.inRound l) (n - 1 - 1) P (roundEnd w.heap.size kp I Ix (pre ++ [x]) W) (a₁ x) W)
    (hdone : ∀ (W : World), I xs W → W.heap[w.heap.size]? = some (.deferred (some [])) → Q .normal { a with defers := { target := .collected w.heap.size, args := #[] } :: a.defers } W)
    (hstop : ∀ (c : Code) (pre post : List α) (W : World), xs = pre ++ post → Ix c pre W → W.heap[w.heap.size]? = some (.deferred (some [])) → c.wpIn Fence.wide n P Q { a with defers := { target := .collected w.heap.size, args := #[] } :: a.defers } W) :
    (Code.rangeFunc g ps assign body).wpIn Fence.wide n P Q a w := by
  refine wpIn_rangeFunc ?_
  intro fn hfn
  have hro : Fence.wide.round = none := rfl
  rw [hro]
  obtain ⟨rec, hrec⟩ : ∃ rec : LoopState → Option Code → Loop, rec = fun st pe => { state := st, pending := pe, fn, tmps := a.tmps, params := ps, assign, body, defers := w.heap.size } := ⟨_, rfl⟩
  obtain ⟨W1, hW1⟩ : ∃ W1, (w.alloc (.deferred (some []))).alloc (.loop (rec .ready none)) = W1 := ⟨_, rfl⟩
  have hL1 : W1.heap[w.heap.size + 1]? = some (.loop (rec .ready none)) := by
    rw [← hW1]; have := World.alloc_heap_new (w.alloc (.deferred (some []))) (.loop (rec .ready none)); rwa [World.size_alloc] at this
  have hK1 : W1.heap[w.heap.size]? = some (.deferred (some [])) := by
    rw [← hW1]; exact (Below.heap_alloc _ _ _ (by simp)).trans (World.alloc_heap_new w _)
  have hI1 : I [] W1 := by rw [← hW1]; exact hI _ _ _ (hI _ _ _ h0 (Mild.alloc _)) (Mild.alloc _)
  have hb1 : Only [] w W1 := by rw [← hW1]; exact ((Only.refl [] w).alloc _).alloc _
  refine ⟨w.heap.size + 1, [{ target := .collected w.heap.size, args := #[] }], W1, { target := .fn (.func gf) lb, args := #[.func (.yield (w.heap.size + 1)) #[] #[]] }, W1, gf,
    #[.func (.yield (w.heap.size + 1)) #[] #[]] ++ lb, W1, ?_, ?_, ?_, ?_, fun _ => h1, ?_⟩
  · rw [← hW1, hrec]; exact run_enterLoop_outer _ _ _ _ _
  · simp only [resolve, hg]
    simp [go_sem]
  · intro f' hf'; trivial
  · simp [invoke, go_sem, eg]
  · have hno : ∀ {k : Nat}, w.heap.size ≤ k → k ∉ fp := fun hk hm => by have := hfp _ hm; omega
    refine (hseq (w.heap.size + 1)
      (fun pre W => I pre W ∧ W.heap[w.heap.size + 1]? = some (.loop (rec .ready none)) ∧ W.heap[w.heap.size]? = some (.deferred (some [])))
      (fun pre W => ∃ c, Ix c pre W ∧ W.heap[w.heap.size + 1]? = some (.loop (rec .done (some c))) ∧ W.heap[w.heap.size]? = some (.deferred (some [])))
      W1 hb1
      (fun s A B hs hg' => ⟨hI s A B hs.1 (.of_only hg'), (hg'.heap (Array.getElem?_eq_some_iff.1 hs.2.1).1 (hno (by omega))).trans hs.2.1, (hg'.heap (Array.getElem?_eq_some_iff.1 hs.2.2).1 (hno (by omega))).trans hs.2.2⟩)
      (fun s A B hs hg' => by
        obtain ⟨c, hc, hl, hk⟩ := hs
        exact ⟨c, hIx c s A B hc (.of_only hg'), (hg'.heap (Array.getElem?_eq_some_iff.1 hl).1 (hno (by omega))).trans hl, (hg'.heap (Array.getElem?_eq_some_iff.1 hk).1 (hno (by omega))).trans hk⟩)
      ?_ ⟨hI1, hL1, hK1⟩).mono ?_
    · rintro pre x post W hxs ⟨hi, hl, hk⟩
      have hlt : w.heap.size + 1 < W.heap.size := (Array.getElem?_eq_some_iff.1 hl).1
      have hy := run_yield (P := P) (args := encs x) hl (by rw [hrec]; exact hps x)
      rw [hrec] at hy
      refine ⟨fn, _, assign, body, hy, roundIn_of_wpIn hfn (hassign _ x W _ ⟨_, run_beginRound hl (by rw [hrec]), ?_⟩)⟩
      have hl2 : (W.putObj (w.heap.size + 1) (.loop { rec .ready none with state := .busy })).heap[w.heap.size + 1]? = some (.loop { rec .ready none with state := .busy }) := World.putObj_heap_same hlt
      have hk2 : (W.putObj (w.heap.size + 1) (.loop { rec .ready none with state := .busy })).heap[w.heap.size]? = some (.deferred (some [])) := (World.putObj_heap_other (by omega)).trans hk
      refine wpIn_mono (hbody _ pre x post _ hxs (hI _ _ _ hi (Mild.putObj _ (by omega) hl rfl))) ?_
      have fin : ∀ (jump : Option Code) (W3 : World), Body w.heap.size kp (W.putObj (w.heap.size + 1) (.loop { rec .ready none with state := .busy })) W3 →
          (Instr.endRound (w.heap.size + 1) jump).run P W3 = .ok (.bool jump.isNone) (W3.putObj (w.heap.size + 1) (.loop (rec (if jump.isNone then .ready else .done) jump))) ∧
          W3.heap[w.heap.size + 1]? = some (.loop { rec .ready none with state := .busy }) ∧
          (W3.putObj (w.heap.size + 1) (.loop (rec (if jump.isNone then .ready else .done) jump))).heap[w.heap.size + 1]? = some (.loop (rec (if jump.isNone then .ready else .done) jump)) ∧
          (W3.putObj (w.heap.size + 1) (.loop (rec (if jump.isNone then .ready else .done) jump))).heap[w.heap.size]? = some (.deferred (some [])) ∧
          W.heap.size ≤ (W3.putObj (w.heap.size + 1) (.loop (rec (if jump.isNone then .ready else .done) jump))).heap.size ∧
          (∀ k, kp k → (W3.putObj (w.heap.size + 1) (.loop (rec (if jump.isNone then .ready else .done) jump))).heap[k]? = W.heap[k]?) := fun jump W3 hk3 => by
        have hl3 := hk3.other _ _ (by omega) hl2 rfl
        have hr3 := run_endRound (P := P) jump hl3
        rw [hrec] at hr3 ⊢
        refine ⟨hr3, by rw [hrec] at hl3; exact hl3, World.putObj_heap_same (Array.getElem?_eq_some_iff.1 hl3).1, (World.putObj_heap_other (by omega)).trans (hk3.other _ _ (Nat.le_refl _) hk2 rfl), ?_, ?_⟩
        · have := hk3.size; simp [World.putObj] at this ⊢; omega
        · intro k hkk
          have hlt' := hkp k hkk
          rw [World.putObj_heap_other (by omega), hk3.kept k hkk, World.putObj_heap_other (by omega)]
      rintro e a3 W3 hp
      cases e with
      | normal =>
        obtain ⟨hk3, hi3⟩ := hp
        obtain ⟨hr, hl3, hl4, hk4, hz, hkk⟩ := fin none W3 hk3
        exact ⟨_, _, hr, .inl ⟨rfl, ⟨hI _ _ _ hi3 (Mild.putObj _ (by omega) hl3 rfl), hl4, hk4⟩, hz, hkk⟩⟩
      | ret =>
        obtain ⟨hk3, hi3⟩ := hp
        obtain ⟨hr, hl3, hl4, hk4, hz, hkk⟩ := fin (some .ret) W3 hk3
        exact ⟨_, _, hr, .inr ⟨rfl, .ret, hIx _ _ _ _ hi3 (Mild.putObj _ (by omega) hl3 rfl), hl4, hk4⟩⟩
      | exit id =>
        obtain ⟨hk3, hi3⟩ := hp
        obtain ⟨hr, hl3, hl4, hk4, hz, hkk⟩ := fin (some (.exit id)) W3 hk3
        exact ⟨_, _, hr, .inr ⟨rfl, .exit id, hIx _ _ _ _ hi3 (Mild.putObj _ (by omega) hl3 rfl), hl4, hk4⟩⟩
      | goto t =>
        obtain ⟨hk3, hi3⟩ := hp
        obtain ⟨hr, hl3, hl4, hk4, hz, hkk⟩ := fin (some (.goto t)) W3 hk3
        exact ⟨_, _, hr, .inr ⟨rfl, .goto t, hIx _ _ _ _ hi3 (Mild.putObj _ (by omega) hl3 rfl), hl4, hk4⟩⟩
      | panic ch => exact hp.elim
      | outgrown => exact hp.elim
    · rintro e W2 ⟨⟨v, rfl⟩, (⟨hi, hl, hk⟩ | ⟨pre, post, hSp, c, hi, hl, hk⟩)⟩
      · exact ⟨none, _, by have := run_endLoop (P := P) hl (by rw [hrec]; simp); rw [hrec] at this; exact this, hdone _ (hI _ _ _ hi (Mild.putObj _ (by omega) hl rfl)) ((World.putObj_heap_other (by omega)).trans hk)⟩
      · exact ⟨some c, _, by have := run_endLoop (P := P) hl (by rw [hrec]; simp); rw [hrec] at this; exact this, hstop c pre post _ hSp (hIx c _ _ _ hi (Mild.putObj _ (by omega) hl rfl)) ((World.putObj_heap_other (by omega)).trans hk)⟩
end Go.Proofs.YtmebolbjidjajaaDoor
