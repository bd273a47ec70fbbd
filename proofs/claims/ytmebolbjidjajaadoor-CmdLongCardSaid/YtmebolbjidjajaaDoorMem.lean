/-
  Words on memory that every text of this seat uses: a block known whole, and what a call may turn ('Only').
  No program is spoken of here.
-/
import Derived.WalkKit
import Derived.Handy
import Derived.Deep.Draws
import Derived.Laws.Rows
namespace Go.Proofs.YtmebolbjidjajaaDoor
open Go Go.RowKit

/-- Block g is just the cells cs of element type t, none of them frozen. -/
def Blk (w : World) (g : Nat) (t : TypeId) (cs : Array Value) : Prop := w.heap[g]? = some (.cells cs t (0, 0))

section blk
variable {w w' : World} {g : Nat} {t : TypeId} {cs : Array Value}
theorem Blk.lt (h : Blk w g t cs) : g < w.heap.size := (Array.getElem?_eq_some_iff.1 h).1
theorem Blk.cell (h : Blk w g t cs) (i : Nat) : w.cell? ⟨g, i, none⟩ = cs[i]? := cell_of_row w g i cs t (0, 0) h
theorem Blk.frozen (h : Blk w g t cs) (i : Nat) : w.frozen? ⟨g, i, none⟩ = false := by
  unfold Blk at h
  simp [World.frozen?, h]
theorem Blk.new (w : World) (t : TypeId) (cs : Array Value) : Blk (w.alloc (.cells cs t)) w.heap.size t cs := heap_alloc_new w _
theorem Blk.drew (h : Blk w g t cs) : Blk w.drew g t cs := h
theorem Blk.drewN (h : Blk w g t cs) (n : Nat) : Blk (w.drewN n) g t cs := h
theorem Blk.alloc (h : Blk w g t cs) (o : Obj) : Blk (w.alloc o) g t cs := (Below.heap_alloc w o g h.lt).trans h
theorem Blk.set_ (h : Blk w g t cs) (i : Nat) (u : Value) : Blk (w.setCell ⟨g, i, none⟩ u) g t (cs.setIfInBounds i u) := by
  unfold Blk at h ⊢
  simp [World.setCell, Array.getElem?_modify, h]
theorem Blk.far (h : Blk w g t cs) {p : Addr} (hp : g ≠ p.block) (u : Value) : Blk (w.setCell p u) g t cs := (Below.heap_setCell w p u g hp).trans h
theorem Blk.ne_ {g' : Nat} {t' : TypeId} {cs' : Array Value} (h : Blk w g t cs) (h' : Blk w g' t' cs') (hne : t ≠ t') : g ≠ g' := by
  rintro rfl
  unfold Blk at h h'
  rw [h] at h'
  injection h' with h'
  injection h' with _ ht
  exact hne ht
theorem Blk.inj {cs' : Array Value} {t' : TypeId} (h : Blk w g t cs) (h' : Blk w g t' cs') : cs = cs' ∧ t = t' := by
  unfold Blk at h h'
  rw [h] at h'
  injection h' with h'
  injection h' with h1 h2
  exact ⟨h1, h2⟩
end blk

/-- What a call may turn: the blocks of the list S, and whatever is new. -/
structure Only (S : List Nat) (w w' : World) : Prop where
  os : w'.os = w.os
  tape : w'.tape = w.tape
  output : w'.output = w.output
  size : w.heap.size ≤ w'.heap.size
  block : ∀ k, k < w.heap.size → k ∉ S → w'.heap[k]? = w.heap[k]?

section only
variable {S S' : List Nat} {w w' w'' : World}
theorem Only.refl (S : List Nat) (w : World) : Only S w w := ⟨rfl, rfl, rfl, Nat.le_refl _, fun _ _ _ => rfl⟩
theorem Only.trans (h : Only S w w') (h' : Only S' w' w'') (hs : ∀ k ∈ S', k ∈ S ∨ w.heap.size ≤ k) : Only S w w'' :=
  ⟨h'.os.trans h.os, h'.tape.trans h.tape, h'.output.trans h.output, Nat.le_trans h.size h'.size, fun k hk hn =>
    (h'.block k (Nat.lt_of_lt_of_le hk h.size) (fun hm => by
      rcases hs k hm with h1 | h1
      · exact hn h1
      · omega)).trans (h.block k hk hn)⟩
theorem Only.trans_same (h : Only S w w') (h' : Only S w' w'') : Only S w w'' := h.trans h' fun _ hk => .inl hk
theorem Only.trans_nil (h : Only S w w') (h' : Only [] w' w'') : Only S w w'' := h.trans h' fun _ hk => absurd hk (by simp)
theorem Only.mono (h : Only S w w') (hs : ∀ k ∈ S, k ∈ S' ∨ w.heap.size ≤ k) : Only S' w w' := (Only.refl S' w).trans h hs
theorem Only.nil_mono (h : Only [] w w') : Only S w w' := h.mono fun _ hk => absurd hk (by simp)
theorem Only.drew (h : Only S w w') : Only S w w'.drew := ⟨h.os, h.tape, h.output, h.size, h.block⟩
theorem Only.drewN (h : Only S w w') (n : Nat) : Only S w (w'.drewN n) := ⟨h.os, h.tape, h.output, h.size, h.block⟩
theorem Only.alloc (h : Only S w w') (o : Obj) : Only S w (w'.alloc o) :=
  ⟨h.os, h.tape, h.output, Nat.le_trans h.size (by simp), fun k hk hn => (Below.heap_alloc w' o k (Nat.lt_of_lt_of_le hk h.size)).trans (h.block k hk hn)⟩
theorem Only.setCell (h : Only S w w') {p : Addr} (hp : p.block ∈ S ∨ w.heap.size ≤ p.block) (u : Value) : Only S w (w'.setCell p u) :=
  ⟨h.os, h.tape, h.output, Nat.le_trans h.size (by simp [World.setCell]), fun k hk hn => (Below.heap_setCell w' p u k (by
    rintro rfl
    rcases hp with hp | hp
    · exact hn hp
    · omega)).trans (h.block k hk hn)⟩
theorem Only.of_below (h : Below w.heap.size w w') : Only S w w' := ⟨h.os, h.tape, h.output, h.size, fun k hk _ => h.block k hk⟩
theorem Only.below (h : Only [] w w') : Below w.heap.size w w' := ⟨h.os, h.tape, h.output, h.size, fun k hk => h.block k hk (by simp)⟩
theorem Only.below_of {B : Nat} (h : Only S w w') (hB : B ≤ w.heap.size) (hs : ∀ k ∈ S, B ≤ k) : Below B w w' :=
  ⟨h.os, h.tape, h.output, h.size, fun k hk => h.block k (by omega) (fun hm => by have := hs k hm; omega)⟩
theorem Only.of_grown {row : Option Nat} (h : w.grownBy w' row) (hr : ∀ k, row = some k → k ∈ S ∨ w.heap.size ≤ k) : Only S w w' :=
  ⟨h.os, h.tape, h.output, h.size, fun k hk hn => h.block k hk (fun e => by
    rcases hr k e.symm with h1 | h1
    · exact hn h1
    · omega)⟩
theorem Only.grown {row : Option Nat} (h0 : Only S w w') (h : w'.grownBy w'' row) (hr : ∀ k, row = some k → k ∈ S ∨ w.heap.size ≤ k) : Only S w w'' :=
  ⟨h.os.trans h0.os, h.tape.trans h0.tape, h.output.trans h0.output, Nat.le_trans h0.size h.size, fun k hk hn => (h.block k (Nat.lt_of_lt_of_le hk h0.size) (fun e => by
    rcases hr k e.symm with h1 | h1
    · exact hn h1
    · omega)).trans (h0.block k hk hn)⟩
theorem Only.grownBy {g : Nat} (h : Only [g] w w') : w.grownBy w' (some g) :=
  ⟨h.os, h.tape, h.output, h.size, fun k hk hn => h.block k hk (by simp; rintro rfl; exact hn rfl)⟩
theorem Only.grownBy_none (h : Only [] w w') (row : Option Nat) : w.grownBy w' row :=
  ⟨h.os, h.tape, h.output, h.size, fun k hk _ => h.block k hk (by simp)⟩
theorem Only.heap (h : Only S w w') {k : Nat} (hk : k < w.heap.size) (hn : k ∉ S) : w'.heap[k]? = w.heap[k]? := h.block k hk hn
theorem Only.cell (h : Only S w w') {p : Addr} (hk : p.block < w.heap.size) (hn : p.block ∉ S) : w'.cell? p = w.cell? p := World.cell?_of_block (h.block _ hk hn)
theorem Blk.only {g : Nat} {t : TypeId} {cs : Array Value} (hb : Blk w g t cs) (h : Only S w w') (hn : g ∉ S) : Blk w' g t cs := (h.block g hb.lt hn).trans hb
theorem Blk.only_nil {g : Nat} {t : TypeId} {cs : Array Value} (hb : Blk w g t cs) (h : Only [] w w') : Blk w' g t cs := hb.only h (by simp)
theorem Blk.below {g B : Nat} {t : TypeId} {cs : Array Value} (hb : Blk w g t cs) (h : Below B w w') (hg : g < B) : Blk w' g t cs := (h.block g hg).trans hb
theorem Blk.setRow {g : Nat} {t : TypeId} {cs : Array Value} (h : Blk w g t cs) (cs' : Array Value) : Blk (w.setRow g cs') g t cs' := by
  unfold Blk at h ⊢
  simp [World.setRow, Array.getElem?_modify, h]
theorem Only.setRow (h : Only S w w') {g : Nat} (hp : g ∈ S ∨ w.heap.size ≤ g) (cs : Array Value) : Only S w (w'.setRow g cs) :=
  ⟨h.os, h.tape, h.output, Nat.le_trans h.size (by simp [World.setRow]), fun k hk hn => by
    have hne : ¬ g = k := by
      rintro rfl
      rcases hp with hp | hp
      · exact hn hp
      · omega
    have e : (w'.setRow g cs).heap[k]? = w'.heap[k]? := by
      unfold World.setRow
      simp only [Array.getElem?_modify]
      rw [if_neg hne]
    exact e.trans (h.block k hk hn)⟩
end only

/-- A row of cells: block g begins with the values xs, of element type t, none frozen. -/
def Row (w : World) (g : Nat) (t : TypeId) (xs : List Value) : Prop := ∃ sp : List Value, Blk w g t (xs ++ sp).toArray

section row
variable {w w' : World} {g : Nat} {t : TypeId} {xs : List Value}
theorem Row.lt (h : Row w g t xs) : g < w.heap.size := h.choose_spec.lt
theorem Row.cell (h : Row w g t xs) {i : Nat} (hi : i < xs.length) : w.cell? ⟨g, i, none⟩ = some xs[i] := by
  obtain ⟨sp, h⟩ := h
  rw [h.cell i]
  simp [List.getElem?_append_left hi]
theorem Row.cell' (h : Row w g t xs) {i : Nat} {u : Value} (hi : xs[i]? = some u) : w.cell? ⟨g, i, none⟩ = some u := by
  obtain ⟨hl, rfl⟩ := List.getElem?_eq_some_iff.1 hi
  exact h.cell hl
theorem Row.frozen (h : Row w g t xs) (i : Nat) : w.frozen? ⟨g, i, none⟩ = false := by
  obtain ⟨sp, h⟩ := h
  exact h.frozen i
theorem Row.drew (h : Row w g t xs) : Row w.drew g t xs := h
theorem Row.drewN (h : Row w g t xs) (n : Nat) : Row (w.drewN n) g t xs := h
theorem Row.alloc (h : Row w g t xs) (o : Obj) : Row (w.alloc o) g t xs := ⟨_, h.choose_spec.alloc o⟩
theorem Row.far (h : Row w g t xs) {p : Addr} (hp : g ≠ p.block) (u : Value) : Row (w.setCell p u) g t xs := ⟨_, h.choose_spec.far hp u⟩
theorem Row.set_ (h : Row w g t xs) {i : Nat} (hi : i < xs.length) (u : Value) : Row (w.setCell ⟨g, i, none⟩ u) g t (xs.set i u) := by
  obtain ⟨sp, h⟩ := h
  refine ⟨sp, ?_⟩
  have := h.set_ i u
  rw [List.setIfInBounds_toArray] at this
  rwa [List.set_append_left i u hi] at this
theorem Row.only {S : List Nat} (hb : Row w g t xs) (h : Only S w w') (hn : g ∉ S) : Row w' g t xs := ⟨_, hb.choose_spec.only h hn⟩
theorem Row.only_nil (hb : Row w g t xs) (h : Only [] w w') : Row w' g t xs := hb.only h (by simp)
theorem Row.below {B : Nat} (hb : Row w g t xs) (h : Below B w w') (hg : g < B) : Row w' g t xs := ⟨_, hb.choose_spec.below h hg⟩
theorem Row.take (h : Row w g t xs) (n : Nat) : Row w g t (xs.take n) := by
  obtain ⟨sp, h⟩ := h
  exact ⟨xs.drop n ++ sp, by rw [← List.append_assoc, List.take_append_drop]; exact h⟩
theorem Row.new (w : World) (t : TypeId) (xs : List Value) : Row (w.alloc (.cells xs.toArray t)) w.heap.size t xs := ⟨[], by simpa using Blk.new w t xs.toArray⟩
theorem Row.ne_ {g' : Nat} {t' : TypeId} {cs' : Array Value} (h : Row w g t xs) (h' : Blk w g' t' cs') (hne : t ≠ t') : g ≠ g' := h.choose_spec.ne_ h' hne
theorem Row.ne_row {g' : Nat} {t' : TypeId} {ys : List Value} (h : Row w g t xs) (h' : Row w g' t' ys) (hne : t ≠ t') : g ≠ g' := h.choose_spec.ne_ h'.choose_spec hne
theorem Row.of_own {base n c g : Nat} {e : TypeId} {xs : List Value} (h : w.ownsRow base e 1 (.slice (some ⟨g, 0, none⟩) n c) n xs) : Row w g e xs := by
  obtain ⟨_, hn | ⟨g', cap, cur, hv, _, hg, _, _, _, ht⟩⟩ := h
  · injection hn.1 with h1; cases h1
  · injection hv with h1 _ _
    injection h1 with h1
    injection h1 with h1
    subst h1
    refine ⟨cur.toList.drop (n * 1), ?_⟩
    unfold Blk
    rw [← ht, List.take_append_drop, hg]
end row
/-- Results that lie in memory: a struct, then a slot. -/
theorem results_row_tmp {P : Program} {fn : Func} {p u : Tmp} {ty : TypeId} (h : fn.results = #[.cell p ty, .tmp u]) (tmps : Array Value) (w : World) (g : Nat) (t : TypeId) (cs : Array Value) (d : TypeDesc)
    (hp : tmps.getD p undef = .pointer (some ⟨g, 0, none⟩)) (hg : Blk w g t cs)
    (hu : P.underlying ty = some d) (hd : (match d with | .struct _ | .array _ _ => true | _ => false) = true) (hi : (P.info? ty).map (·.size) = some cs.size) :
    (results fn tmps).run P w = .ok (.tuple #[.agg cs, tmps.getD u undef]) w := by
  have hp' : tmps[p]?.getD undef = .pointer (some ⟨g, 0, none⟩) := by simpa using hp
  simp [results, h, hp', asAddr, run_loadVar_row w g t ty cs (0, 0) d hg hu hd hi]
end Go.Proofs.YtmebolbjidjajaaDoor
