/-
  What the cards of layer 23 share: arguments as rows of commands; a world for the witness.
-/
import Derived.Test.YtmebolbjidjajaaDoorLaid
import Derived.Test.YtmebolbjidjajaaDoorLawBack
import Derived.Test.YtmebolbjidjajaaDoorCards
import Derived.Test.YtmebolbjidjajaaDoorTie
import Derived.WalkKit
import Derived.ProofKit
import Derived.OpenShut
import Derived.ShutString
import Derived.LaidMore
import Derived.Deep.Slices
import Derived.Deep.DeepHandedRow
import Derived.Deep.DeepWitnessRowRef
set_option maxRecDepth 100000
namespace Go.Proofs.YtmebolbjidjajaaDoor
open Go.ChangeShapes Go.WideShapes Go.ChangeAt Go.RowKit Go.Proofs.YtmebolbjidjajaaDoorW.PrintWords
instance : Inhabited CV := ⟨cv0⟩
theorem own : ownKnob Tryd.prog.godebug = none := by kernel_rfl
theorem laidOut : laidOutB Tryd.prog = true := by kernel_rfl
theorem cellsCmd : Tryd.prog.cellsOf 41 = 3 := by kernel_rfl
theorem cellsInt : Tryd.prog.cellsOf 3 = 1 := by kernel_rfl
theorem wf64 {n : Int} (h : (Lit.int .i64 n).wf = true) : I64 n := by
  have h1 : IntKind.i64.min = -9223372036854775808 := rfl
  have h2 : IntKind.i64.max = 9223372036854775807 := rfl
  simp only [Lit.wf, Bool.and_eq_true, decide_eq_true_eq] at h
  unfold I64
  omega
/-- A command that came in. -/
theorem open_cmd {H : Type} {enc : TypeId × Value → H} {W : World} {sp : Nat → Bool} {held : Bool} {base fuel : Nat} {cs : List Value} {x : DataW H × List MemPlace}
    (h : DataW.trod enc Tryd.prog W base sp held fuel 41 cs = some x) : ∃ c : CV, cs = cvCells c ∧ I64 c.f1 ∧ I64 c.f2 ∧ x.2 = [] := by
  obtain ⟨xs, n, rfl, hx, hl, hxl, hall⟩ := DataW.trod_struct Tryd.underlying41 h
  rw [cellsCmd] at hl
  match cs, hl with
  | [v0, v1, v2], _ =>
    match xs, hxl with
    | [y0, y1, y2], _ =>
      have g0 := hall 0 _ rfl
      have g1 := hall 1 _ rfl
      have g2 := hall 2 _ rfl
      simp [cellsInt, cellsStr] at g0 g1 g2
      obtain ⟨s, e0, f0, _⟩ := DataW.trod_string Tryd.underlying9 g0
      obtain ⟨a, e1, f1, w1⟩ := DataW.trod_int Tryd.underlying3 g1
      obtain ⟨b, e2, f2, w2⟩ := DataW.trod_int Tryd.underlying3 g2
      simp only [List.cons.injEq, and_true] at e0 e1 e2
      subst e0 e1 e2
      refine ⟨⟨s, a, b⟩, rfl, wf64 w1, wf64 w2, ?_⟩
      rw [hx, f0, f1, f2]; rfl
/-- A row of commands that came in. -/
theorem open_cmds {H : Type} {enc : TypeId × Value → H} {W : World} {fuel : Nat} {A : Option Addr} {len cap : Nat} {x : DataW H × List MemPlace}
    (h : DataW.trod enc Tryd.prog W 0 (fun _ => true) true fuel 22 [.slice A len cap] = some x) : ∃ xs : List CV, xs.length = len ∧ len ≤ cap ∧ Kd.C kCV W A len xs ∧ Ints xs := by
  rcases Go.Deep.open_slice Tryd.underlying22 h with ⟨hcs, _⟩ | ⟨a, l, c, m, n, D, Pl, hcs, _, hl, hm, hmm, _, hx⟩
  · simp only [List.cons.injEq, Value.slice.injEq, and_true] at hcs
    obtain ⟨rfl, rfl, rfl⟩ := hcs
    exact ⟨[], rfl, Nat.le_refl _, ⟨rfl, by omega, fun h => by omega⟩, fun x hx => absurd hx (by simp)⟩
  · simp only [List.cons.injEq, Value.slice.injEq, and_true] at hcs
    obtain ⟨rfl, rfl, rfl⟩ := hcs
    simp only [if_true] at hmm
    have each : ∀ i, i < m → ∃ y : CV, (∀ j u, (cvCells y)[j]? = some u → W.cell? (a.add (i * 3 + j)) = some u) ∧ I64 y.f1 ∧ I64 y.f2 := by
      intro i hi
      obtain ⟨cs', h1, h2⟩ := hx i hi
      obtain ⟨y, rfl, hy1, hy2, _⟩ := open_cmd h2
      rw [cellsCmd] at h1
      obtain ⟨_, hlen, hcell⟩ := World.cells?_some h1
      refine ⟨y, fun j u hj => ?_, hy1, hy2⟩
      have hj3 : j < 3 := (List.getElem?_eq_some_iff.1 hj).1
      have := hcell j hj3
      rw [add_add] at this
      rw [this]; exact hj
    obtain ⟨Y, hY⟩ := Go.Deep.choose_lt each
    refine ⟨(List.range len).map Y, by simp, hl, ⟨by simp, Nat.le_trans (Nat.le_trans hl hm) (by decide), fun _ => ⟨a, rfl, fun j p hj => ?_⟩⟩, fun x hx' => ?_⟩
    · rw [List.getElem?_map, Option.map_eq_some_iff] at hj
      obtain ⟨k, hk, rfl⟩ := hj
      obtain ⟨hk1, hk2⟩ := List.getElem?_eq_some_iff.1 hk
      simp at hk1 hk2
      subst hk2
      exact ⟨cvCells (Y j), rfl, kCV_mk W (Y j), fun i u hi => (hY j (by omega)).1 i u hi⟩
    · obtain ⟨k, hk, rfl⟩ := List.mem_map.1 hx'
      have hk := List.mem_range.1 hk
      exact (hY k (by omega)).2
/-- The heap that the door leaves, the one table that is pinned by name laid beside it. -/
noncomputable def cardWorld (os : Os) : World :=
  { World.doorLaid Tryd.prog 72 os with heap := (World.doorLaid Tryd.prog 72 os).heap.modify 4 fun
      | .cells _ t f => .cells (Go.Pinned.utf8FirstZ.map fun z => Value.int .u8 (z : Nat)).toArray t f
      | o => o }
theorem door_met (os : Os) (args : Array Value) : laidMetH Tryd.prog laidList ((cardWorld os).forCall (fun _ _ => 0) ⟨#[], args, []⟩).memory :=
  laidMetH_of_parts3 (fuel := 8) (laidMet_of_run' 8 (by kernel_rfl) (by kernel_rfl)) (by kernel_rfl) (by kernel_rfl)
end Go.Proofs.YtmebolbjidjajaaDoor
