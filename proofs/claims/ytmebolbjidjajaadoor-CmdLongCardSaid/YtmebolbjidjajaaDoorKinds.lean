/-
  Commands as values and as rows of memory, in the words of the kit's print.
-/
import Derived.Test.YtmebolbjidjajaaDoorWWords
import Derived.Test.YtmebolbjidjajaaDoorMem
set_option maxRecDepth 100000
namespace Go.Proofs.YtmebolbjidjajaaDoor
open Go Go.RowKit Go.Proofs.YtmebolbjidjajaaDoorW.PrintWords
/-- A command: its word, and its numbers. -/
structure CV where
  f0 : ByteArray
  f1 : Int
  f2 : Int
def cv0 : CV := ⟨(⟨#[]⟩ : ByteArray), (0 : Int), (0 : Int)⟩
def kCV : Kd CV := Kd.iso (Kd.pair Kd.string (Kd.pair (Kd.int .i64) (Kd.int .i64))) (fun x : CV => (x.f0, x.f1, x.f2))
theorem kCV_open {w : World} {x : CV} {cs : List Value} (h : kCV.K w x cs) : cs = [.string x.f0, .int .i64 x.f1, .int .i64 x.f2] := by
  obtain ⟨_, _, rfl, rfl, ⟨_, _, rfl, rfl, rfl⟩⟩ := h
  exact rfl
theorem kCV_mk (w : World) (x : CV) : kCV.K w x [.string x.f0, .int .i64 x.f1, .int .i64 x.f2] := ⟨[.string x.f0], [.int .i64 x.f1, .int .i64 x.f2], rfl, rfl, ⟨[.int .i64 x.f1], [.int .i64 x.f2], rfl, rfl, rfl⟩⟩
theorem kCV_mkM (w : World) (base : Nat) (ok : Nat → Prop) (x : CV) : kCV.M w base ok x [.string x.f0, .int .i64 x.f1, .int .i64 x.f2] := ⟨[.string x.f0], [.int .i64 x.f1, .int .i64 x.f2], rfl, rfl, ⟨[.int .i64 x.f1], [.int .i64 x.f2], rfl, rfl, rfl⟩⟩
def rdCV (xs : List CV) (i : Int) : CV := xs.getD i.toNat cv0
theorem at_CV {w : World} {A : Option Addr} {n : Nat} {xs : List CV} (h : Kd.C kCV w A n xs) (k : Nat) (h1 : k < n) : ∃ ad, A = some ad ∧ w.cell? (ad.add (k * 3)) = some (.string (xs.getD k cv0).f0) ∧ w.cell? ⟨(ad.add (k * 3)).block, (ad.add (k * 3)).off + 1, none⟩ = some (.int .i64 (xs.getD k cv0).f1) ∧ w.cell? ⟨(ad.add (k * 3)).block, (ad.add (k * 3)).off + 2, none⟩ = some (.int .i64 (xs.getD k cv0).f2) := by
  obtain ⟨ad, c, e, _, hK, hc0⟩ := Kd.C_get h cv0 (k : Int) (by omega) (by omega)
  rw [Int.toNat_natCast] at hK hc0
  have hc : ∀ j u, c[j]? = some u → w.cell? (ad.add (k * 3 + j)) = some u := hc0
  obtain rfl := kCV_open hK
  exact ⟨ad, e, hc 0 _ rfl, by rw [← add_field _ _ 1 (by omega)]; exact hc 1 _ rfl, by rw [← add_field _ _ 2 (by omega)]; exact hc 2 _ rfl⟩
theorem C_only {α : Type} {d : Kd α} {w w' : World} {A : Option Addr} {n : Nat} {xs : List α} (h : d.C w A n xs) (ho : Only [] w w') : d.C w' A n xs := Kd.C_below h ho.below
/-- One kind read as another. -/
theorem C_conv {α β : Type} {d : Kd α} {d' : Kd β} {w : World} {A : Option Addr} {n : Nat} {xs : List α} (f : α → β) (hs : d.sz = d'.sz) (hK : ∀ x cs, d.K w x cs → d'.K w (f x) cs) (h : d.C w A n xs) : d'.C w A n (xs.map f) := by
  refine ⟨by simpa using h.1, h.2.1, fun hn => ?_⟩
  obtain ⟨ad, e, hc⟩ := h.2.2 hn
  refine ⟨ad, e, fun j p hj => ?_⟩
  rw [List.getElem?_map] at hj
  obtain ⟨x, hx, rfl⟩ := Option.map_eq_some_iff.1 hj
  obtain ⟨c, hl, hr, hcell⟩ := hc j x hx
  rw [hs] at hl hcell
  exact ⟨c, hl, hK x c hr, hcell⟩
end Go.Proofs.YtmebolbjidjajaaDoor
