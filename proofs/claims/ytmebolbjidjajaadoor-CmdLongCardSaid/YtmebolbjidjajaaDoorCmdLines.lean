/-
  strings.Lines: the lines of a text.
-/
import Derived.Test.YtmebolbjidjajaaDoorRange
import Derived.Test.YtmebolbjidjajaaDoorCmdCommand
import Derived.RangeFuncBound
import Derived.RangeFuncCalls
import Derived.WalkKit
import Derived.OwnWalkIn
import Derived.TacticsInMore
import Derived.LoopIn
set_option linter.unusedSimpArgs false
set_option maxRecDepth 100000
namespace Go.Proofs.YtmebolbjidjajaaDoor
open Go.RowKit
attribute [local go_sem] Oper.semAt_some
set_option maxHeartbeats 400000 in
theorem lines_any (s : ByteArray) (w : World) :
    Calls Tryd.prog 20 #[.string s] w fun e w' => e = .returned (.func (.func 27) #[] #[.pointer (some ⟨w.heap.size, 0, none⟩)]) ∧ w.alloc (.cells #[.string s] 9) = w' := by
  go_enter Tryd.func20, Tryd.ntmps20
  go_wp2
  go_ret
  exact ⟨rfl, rfl⟩
/-- The lines of a text, each with its feed. -/
def linesL : List UInt8 → List (List UInt8)
  | [] => []
  | c :: r => if c = 10 then [c] :: linesL r else match linesL r with
    | [] => [[c]]
    | p :: ps => (c :: p) :: ps
theorem linesL_miss : ∀ l : List UInt8, l ≠ [] → Lib.indexByte l 10 = -1 → linesL l = [l]
  | [], h, _ => absurd rfl h
  | [c], _, h => by
    by_cases hc : c = 10
    · subst hc; simp [Lib.indexByte] at h
    · simp [linesL, hc]
  | c :: d :: r, _, h => by
    by_cases hc : c = 10
    · subst hc; simp [Lib.indexByte] at h
    · rw [Lib.indexByte, if_neg (by simpa using hc)] at h
      have h2 : Lib.indexByte (d :: r) 10 = -1 := by
        by_cases h3 : (Lib.indexByte (d :: r) 10 == -1) = true
        · simpa using h3
        · rw [if_neg h3] at h
          have := Lib.indexByte_ge (d :: r) 10
          omega
      rw [linesL, if_neg hc, linesL_miss (d :: r) (by simp) h2]
theorem linesL_hit : ∀ (l : List UInt8) (i : Nat), Lib.indexByte l 10 = i → linesL l = l.take (i + 1) :: linesL (l.drop (i + 1))
  | [], i, h => by simp only [Lib.indexByte] at h; omega
  | c :: r, i, h => by
    by_cases hc : c = 10
    · subst hc
      simp [Lib.indexByte] at h
      obtain rfl : i = 0 := by omega
      simp [linesL]
    · rw [Lib.indexByte, if_neg (by simpa using hc)] at h
      by_cases h3 : (Lib.indexByte r 10 == -1) = true
      · rw [if_pos h3] at h; omega
      · rw [if_neg h3] at h
        have h5 := Lib.indexByte_ge r 10
        have h4 : Lib.indexByte r 10 ≠ -1 := by intro e; rw [e] at h3; exact h3 rfl
        obtain ⟨j, rfl⟩ : ∃ j, i = j + 1 := ⟨i - 1, by omega⟩
        rw [linesL, if_neg hc, linesL_hit r j (by omega)]
        rfl
def mkS (l : List UInt8) : ByteArray := ⟨l.toArray⟩
theorem mkS_self (s : ByteArray) : mkS s.data.toList = s := by cases s; rfl
def cellLen (w : World) (g : Nat) : Nat := match w.cell? ⟨g, 0, none⟩ with
  | some (.string s) => s.size
  | _ => 0
set_option maxHeartbeats 4000000 in
theorem lines_yields (n : Nat) (hn : 1 ≤ n) (s : ByteArray) (g : Nat) (w : World) (hg : Blk w g 9 #[.string s]) (hs : s.size ≤ 1000000) :
    Yields n Tryd.prog 27 #[.pointer (some ⟨g, 0, none⟩)] (fun x : ByteArray => #[.string x]) [g] (· = g) ((linesL s.data.toList).map mkS) w := by
  intro l J Jx W hW hJ hJx hY h0
  refine callsIn_of_wp Tryd.func27 rfl trivial ?_ rfl
  simp only [Tryd.ntmps27, List.size_toArray, List.length_cons, List.length_nil, Nat.reduceAdd, Nat.reduceSub, Array.replicate_succ, Array.replicate_zero, List.push_toArray, List.append_toArray, List.nil_append, List.cons_append]
  have hgW := hg.only_nil hW
  gi_wp2
  gi_loopw [3, 4] (fun _ _ wr => ∃ (pre : List ByteArray) (rest : ByteArray), rest.size ≤ 1000000 ∧ (linesL s.data.toList).map mkS = pre ++ (linesL rest.data.toList).map mkS ∧ Blk wr g 9 #[.string rest] ∧ J pre wr)
    (fun _ _ wr => cellLen wr g)
  case atStart => exact ⟨[], s, hs, rfl, hgW, h0⟩
  case round =>
    obtain ⟨pre, rest, hz, hx, hb, hj⟩ := hrel
    have hc := hb.cell 0
    simp at hc
    have hfz := hb.frozen 0
    by_cases h0z : rest.size = 0
    · have hnil : rest.data.toList = [] := List.eq_nil_of_length_eq_zero (show rest.data.toList.length = 0 by rw [Array.length_toList]; exact h0z)
      rw [hnil] at hx
      simp [linesL] at hx
      have hle : decide ((0 : Int) < (rest.size : Int)) = false := by simp [h0z]
      gi_wp2
      go_end0
      exact ⟨⟨_, rfl⟩, .inl (by rw [hx]; exact hj)⟩
    · have hpos : (0 : Int) < rest.size := by omega
      have HI := Lib.hid (fun W => (Tryd.strings_IndexByte rest 10 W))
      by_cases hi : Lib.indexByte rest.data.toList 10 = -1
      · have e0 : mkS rest.data.toList = rest := mkS_self rest
        rw [linesL_miss _ (fun e => h0z (by have := congrArg List.length e; rw [Array.length_toList] at this; exact this)) hi, List.map_cons, List.map_nil, e0] at hx
        have HI2 : ∀ W, Calls Tryd.prog 28 #[.string rest, .int .u8 10] W fun e w' => e = .returned (.int .i64 (-1)) ∧ W = w' := fun W => (HI.out W).mono (by rintro e w' ⟨rfl, rfl⟩; exact ⟨by rw [show ((10 : Int).toNat.toUInt8) = 10 from rfl, hi], rfl⟩)
        have HX := Lib.hid hx
        clear HI hi hx
        have hO2 : Only [g] wr (wr.setCell ⟨g, 0, none⟩ (.string ⟨#[]⟩)) := (Only.refl [g] wr).setCell (.inl (by simp)) _
        have hb2 : Blk (wr.setCell ⟨g, 0, none⟩ (.string ⟨#[]⟩)) g 9 #[.string ⟨#[]⟩] := hb.set_ 0 _
        obtain ⟨fn, tmps, assign, body, hy, hR⟩ := hY pre rest [] _ HX.out (hJ _ _ _ hj hO2)
        gi_wp2_with (refine ⟨trivial, ?_⟩; gi_at_call 28; refine (callsIn_wide.2 (HI2 _)).mono ?_; rintro e w1 ⟨rfl, rfl⟩)
        refine hR.mono ?_
        rintro e w3 (⟨rfl, hj3, hs3, hk3⟩ | ⟨rfl, hj3⟩)
        · have hb3 : Blk w3 g 9 #[.string ⟨#[]⟩] := (hk3 g rfl).trans hb2
          gi_wp2
          go_roundw
          case rel => exact ⟨pre ++ [rest], ⟨#[]⟩, by decide, by rw [HX.out]; simp [linesL], hb3, hj3⟩
          case measure =>
            have hc3 : w3.cell? ⟨g, 0, none⟩ = some (.string ⟨#[]⟩) := hb3.cell 0
            simp only [cellLen, hc3, hc]
            show 0 < rest.size
            omega
        · gi_wp2
          refine bodyPost_ret (results_none rfl _ _ _) rfl ?_
          exact ⟨⟨_, rfl⟩, .inr ⟨pre ++ [rest], [], by rw [HX.out]; simp, hj3⟩⟩
      · obtain ⟨i, hI⟩ : ∃ i : Nat, Lib.indexByte rest.data.toList 10 = i := ⟨(Lib.indexByte rest.data.toList 10).toNat, by have := Lib.indexByte_ge rest.data.toList 10; omega⟩
        have hil : i < rest.size := by
          have := (List.getElem?_eq_some_iff.1 (Lib.indexByte_some hI).1).1
          rw [Array.length_toList] at this; exact this
        have e1 : mkS (rest.data.toList.take (i + 1)) = rest.extract 0 (i + 1) := by
          rw [← Lib.extract_from_zero]; exact mkS_self _
        have e2 : rest.data.toList.drop (i + 1) = (rest.extract (i + 1) rest.size).data.toList := (Lib.extract_to_end rest (i + 1)).symm
        have hz2 : (rest.extract (i + 1) rest.size).size ≤ 1000000 := by simp [ByteArray.size_extract]; omega
        have hz3 : (rest.extract (i + 1) rest.size).size < rest.size := by simp [ByteArray.size_extract]; omega
        rw [linesL_hit _ _ hI, List.map_cons, e1, e2] at hx
        have HI2 : ∀ W, Calls Tryd.prog 28 #[.string rest, .int .u8 10] W fun e w' => e = .returned (.int .i64 i) ∧ W = w' := fun W => (HI.out W).mono (by rintro e w' ⟨rfl, rfl⟩; exact ⟨by rw [show ((10 : Int).toNat.toUInt8) = 10 from rfl, hI], rfl⟩)
        have HX := Lib.hid hx
        have HZ2 := Lib.hid hz2
        have HZ3 := Lib.hid hz3
        clear HI hI hi e1 e2 hx hz2 hz3
        gi_wp2_with (refine ⟨trivial, ?_⟩; gi_at_call 28; refine (callsIn_wide.2 (HI2 _)).mono ?_; rintro e w1 ⟨rfl, rfl⟩)
        gi_region
        have hO2 : Only [g] wr (wr.setCell ⟨g, 0, none⟩ (.string (rest.extract (i + 1) rest.size))).drew := ((Only.refl [g] wr).setCell (.inl (by simp)) _).drew
        have hb2 : Blk (wr.setCell ⟨g, 0, none⟩ (.string (rest.extract (i + 1) rest.size))).drew g 9 #[.string (rest.extract (i + 1) rest.size)] := (hb.set_ 0 _).drew
        obtain ⟨fn, tmps, assign, body, hy, hR⟩ := hY pre (rest.extract 0 (i + 1)) _ _ HX.out (hJ _ _ _ hj hO2)
        gi_wp2
        refine hR.mono ?_
        rintro e w3 (⟨rfl, hj3, hs3, hk3⟩ | ⟨rfl, hj3⟩)
        · have hb3 : Blk w3 g 9 #[.string (rest.extract (i + 1) rest.size)] := (hk3 g rfl).trans hb2
          gi_wp2
          go_roundw
          case rel => exact ⟨pre ++ [rest.extract 0 (i + 1)], rest.extract (i + 1) rest.size, HZ2.out, by rw [HX.out]; simp, hb3, hj3⟩
          case measure => simp only [cellLen, hb3.cell 0, hc]; simpa using HZ3.out
        · gi_wp2
          refine bodyPost_ret (results_none rfl _ _ _) rfl ?_
          exact ⟨⟨_, rfl⟩, .inr ⟨pre ++ [rest.extract 0 (i + 1)], _, by rw [HX.out, List.append_assoc]; rfl, hj3⟩⟩
end Go.Proofs.YtmebolbjidjajaaDoor
