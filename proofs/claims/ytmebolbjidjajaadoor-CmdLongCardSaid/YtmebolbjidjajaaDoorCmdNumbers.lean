/-
  punnet/cmd.Numbers: how many numbers a word has.
-/
import Derived.Test.YtmebolbjidjajaaDoorCmdWords
import Derived.Lib.Hide
set_option linter.unusedSimpArgs false
set_option maxRecDepth 100000
namespace Go.Proofs.YtmebolbjidjajaaDoor
open Go.RowKit
def wl (k : Nat) : List UInt8 × Nat := wordList.getD k ([], 0)
/-- How many numbers a word has; none: it is no word. -/
def numsFrom (l : List UInt8) : List (List UInt8 × Nat) → Option Nat
  | [] => none
  | x :: xs => if x.1 = l then some x.2 else numsFrom l xs
def nums (l : List UInt8) : Option Nat := numsFrom l wordList
def numsI (l : List UInt8) : Int := ((nums l).getD 0 : Nat)
def numsB (l : List UInt8) : Bool := (nums l).isSome
theorem word_at (k : Nat) (hk : k < 17) : ∀ w, (Instr.index 78 (.agg wordCells) (.int .i64 (k : Int))).run Tryd.prog w = .ok (.agg #[bs (wl k).1, .int .i64 ((wl k).2 : Int)]) w := by
  intro w
  have h : k = 0 ∨ k = 1 ∨ k = 2 ∨ k = 3 ∨ k = 4 ∨ k = 5 ∨ k = 6 ∨ k = 7 ∨ k = 8 ∨ k = 9 ∨ k = 10 ∨ k = 11 ∨ k = 12 ∨ k = 13 ∨ k = 14 ∨ k = 15 ∨ k = 16 := by omega
  rcases h with rfl | rfl | rfl | rfl | rfl | rfl | rfl | rfl | rfl | rfl | rfl | rfl | rfl | rfl | rfl | rfl | rfl <;> (change _ = _; kernel_rfl)
theorem nums_step (l : List UInt8) (k : Nat) (hk : k < 17) : numsFrom l (wordList.drop k) = if (wl k).1 = l then some (wl k).2 else numsFrom l (wordList.drop (k + 1)) := by
  have hl : k < wordList.length := hk
  rw [List.drop_eq_getElem_cons hl]
  have : wl k = wordList[k] := by simp [wl, List.getD, hl]
  rw [this]
  rfl
set_option maxRecDepth 100000
set_option maxHeartbeats 400000 in
theorem numbers_any (s : ByteArray) (w : World) :
    Calls Tryd.prog 23 #[.string s] w fun e w' => e = .returned (.tuple #[.int .i64 (numsI s.data.toList), .bool (numsB s.data.toList)]) ∧ Only [] w w' := by
  go_enter Tryd.func23, Tryd.ntmps23
  go_wp2_with (go_at_call 33; refine (words_any _).mono ?_; rintro e w1 ⟨rfl, hO⟩)
  go_loopw [7] (fun i wr => ∃ k : Nat, k ≤ 17 ∧ i = .int .i64 k ∧ numsFrom s.data.toList (wordList.drop k) = nums s.data.toList ∧ Only [] w wr) (fun i _ => 17 - (intOf i).toNat)
  case atStart => exact ⟨0, by omega, rfl, rfl, hO⟩
  case round =>
    obtain ⟨k, hk, rfl, hn, hOr⟩ := hrel
    by_cases hlt : k < 17
    · have hix := word_at k hlt
      have HS := Lib.hid (nums_step s.data.toList k hlt)
      have HN := Lib.hid hn
      clear hn
      simp only [bs] at hix
      generalize wl k = wk at *
      obtain ⟨wt, wn⟩ := wk
      go_wp2
      · have ht : (wt == s.toList) = true := by assumption
        have ht' : wt = s.data.toList := by rw [← Go.ByteArray.toList_eq]; simpa using ht
        go_ret2
        have e : nums s.data.toList = some wn := by rw [← HN.out, HS.out, if_pos ht']
        exact ⟨by simp [numsI, numsB, e], (hOr.alloc _)⟩
      · have ht : (wt == s.toList) = false := by assumption
        have ht' : ¬ wt = s.data.toList := by rw [← Go.ByteArray.toList_eq]; simpa using ht
        have e : numsFrom s.data.toList (List.drop (k + 1) wordList) = nums s.data.toList := by rw [← HN.out, HS.out, if_neg ht']
        go_roundw
        case rel => exact ⟨k + 1, by omega, by go_num, e, hOr.alloc _⟩
        case measure => simp [intOf]; omega
    · obtain rfl : k = 17 := by omega
      have e : nums s.data.toList = none := by rw [← hn]; rfl
      have HE := Lib.hid e
      clear e hn
      go_wp2
      go_ret2
      exact ⟨by simp [numsI, numsB, HE.out], hOr⟩
end Go.Proofs.YtmebolbjidjajaaDoor
