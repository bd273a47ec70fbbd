/-
  punnet/cmd.line: a command's line, or how it is wrong.
-/
import Derived.Test.YtmebolbjidjajaaDoorCmdNumbers
import Derived.Test.YtmebolbjidjajaaDoorEnv
set_option linter.unusedSimpArgs false
set_option maxRecDepth 100000
namespace Go.Proofs.YtmebolbjidjajaaDoor
open Go.RowKit
/-- How a command is wrong: 13, 1, or 0. -/
def lineE (l : List UInt8) (a b : Int) : Int :=
  match nums l with
  | none => 13
  | some n => if (n < 1 ∧ a ≠ 0) ∨ (n < 2 ∧ b ≠ 0) then 1 else 0
/-- The line of a command whose word has n numbers. -/
def lineN (n : Nat) (l : List UInt8) (a b : Int) : List UInt8 :=
  l ++ (if 1 ≤ n then 32 :: Lib.itoa a else []) ++ (if 2 ≤ n then 32 :: Lib.itoa b else []) ++ [10]
def lineL (l : List UInt8) (a b : Int) : List UInt8 := lineN ((nums l).getD 0) l a b
theorem numbers_at (s : ByteArray) (n : Nat) (h : nums s.data.toList = some n) (w : World) :
    Calls Tryd.prog 23 #[.string s] w fun e w' => e = .returned (.tuple #[.int .i64 n, .bool true]) ∧ Only [] w w' :=
  (numbers_any s w).mono fun e w' ⟨he, ho⟩ => ⟨by rw [he]; simp [numsI, numsB, h], ho⟩
theorem numbers_none (s : ByteArray) (h : nums s.data.toList = none) (w : World) :
    Calls Tryd.prog 23 #[.string s] w fun e w' => e = .returned (.tuple #[.int .i64 0, .bool false]) ∧ Only [] w w' :=
  (numbers_any s w).mono fun e w' ⟨he, ho⟩ => ⟨by rw [he]; simp [numsI, numsB, h], ho⟩
set_option maxHeartbeats 400000 in
theorem line_none (s : ByteArray) (a b : Int) (w : World) (h : nums s.data.toList = none) :
    Calls Tryd.prog 14 #[.agg #[.string s, .int .i64 a, .int .i64 b]] w fun e w' => e = .returned (.tuple #[.string ⟨#[]⟩, .int .i64 13]) ∧ Only [] w w' := by
  have H := Lib.hid h
  clear h
  go_enter Tryd.func14, Tryd.ntmps14
  go_wp2_with (go_at_call 23; refine (numbers_none s H.out _).mono ?_; rintro e w1 ⟨rfl, hO⟩)
  go_ret2
  exact ⟨rfl, ((Only.refl [] w).alloc _).trans_nil hO⟩
theorem line_cells {w w1 : World} (s : ByteArray) (a b : Int) (hO : Only [] (w.alloc (.cells #[.string s, .int .i64 a, .int .i64 b] 41)) w1) :
    w1.cell? ⟨w.heap.size, 0, none⟩ = some (.string s) ∧ w1.cell? ⟨w.heap.size, 1, none⟩ = some (.int .i64 a) ∧ w1.cell? ⟨w.heap.size, 2, none⟩ = some (.int .i64 b) := by
  have hB := (Blk.new w 41 #[.string s, .int .i64 a, .int .i64 b]).only_nil hO
  exact ⟨hB.cell 0, hB.cell 1, hB.cell 2⟩
set_option maxHeartbeats 400000 in
theorem line_arg0 (s : ByteArray) (a b : Int) (w : World) (h : nums s.data.toList = some 0) (hx : a ≠ 0) :
    Calls Tryd.prog 14 #[.agg #[.string s, .int .i64 a, .int .i64 b]] w fun e w' => e = .returned (.tuple #[.string ⟨#[]⟩, .int .i64 1]) ∧ Only [] w w' := by
  have H := Lib.hid h
  clear h
  have hx' : (a != 0) = true := by simpa using hx
  clear hx
  go_enter Tryd.func14, Tryd.ntmps14
  go_wp2_with (go_at_call 23; refine (numbers_at s 0 H.out _).mono ?_; rintro e w1 ⟨rfl, hO⟩; obtain ⟨c0, c1, c2⟩ := line_cells s a b hO)
  go_ret2
  exact ⟨rfl, ((Only.refl [] w).alloc _).trans_nil hO⟩
set_option maxHeartbeats 400000 in
theorem line_arg1 (s : ByteArray) (a b : Int) (n : Nat) (w : World) (h : nums s.data.toList = some n) (hn : n < 2) (ha : n = 0 → a = 0) (hx : b ≠ 0) :
    Calls Tryd.prog 14 #[.agg #[.string s, .int .i64 a, .int .i64 b]] w fun e w' => e = .returned (.tuple #[.string ⟨#[]⟩, .int .i64 1]) ∧ Only [] w w' := by
  have H := Lib.hid h
  clear h
  have hx' : (b != 0) = true := by simpa using hx
  clear hx
  rcases Nat.lt_or_ge n 1 with h1 | h1
  · obtain rfl : n = 0 := by omega
    obtain rfl : a = 0 := ha rfl
    clear ha
    go_enter Tryd.func14, Tryd.ntmps14
    go_wp2_with (go_at_call 23; refine (numbers_at s 0 H.out _).mono ?_; rintro e w1 ⟨rfl, hO⟩; obtain ⟨c0, c1, c2⟩ := line_cells s 0 b hO)
    go_ret2
    exact ⟨rfl, ((Only.refl [] w).alloc _).trans_nil hO⟩
  · obtain rfl : n = 1 := by omega
    clear ha
    go_enter Tryd.func14, Tryd.ntmps14
    go_wp2_with (go_at_call 23; refine (numbers_at s 1 H.out _).mono ?_; rintro e w1 ⟨rfl, hO⟩; obtain ⟨c0, c1, c2⟩ := line_cells s a b hO)
    go_ret2
    exact ⟨rfl, ((Only.refl [] w).alloc _).trans_nil hO⟩
theorem str_eq {a b : ByteArray} (h : a.data.toList = b.data.toList) : a = b := by
  rcases a with ⟨⟨a⟩⟩; rcases b with ⟨⟨b⟩⟩; simp only at h; rw [h]
theorem ret_str {a b : ByteArray} (v : Value) (h : a.data.toList = b.data.toList) : Ending.returned (.tuple #[.string a, v]) = .returned (.tuple #[.string b, v]) := by rw [str_eq h]
set_option maxHeartbeats 400000 in
theorem line_ok0 (s : ByteArray) (w : World) (h : nums s.data.toList = some 0) (hs : s.size ≤ 140737488351232) :
    Calls Tryd.prog 14 #[.agg #[.string s, .int .i64 0, .int .i64 0]] w fun e w' => e = .returned (.tuple #[.string ⟨(lineN 0 s.data.toList 0 0).toArray⟩, .int .i64 0]) ∧ Only [] w w' := by
  have H := Lib.hid h
  clear h
  go_enter Tryd.func14, Tryd.ntmps14
  go_wp2_with (go_at_call 23; refine (numbers_at s 0 H.out _).mono ?_; rintro e w1 ⟨rfl, hO⟩; obtain ⟨c0, c1, c2⟩ := line_cells s 0 0 hO)
  refine wp_loop_rounds 1 ?_
  rw [rounds_succ]
  go_wp2
  go_ret2
  exact ⟨ret_str _ (by simp [lineN]), (((Only.refl [] w).alloc _).trans_nil hO).alloc _⟩
theorem dec_len (k : Nat) : ∀ u, u < 10 ^ (k + 1) → (Lib.decDigits u).length ≤ k + 1 := by
  induction k with
  | zero => intro u hu; rw [Lib.decDigits, dif_pos (by simpa using hu)]; simp
  | succ k ih =>
    intro u hu
    rw [Lib.decDigits]
    split
    · simp
    · have := ih (u / 10) (by rw [Nat.pow_succ] at hu; omega)
      simp; omega
theorem itoa_len (a : Int) (h0 : -9223372036854775808 ≤ a) (h1 : a ≤ 9223372036854775807) : (Lib.itoa a).length ≤ 20 := by
  unfold Lib.itoa
  split
  · have := dec_len 18 a.natAbs (by omega); simp; omega
  · have := dec_len 18 a.toNat (by omega); omega
set_option maxHeartbeats 800000 in
theorem line_ok1 (s : ByteArray) (a : Int) (w : World) (h : nums s.data.toList = some 1) (hs : s.size ≤ 140737488351232) (h0 : -9223372036854775808 ≤ a) (h1 : a ≤ 9223372036854775807) (he : Env w) :
    Calls Tryd.prog 14 #[.agg #[.string s, .int .i64 a, .int .i64 0]] w fun e w' => e = .returned (.tuple #[.string ⟨(lineN 1 s.data.toList a 0).toArray⟩, .int .i64 0]) ∧ Only [] w w' := by
  have H := Lib.hid h
  have HI := Lib.hid (fun W (hW : Env W) => itoa_any a h0 h1 W hW)
  have hl := itoa_len a h0 h1
  clear h h0 h1
  unfold lineN
  generalize Lib.itoa a = ia at *
  go_enter Tryd.func14, Tryd.ntmps14
  go_wp2_with (go_at_call 23; refine (numbers_at s 1 H.out _).mono ?_; rintro e w1 ⟨rfl, hO⟩; obtain ⟨c0, c1, c2⟩ := line_cells s a 0 hO)
  have he1 := (he.alloc (.cells #[.string s, .int .i64 a, .int .i64 0] 41)).only_nil hO
  refine wp_loop_rounds 2 ?_
  rw [rounds_succ]
  go_wp2_with (go_at_call 24; refine (HI.out _ (he1.alloc _)).mono ?_; rintro e w2 ⟨rfl, hO2⟩)
  rw [rounds_succ]
  go_wp2
  go_ret2
  exact ⟨ret_str _ (by simp), ((((Only.refl [] w).alloc _).trans_nil hO).alloc _).trans_nil hO2⟩
set_option maxHeartbeats 800000 in
theorem line_ok2 (s : ByteArray) (a b : Int) (w : World) (h : nums s.data.toList = some 2) (hs : s.size ≤ 140737488351232) (h0 : -9223372036854775808 ≤ a) (h1 : a ≤ 9223372036854775807) (h2 : -9223372036854775808 ≤ b) (h3 : b ≤ 9223372036854775807) (he : Env w) :
    Calls Tryd.prog 14 #[.agg #[.string s, .int .i64 a, .int .i64 b]] w fun e w' => e = .returned (.tuple #[.string ⟨(lineN 2 s.data.toList a b).toArray⟩, .int .i64 0]) ∧ Only [] w w' := by
  have H := Lib.hid h
  have HI := Lib.hid (fun W (hW : Env W) => itoa_any a h0 h1 W hW)
  have HJ := Lib.hid (fun W (hW : Env W) => itoa_any b h2 h3 W hW)
  have hl := itoa_len a h0 h1
  have hm := itoa_len b h2 h3
  clear h h0 h1 h2 h3
  unfold lineN
  generalize Lib.itoa a = ia at *
  generalize Lib.itoa b = ib at *
  go_enter Tryd.func14, Tryd.ntmps14
  go_wp2_with (go_at_call 23; refine (numbers_at s 2 H.out _).mono ?_; rintro e w1 ⟨rfl, hO⟩; obtain ⟨c0, c1, c2⟩ := line_cells s a b hO)
  have he1 := (he.alloc (.cells #[.string s, .int .i64 a, .int .i64 b] 41)).only_nil hO
  refine wp_loop_rounds 3 ?_
  rw [rounds_succ]
  go_wp2_with (go_at_call 24; refine (HI.out _ (he1.alloc _)).mono ?_; rintro e w2 ⟨rfl, hO2⟩)
  have he2 := (he1.alloc (.cells #[.int .i64 a, .int .i64 b] 3)).only_nil hO2
  have hd : w2.cell? ⟨w1.heap.size, 1, none⟩ = some (.int .i64 b) := ((Blk.new w1 3 #[.int .i64 a, .int .i64 b]).only_nil hO2).cell 1
  rw [rounds_succ]
  go_wp2_with (go_at_call 24; refine (HJ.out _ he2).mono ?_; rintro e w3 ⟨rfl, hO3⟩)
  rw [rounds_succ]
  go_wp2
  go_ret2
  exact ⟨ret_str _ (by simp), (((((Only.refl [] w).alloc _).trans_nil hO).alloc _).trans_nil hO2).trans_nil hO3⟩
theorem nums_le (l : List UInt8) (n : Nat) (h : nums l = some n) : n ≤ 2 := by
  unfold nums at h
  have key : ∀ (ws : List (List UInt8 × Nat)), (∀ x ∈ ws, x.2 ≤ 2) → numsFrom l ws = some n → n ≤ 2 := by
    intro ws
    induction ws with
    | nil => intro _ h; simp [numsFrom] at h
    | cons x xs ih =>
      intro hx h
      unfold numsFrom at h
      split at h
      · injection h with h; subst h; exact hx x (by simp)
      · exact ih (fun y hy => hx y (by simp [hy])) h
  exact key wordList (by decide) h
/-- A command's line: the text, or how it is wrong. -/
theorem line_any (s : ByteArray) (a b : Int) (w : World) (hs : s.size ≤ 140737488351232) (h0 : -9223372036854775808 ≤ a) (h1 : a ≤ 9223372036854775807) (h2 : -9223372036854775808 ≤ b) (h3 : b ≤ 9223372036854775807) (he : Env w) :
    Calls Tryd.prog 14 #[.agg #[.string s, .int .i64 a, .int .i64 b]] w fun e w' =>
      e = .returned (.tuple #[.string ⟨(if lineE s.data.toList a b = 0 then lineL s.data.toList a b else []).toArray⟩, .int .i64 (lineE s.data.toList a b)]) ∧ Only [] w w' := by
  cases hn : nums s.data.toList with
  | none =>
    have e : lineE s.data.toList a b = 13 := by simp [lineE, hn]
    exact (line_none s a b w hn).mono fun _ _ ⟨hr, ho⟩ => ⟨by rw [hr]; simp [e], ho⟩
  | some n =>
    have hn2 := nums_le _ _ hn
    by_cases hx : (n < 1 ∧ a ≠ 0) ∨ (n < 2 ∧ b ≠ 0)
    · have e : lineE s.data.toList a b = 1 := by simp only [lineE, hn]; rw [if_pos hx]
      have key : Calls Tryd.prog 14 #[.agg #[.string s, .int .i64 a, .int .i64 b]] w fun e w' => e = .returned (.tuple #[.string ⟨#[]⟩, .int .i64 1]) ∧ Only [] w w' := by
        by_cases ha : n < 1 ∧ a ≠ 0
        · obtain rfl : n = 0 := by omega
          exact line_arg0 s a b w hn ha.2
        · exact line_arg1 s a b n w hn (by omega) (by omega) (by omega)
      exact key.mono fun _ _ ⟨hr, ho⟩ => ⟨by rw [hr]; simp [e], ho⟩
    · have e : lineE s.data.toList a b = 0 := by simp only [lineE, hn]; rw [if_neg hx]
      have e2 : lineL s.data.toList a b = lineN n s.data.toList a b := by simp [lineL, hn]
      have key : Calls Tryd.prog 14 #[.agg #[.string s, .int .i64 a, .int .i64 b]] w fun e w' => e = .returned (.tuple #[.string ⟨(lineN n s.data.toList a b).toArray⟩, .int .i64 0]) ∧ Only [] w w' := by
        rcases Nat.lt_or_ge n 1 with h | h
        · obtain rfl : n = 0 := by omega
          obtain rfl : a = 0 := by omega
          obtain rfl : b = 0 := by omega
          exact line_ok0 s w hn hs
        · rcases Nat.lt_or_ge n 2 with h' | h'
          · obtain rfl : n = 1 := by omega
            obtain rfl : b = 0 := by omega
            exact line_ok1 s a w hn hs h0 h1 he
          · obtain rfl : n = 2 := by omega
            exact line_ok2 s a b w hn hs h0 h1 h2 h3 he
      exact key.mono fun _ _ ⟨hr, ho⟩ => ⟨by rw [hr]; simp [e, e2], ho⟩
end Go.Proofs.YtmebolbjidjajaaDoor
