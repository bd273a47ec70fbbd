/-
  The document's answer for a command's line: punnetref23.Numbers, Digits, Number, Line.
-/
import Derived.Test.YtmebolbjidjajaaDoorLawBack
import Derived.Orders
set_option linter.unusedSimpArgs false
set_option maxRecDepth 100000
namespace Go.Proofs.YtmebolbjidjajaaDoor
open Go.RowKit
set_option maxHeartbeats 4000000 in
theorem refNumbers_word (s : ByteArray) (n : Nat) (h : nums s.data.toList = some n) (w : World) :
    Calls Tryd.prog 18 #[.string s] w fun e w' => e = .returned (.int .i64 n) ∧ w = w' := by
  have hm := numsFrom_mem _ _ _ h
  clear h
  obtain ⟨l, hl⟩ : ∃ l, s.data.toList = l := ⟨_, rfl⟩
  obtain rfl : s = ⟨l.toArray⟩ := by rw [← hl]
  rw [hl] at hm
  clear hl
  simp only [wordList, List.mem_cons, Prod.mk.injEq, List.not_mem_nil, or_false] at hm
  rcases hm with ⟨rfl, rfl⟩ | ⟨rfl, rfl⟩ | ⟨rfl, rfl⟩ | ⟨rfl, rfl⟩ | ⟨rfl, rfl⟩ | ⟨rfl, rfl⟩ | ⟨rfl, rfl⟩ | ⟨rfl, rfl⟩ | ⟨rfl, rfl⟩ | ⟨rfl, rfl⟩ | ⟨rfl, rfl⟩ | ⟨rfl, rfl⟩ | ⟨rfl, rfl⟩ | ⟨rfl, rfl⟩ | ⟨rfl, rfl⟩ | ⟨rfl, rfl⟩ | ⟨rfl, rfl⟩
  all_goals
    go_enter Tryd.func18, Tryd.ntmps18
    go_wp2
    go_ret
    exact ⟨rfl, rfl⟩
theorem nums_none : ∀ (W : List (List UInt8 × Nat)) (l : List UInt8), numsFrom l W = none → ∀ x ∈ W, x.1 ≠ l
  | [], _, _, x, hx => by simp at hx
  | y :: W, l, h, x, hx => by
    rw [numsFrom] at h
    split at h
    · cases h
    · rename_i hy
      rcases List.mem_cons.1 hx with rfl | hx
      · exact hy
      · exact nums_none W l h x hx
set_option maxHeartbeats 4000000 in
theorem refNumbers_none (s : ByteArray) (h : nums s.data.toList = none) (w : World) :
    Calls Tryd.prog 18 #[.string s] w fun e w' => e = .returned (.int .i64 (-1)) ∧ w = w' := by
  have hm : ∀ x ∈ wordList, (s.toList == x.1) = false := fun x hx => by
    rw [Go.ByteArray.toList_eq]
    have := nums_none _ _ h x hx
    simpa using fun e => this e.symm
  clear h
  simp only [wordList, List.forall_mem_cons, List.not_mem_nil, false_implies, implies_true, and_true] at hm
  obtain ⟨h1, h2, h3, h4, h5, h6, h7, h8, h9, h10, h11, h12, h13, h14, h15, h16, h17⟩ := hm
  go_enter Tryd.func18, Tryd.ntmps18
  go_wp2
  go_ret
  exact ⟨rfl, rfl⟩
def dtab : ByteArray := ⟨#[48, 49, 50, 51, 52, 53, 54, 55, 56, 57]⟩
theorem dtab_at (d : Nat) (h : d < 10) : dtab.extract d (d + 1) = ⟨#[UInt8.ofNat (48 + d)]⟩ := by
  have : ∀ k : Fin 10, dtab.extract k.val (k.val + 1) = ⟨#[UInt8.ofNat (48 + k.val)]⟩ := by decide +kernel
  exact this ⟨d, h⟩
theorem mkS_app (a b : List UInt8) : mkS a ++ mkS b = mkS (a ++ b) := by
  apply str_eq
  rw [ByteArray.data_append]
  simp [mkS]
set_option maxHeartbeats 2000000 in
theorem refDigits : ∀ (k u : Nat) (w : World), u ≤ k → u < 18446744073709551616 → Calls Tryd.prog 26 #[.int .u64 u] w fun e w' => e = .returned (.string (mkS (Lib.decDigits u))) ∧ Only [] w w'
  | k, u, w, hk, hu => by
    by_cases h : u < 10
    · have h' : (u : Int) < 10 := by omega
      have hd := dtab_at u h
      rw [Lib.decDigits_one h]
      have HD := Lib.hid hd
      clear hd
      go_enter Tryd.func26, Tryd.ntmps26
      go_wp2
      go_ret
      refine ⟨?_, Only.refl _ _⟩
      rw [show (⟨#[48, 49, 50, 51, 52, 53, 54, 55, 56, 57]⟩ : ByteArray).extract u (u + 1) = _ from HD.out]
      rfl
    · cases k with
      | zero => omega
      | succ k =>
        have ih := Lib.hid (fun W => refDigits k (u / 10) W (by omega) (by omega))
        have h' : ¬ (u : Int) < 10 := by omega
        have hq : Int.tdiv (u : Int) 10 = ((u / 10 : Nat) : Int) := by rw [Int.tdiv_eq_ediv_of_nonneg (by omega)]; omega
        have hm : Int.tmod (u : Int) 10 = ((u % 10 : Nat) : Int) := by rw [Int.tmod_eq_emod_of_nonneg (by omega)]; omega
        have hm10 : u % 10 < 10 := Nat.mod_lt _ (by omega)
        have HD := Lib.hid (dtab_at (u % 10) hm10)
        have HB := Lib.hid (decDigits_big h)
        have hdl : (Lib.decDigits (u / 10)).length ≤ 20 := decDigits_len 19 _ (by omega)
        generalize hr : u % 10 = r at *
        generalize hdq : u / 10 = q at *
        obtain ⟨dq, hdq2⟩ : ∃ dq, mkS (Lib.decDigits q) = dq := ⟨_, rfl⟩
        have hdz : dq.size ≤ 20 := by rw [← hdq2]; exact hdl
        have hsz : dq.size + ((⟨#[48, 49, 50, 51, 52, 53, 54, 55, 56, 57]⟩ : ByteArray).extract r (r + 1)).size ≤ 9223372036854775807 := by
          rw [show (⟨#[48, 49, 50, 51, 52, 53, 54, 55, 56, 57]⟩ : ByteArray).extract r (r + 1) = _ from HD.out]
          show dq.size + 1 ≤ _
          omega
        have hsz2 : (9223372036854775807 < dq.size + ((⟨#[48, 49, 50, 51, 52, 53, 54, 55, 56, 57]⟩ : ByteArray).extract r (r + 1)).size) = False := eq_false (Nat.not_lt.2 hsz)
        have hsz3 : dq.size + (min (r + 1) 10 - r) ≤ 9223372036854775807 := by omega
        have hsz4 : (9223372036854775807 < dq.size + (min (r + 1) 10 - r)) = False := eq_false (Nat.not_lt.2 hsz3)
        rw [hdq2] at ih
        have HQ := Lib.hid hdq2
        clear hdq2 hdl hdz
        have b0 : (0 : Int) ≤ (r : Int) := by omega
        have b1 : (r : Int) + 1 ≤ 10 := by omega
        have b2 : ((r : Int) + 1).toNat = r + 1 := by omega
        have w1 : IntKind.u64.wrap (q : Int) = q := by rw [IntKind.wrap_u64]; omega
        have w2 : IntKind.u64.wrap ((r : Int) + 1) = (r : Int) + 1 := by rw [IntKind.wrap_u64]; omega
        go_enter Tryd.func26, Tryd.ntmps26
        go_wp2
        go_region_with (go_at_call 26; refine (ih.out _).mono ?_; rintro e w1 ⟨rfl, hO⟩)
        all_goals go_wp2
        all_goals go_ret
        all_goals rw [show (⟨#[48, 49, 50, 51, 52, 53, 54, 55, 56, 57]⟩ : ByteArray).extract r (r + 1) = _ from HD.out, HB.out, ← HQ.out, show (⟨#[UInt8.ofNat (48 + r)]⟩ : ByteArray) = mkS [UInt8.ofNat (48 + r)] from rfl, mkS_app]
        all_goals exact ⟨rfl, ((Only.refl [] w).drew).trans_nil hO⟩
theorem refNumber (a : Int) (h0 : -9223372036854775808 ≤ a) (h1 : a ≤ 9223372036854775807) (w : World) :
    Calls Tryd.prog 19 #[.int .i64 a] w fun e w' => e = .returned (.string (mkS (Lib.itoa a))) ∧ Only [] w w' := by
  by_cases hn : a < 0
  · obtain ⟨u, rfl⟩ : ∃ u : Nat, a = -(u : Int) := ⟨a.natAbs, by omega⟩
    have ih := Lib.hid (fun W => refDigits u u W (Nat.le_refl _) (by omega))
    have w1 : IntKind.u64.wrap (-IntKind.u64.wrap (-(u : Int))) = u := by rw [IntKind.wrap_u64, IntKind.wrap_u64]; omega
    rw [Lib.itoa_neg u (by omega)]
    have hz : (mkS (Lib.decDigits u)).size ≤ 20 := decDigits_len 19 _ (by omega)
    have hcat : (⟨#[45]⟩ : ByteArray) ++ mkS (Lib.decDigits u) = mkS (45 :: Lib.decDigits u) := mkS_app [45] _
    have HC := Lib.hid hcat
    clear hcat
    generalize mkS (Lib.decDigits u) = du at *
    go_enter Tryd.func19, Tryd.ntmps19
    go_wp2_with (go_at_call 26; refine (ih.out _).mono ?_; rintro e w1 ⟨rfl, hO⟩)
    go_ret
    rw [HC.out]
    exact ⟨rfl, hO⟩
  · obtain ⟨u, rfl⟩ : ∃ u : Nat, a = (u : Int) := ⟨a.natAbs, by omega⟩
    have ih := Lib.hid (fun W => refDigits u u W (Nat.le_refl _) (by omega))
    have w1 : IntKind.u64.wrap (u : Int) = u := by rw [IntKind.wrap_u64]; omega
    rw [Lib.itoa_nonneg u]
    go_enter Tryd.func19, Tryd.ntmps19
    go_wp2_with (go_at_call 26; refine (ih.out _).mono ?_; rintro e w1 ⟨rfl, hO⟩)
    go_ret
    exact ⟨rfl, hO⟩
set_option maxHeartbeats 800000 in
theorem refLine_none (s : ByteArray) (a b : Int) (w : World) (h : nums s.data.toList = none) :
    Calls Tryd.prog 11 #[.agg #[.string s, .int .i64 a, .int .i64 b]] w fun e w' => e = .returned (.tuple #[.string ⟨#[]⟩, .int .i64 13]) ∧ Only [] w w' := by
  have H := Lib.hid h
  clear h
  go_enter Tryd.func11, Tryd.ntmps11
  go_wp2_with (go_at_call 18; refine (refNumbers_none s H.out _).mono ?_; rintro e w1 ⟨rfl, rfl⟩)
  go_ret2
  exact ⟨rfl, (Only.refl [] w).alloc _⟩
set_option maxHeartbeats 800000 in
theorem refLine_arg0 (s : ByteArray) (a b : Int) (w : World) (h : nums s.data.toList = some 0) (hx : a ≠ 0) :
    Calls Tryd.prog 11 #[.agg #[.string s, .int .i64 a, .int .i64 b]] w fun e w' => e = .returned (.tuple #[.string ⟨#[]⟩, .int .i64 1]) ∧ Only [] w w' := by
  have H := Lib.hid h
  clear h
  have hx' : (a != 0) = true := by simpa using hx
  clear hx
  go_enter Tryd.func11, Tryd.ntmps11
  go_wp2_with (go_at_call 18; refine (refNumbers_word s 0 H.out _).mono ?_; rintro e w1 ⟨rfl, rfl⟩)
  go_ret2
  exact ⟨rfl, (Only.refl [] w).alloc _⟩
set_option maxHeartbeats 800000 in
theorem refLine_arg1 (s : ByteArray) (a b : Int) (n : Nat) (w : World) (h : nums s.data.toList = some n) (hn : n < 2) (ha : n = 0 → a = 0) (hx : b ≠ 0) :
    Calls Tryd.prog 11 #[.agg #[.string s, .int .i64 a, .int .i64 b]] w fun e w' => e = .returned (.tuple #[.string ⟨#[]⟩, .int .i64 1]) ∧ Only [] w w' := by
  have H := Lib.hid h
  clear h
  have hx' : (b != 0) = true := by simpa using hx
  clear hx
  rcases Nat.lt_or_ge n 1 with h1 | h1
  · obtain rfl : n = 0 := by omega
    obtain rfl : a = 0 := ha rfl
    clear ha
    go_enter Tryd.func11, Tryd.ntmps11
    go_wp2_with (go_at_call 18; refine (refNumbers_word s 0 H.out _).mono ?_; rintro e w1 ⟨rfl, rfl⟩)
    go_ret2
    exact ⟨rfl, (Only.refl [] w).alloc _⟩
  · obtain rfl : n = 1 := by omega
    clear ha
    go_enter Tryd.func11, Tryd.ntmps11
    go_wp2_with (go_at_call 18; refine (refNumbers_word s 1 H.out _).mono ?_; rintro e w1 ⟨rfl, rfl⟩)
    go_ret2
    exact ⟨rfl, (Only.refl [] w).alloc _⟩
set_option maxHeartbeats 800000 in
theorem refLine_ok0 (s : ByteArray) (w : World) (h : nums s.data.toList = some 0) (hs : s.size ≤ 140737488351232) :
    Calls Tryd.prog 11 #[.agg #[.string s, .int .i64 0, .int .i64 0]] w fun e w' => e = .returned (.tuple #[.string ⟨(lineN 0 s.data.toList 0 0).toArray⟩, .int .i64 0]) ∧ Only [] w w' := by
  have H := Lib.hid h
  clear h
  go_enter Tryd.func11, Tryd.ntmps11
  go_wp2_with (go_at_call 18; refine (refNumbers_word s 0 H.out _).mono ?_; rintro e w1 ⟨rfl, rfl⟩)
  go_ret2
  exact ⟨ret_str _ (by simp [lineN]), (Only.refl [] w).alloc _⟩
set_option maxHeartbeats 800000 in
theorem refLine_ok1 (s : ByteArray) (a : Int) (w : World) (h : nums s.data.toList = some 1) (hs : s.size ≤ 140737488351232) (h0 : -9223372036854775808 ≤ a) (h1 : a ≤ 9223372036854775807) :
    Calls Tryd.prog 11 #[.agg #[.string s, .int .i64 a, .int .i64 0]] w fun e w' => e = .returned (.tuple #[.string ⟨(lineN 1 s.data.toList a 0).toArray⟩, .int .i64 0]) ∧ Only [] w w' := by
  have H := Lib.hid h
  have HI := Lib.hid (fun W => refNumber a h0 h1 W)
  have hl : (mkS (Lib.itoa a)).size ≤ 20 := itoa_len a h0 h1
  clear h h0 h1
  unfold lineN
  have hia : (mkS (Lib.itoa a)).data.toList = Lib.itoa a := rfl
  have HA := Lib.hid hia
  clear hia
  generalize mkS (Lib.itoa a) = ia at *
  go_enter Tryd.func11, Tryd.ntmps11
  go_wp2_with (first
    | (go_at_call 18; refine (refNumbers_word s 1 H.out _).mono ?_; rintro e w1 ⟨rfl, rfl⟩)
    | (go_at_call 19; refine (HI.out _).mono ?_; rintro e w1 ⟨rfl, hO⟩; have hB := (Blk.new w 33 #[.string s, .int .i64 a, .int .i64 0]).only_nil hO; have c0 := hB.cell 0; have c1 := hB.cell 1; have c2 := hB.cell 2; have l0 := hB.lt))
  go_ret2
  exact ⟨ret_str _ (by simp [HA.out]), ((Only.refl [] w).alloc _).trans_nil hO⟩
set_option maxHeartbeats 800000 in
theorem refLine_ok2 (s : ByteArray) (a b : Int) (w : World) (h : nums s.data.toList = some 2) (hs : s.size ≤ 140737488351232) (h0 : -9223372036854775808 ≤ a) (h1 : a ≤ 9223372036854775807) (h2 : -9223372036854775808 ≤ b) (h3 : b ≤ 9223372036854775807) :
    Calls Tryd.prog 11 #[.agg #[.string s, .int .i64 a, .int .i64 b]] w fun e w' => e = .returned (.tuple #[.string ⟨(lineN 2 s.data.toList a b).toArray⟩, .int .i64 0]) ∧ Only [] w w' := by
  have H := Lib.hid h
  have HI := Lib.hid (fun W => refNumber a h0 h1 W)
  have HJ := Lib.hid (fun W => refNumber b h2 h3 W)
  have hl : (mkS (Lib.itoa a)).size ≤ 20 := itoa_len a h0 h1
  have hl2 : (mkS (Lib.itoa b)).size ≤ 20 := itoa_len b h2 h3
  clear h h0 h1 h2 h3
  unfold lineN
  have hia : (mkS (Lib.itoa a)).data.toList = Lib.itoa a := rfl
  have hib : (mkS (Lib.itoa b)).data.toList = Lib.itoa b := rfl
  have HA := Lib.hid hia
  have HB := Lib.hid hib
  clear hia hib
  obtain ⟨ia, hia⟩ : ∃ x, mkS (Lib.itoa a) = x := ⟨_, rfl⟩
  obtain ⟨ib, hib⟩ : ∃ x, mkS (Lib.itoa b) = x := ⟨_, rfl⟩
  rw [hia] at hl HA HI
  rw [hib] at hl2 HB HJ
  clear hia hib
  go_enter Tryd.func11, Tryd.ntmps11
  go_wp2_with (first
    | (go_at_call 18; refine (refNumbers_word s 2 H.out _).mono ?_; rintro e w1 ⟨rfl, rfl⟩)
    | (go_at_call 19; with_reducible show Calls _ _ #[.int .i64 a] (w.alloc _) _; refine (HI.out _).mono ?_; rintro e w1 ⟨rfl, hO⟩; have hB := (Blk.new w 33 #[.string s, .int .i64 a, .int .i64 b]).only_nil hO; have c0 := hB.cell 0; have c1 := hB.cell 1; have c2 := hB.cell 2; have l0 := hB.lt)
    | (go_at_call 19; refine (HJ.out _).mono ?_; rintro e w2 ⟨rfl, hO2⟩))
  go_ret2
  exact ⟨ret_str _ (by simp [HA.out, HB.out]), (((Only.refl [] w).alloc _).trans_nil hO).trans_nil hO2⟩
/-- The document's line of a command: the text, or how it is wrong. -/
theorem refLine_any (s : ByteArray) (a b : Int) (w : World) (hs : s.size ≤ 140737488351232) (h0 : -9223372036854775808 ≤ a) (h1 : a ≤ 9223372036854775807) (h2 : -9223372036854775808 ≤ b) (h3 : b ≤ 9223372036854775807) :
    Calls Tryd.prog 11 #[.agg #[.string s, .int .i64 a, .int .i64 b]] w fun e w' =>
      e = .returned (.tuple #[.string ⟨(if lineE s.data.toList a b = 0 then lineL s.data.toList a b else []).toArray⟩, .int .i64 (lineE s.data.toList a b)]) ∧ Only [] w w' := by
  cases hn : nums s.data.toList with
  | none =>
    have e : lineE s.data.toList a b = 13 := by simp [lineE, hn]
    exact (refLine_none s a b w hn).mono fun _ _ ⟨hr, ho⟩ => ⟨by rw [hr]; simp [e], ho⟩
  | some n =>
    have hn2 := nums_le _ _ hn
    by_cases hx : (n < 1 ∧ a ≠ 0) ∨ (n < 2 ∧ b ≠ 0)
    · have e : lineE s.data.toList a b = 1 := by simp only [lineE, hn]; rw [if_pos hx]
      have key : Calls Tryd.prog 11 #[.agg #[.string s, .int .i64 a, .int .i64 b]] w fun e w' => e = .returned (.tuple #[.string ⟨#[]⟩, .int .i64 1]) ∧ Only [] w w' := by
        by_cases ha : n < 1 ∧ a ≠ 0
        · obtain rfl : n = 0 := by omega
          exact refLine_arg0 s a b w hn ha.2
        · exact refLine_arg1 s a b n w hn (by omega) (by omega) (by omega)
      exact key.mono fun _ _ ⟨hr, ho⟩ => ⟨by rw [hr]; simp [e], ho⟩
    · have e : lineE s.data.toList a b = 0 := by simp only [lineE, hn]; rw [if_neg hx]
      have e2 : lineL s.data.toList a b = lineN n s.data.toList a b := by simp [lineL, hn]
      have key : Calls Tryd.prog 11 #[.agg #[.string s, .int .i64 a, .int .i64 b]] w fun e w' => e = .returned (.tuple #[.string ⟨(lineN n s.data.toList a b).toArray⟩, .int .i64 0]) ∧ Only [] w w' := by
        rcases Nat.lt_or_ge n 1 with h | h
        · obtain rfl : n = 0 := by omega
          obtain rfl : a = 0 := by omega
          obtain rfl : b = 0 := by omega
          exact refLine_ok0 s w hn hs
        · rcases Nat.lt_or_ge n 2 with h' | h'
          · obtain rfl : n = 1 := by omega
            obtain rfl : b = 0 := by omega
            exact refLine_ok1 s a w hn hs h0 h1
          · obtain rfl : n = 2 := by omega
            exact refLine_ok2 s a b w hn hs h0 h1 h2 h3
      exact key.mono fun _ _ ⟨hr, ho⟩ => ⟨by rw [hr]; simp [e, e2], ho⟩
end Go.Proofs.YtmebolbjidjajaaDoor
