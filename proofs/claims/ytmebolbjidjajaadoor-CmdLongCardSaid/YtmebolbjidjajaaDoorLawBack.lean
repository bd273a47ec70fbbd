/-
  The law CmdBack.
-/
import Derived.Test.YtmebolbjidjajaaDoorLawFns
set_option linter.unusedSimpArgs false
set_option maxRecDepth 100000
namespace Go.Proofs.YtmebolbjidjajaaDoor
open Go.RowKit Go.Proofs.YtmebolbjidjajaaDoorW.PrintWords
theorem cvRow_at : ∀ (xs : List CV) (j : Nat) (x : CV), xs[j]? = some x → ∀ i, i < 3 → (cvRow xs)[j * 3 + i]? = (cvCells x)[i]?
  | [], j, x, h, i, hi => by simp at h
  | y :: xs, 0, x, h, i, hi => by
    obtain rfl : y = x := by simpa using h
    simp only [cvRow, List.map_cons, List.flatten_cons, Nat.zero_mul, Nat.zero_add]
    rw [List.getElem?_append_left (by simpa [cvCells] using hi)]
  | y :: xs, j + 1, x, h, i, hi => by
    have ih := cvRow_at xs j x (by simpa using h) i hi
    simp only [cvRow, List.map_cons, List.flatten_cons] at ih ⊢
    rw [List.getElem?_append_right (by simp [cvCells]; omega), show (j + 1) * 3 + i - (cvCells y).length = j * 3 + i by simp [cvCells]; omega]
    exact ih
/-- A row of ours reads as its commands. -/
theorem C_own {w : World} {base : Nat} {e : TypeId} {v : Value} {xs : List CV} (h : w.ownsRow base e 3 v xs.length (cvRow xs)) (hl : xs.length ≤ 1000000) :
    ∃ A cap, v = .slice A xs.length cap ∧ xs.length ≤ cap ∧ Kd.C kCV w A xs.length xs := by
  by_cases h0 : xs.length = 0
  · obtain ⟨_, ⟨hv, _⟩ | ⟨g, cap, cur, hv, _, _, hn, _⟩⟩ := h
    · exact ⟨none, 0, by rw [hv, h0], by omega, rfl, by omega, fun hp => by omega⟩
    · exact ⟨_, cap, hv, hn, rfl, by omega, fun hp => by omega⟩
  · obtain ⟨g, cap, hv, _, _, hc, hcell⟩ := ownsRow_cells h (by omega)
    refine ⟨_, cap, hv, hc, rfl, by omega, fun _ => ⟨_, rfl, fun j x hj => ⟨cvCells x, rfl, kCV_mk w x, fun i u hi => ?_⟩⟩⟩
    have h3 : i < 3 := (List.getElem?_eq_some_iff.1 hi).1
    have h2 := hcell (j * 3 + i) u (by rw [cvRow_at xs j x hj i h3]; exact hi)
    rw [show (⟨g, 0, none⟩ : Addr).add (j * kCV.sz + i) = ⟨g, j * 3 + i, none⟩ from ?_]
    · exact h2
    · show (⟨g, 0, none⟩ : Addr).add (j * 3 + i) = _
      generalize j * 3 + i = k
      cases k <;> simp [Addr.add]
/-- A row of commands that a law is handed: of int64s. -/
def Ints (xs : List CV) : Prop := ∀ x ∈ xs, I64 x.f1 ∧ I64 x.f2
theorem few_fine {xs : List CV} (h : fewB xs = true) (hi : Ints xs) : xs.length ≤ 100 ∧ ∀ x ∈ xs, x.f0.size ≤ 100 ∧ Fine x := by
  unfold fewB at h
  rw [Bool.and_eq_true] at h
  have hl : xs.length ≤ 100 := of_decide_eq_true h.2
  refine ⟨hl, fun x hx => ?_⟩
  have := List.all_eq_true.1 h.1 x (by rw [List.take_of_length_le (by omega)]; exact hx)
  have hs : x.f0.size ≤ 100 := of_decide_eq_true this
  exact ⟨hs, by omega, (hi x hx).1.1, (hi x hx).1.2, (hi x hx).2.1, (hi x hx).2.2⟩
theorem text_len : ∀ (xs : List CV) (n : Nat), (∀ x ∈ xs, x.L.length ≤ n) → (textOf xs).length ≤ xs.length * n
  | [], n, _ => by simp [textOf]
  | x :: xs, n, h => by
    have ih := text_len xs n fun y hy => h y (List.mem_cons_of_mem _ hy)
    have h1 := h x (by simp)
    simp only [textOf, List.flatMap_cons, List.length_append, List.length_cons] at ih ⊢
    rw [Nat.add_one_mul]
    omega
theorem L_len100 (x : CV) (h : Fine x) (hs : x.f0.size ≤ 100) : x.L.length ≤ 143 := by
  have := lineN_len ((nums x.f0.data.toList).getD 0) x.f0.data.toList x.f1 x.f2 h.2.1 h.2.2.1 h.2.2.2.1 h.2.2.2.2
  have h2 : x.f0.data.toList.length ≤ 100 := by rw [Array.length_toList]; exact hs
  unfold CV.L lineL
  omega
/-- What is told of few commands. -/
theorem print_few {xs : List CV} (h : fewB xs = true) (hi : Ints xs) :
    ((∀ x ∈ xs, Right x) ∧ printGo 0 [] xs = (textOf xs, 0, 0) ∧ (textOf xs).length ≤ 14300) ∨
    (∃ (pre : List CV) (x : CV) (post : List CV), xs = pre ++ x :: post ∧ (∀ y ∈ pre, y.E = 0) ∧ x.E ≠ 0 ∧ printGo 0 [] xs = ([], ((pre.length + 1 : Nat) : Int), x.E)) := by
  obtain ⟨hl, hf⟩ := few_fine h hi
  rcases all_or xs with ha | ⟨pre, x, post, h1, h2, h3⟩
  · left
    have hn := text_len xs 143 fun x hx => L_len100 x (hf x hx).2 (hf x hx).1
    refine ⟨fun x hx => ⟨ha x hx, (hi x hx).1, (hi x hx).2⟩, ?_, by omega⟩
    rw [print_ok xs 0 [] ha, List.nil_append, if_neg (by omega)]
  · right
    refine ⟨pre, x, post, h1, h2, h3, ?_⟩
    rw [h1, print_bad pre x post 0 [] h2 h3]
    simp
set_option maxHeartbeats 4000000 in
theorem back_far (A : Option Addr) (c : Nat) (xs : List CV) (s : ByteArray) (w : World) (hr : Kd.C kCV w A xs.length xs) (hc : xs.length ≤ c) (he : Env w) (h : fewB xs = false ∨ 3000 < s.size) :
    Calls Tryd.prog 4 #[.slice A xs.length c, .string s] w fun e w' => e = .returned (.bool true) ∧ Only [] w w' := by
  have HC := Lib.hid hc
  clear hc
  have HF := Lib.hid (few_any A c xs w hr HC.out)
  cases hb : fewB xs with
  | false =>
    rw [hb] at HF
    clear h hb
    go_enter Tryd.func4, Tryd.ntmps4
    go_wp2_with (first
      | (go_at_call 7; refine HF.out.mono ?_; rintro e w1 ⟨rfl, rfl⟩)
      | (go_at_call 8; refine (awake_any _ he).mono ?_; rintro e w2 ⟨rfl, hO⟩))
    go_ret
    exact ⟨rfl, hO⟩
  | true =>
    rw [hb] at HF
    have h3 : (3000 : Int) < s.size := by
      rcases h with h | h
      · rw [h] at hb; cases hb
      · omega
    clear h hb
    go_enter Tryd.func4, Tryd.ntmps4
    go_wp2_with (first
      | (go_at_call 7; refine HF.out.mono ?_; rintro e w1 ⟨rfl, rfl⟩)
      | (go_at_call 8; refine (awake_any _ he).mono ?_; rintro e w2 ⟨rfl, hO⟩))
    go_ret
    exact ⟨rfl, hO⟩
/-- What Parse tells of a text that is right, and of one that is not. -/
theorem parse_ok (s : ByteArray) (m : List CV) (hs : s.size ≤ 65536) (hp : parseR (linesB s.data.toList) [] = (m, 0, 0)) (hm : m.length ≤ 1000000) (w : World) (he : Env w) :
    Calls Tryd.prog 12 #[.string s] w fun e w' => ∃ A cap, e = .returned (.tuple #[.slice A m.length cap, .int .i64 0, .int .i64 0]) ∧ m.length ≤ cap ∧ Kd.C kCV w' A m.length m ∧ Only [] w w' := by
  have ht : parseT s = (m, 0, 0) := by rw [parseT, if_neg (by omega)]; exact hp
  refine (parse_any s w he).mono ?_
  rw [ht]
  rintro e w' ⟨v, rfl, hown, hO⟩
  obtain ⟨A, cap, rfl, hc, hC⟩ := C_own hown hm
  exact ⟨A, cap, rfl, hc, hC, hO⟩
theorem parse_err (s : ByteArray) (k e : Int) (ht : parseT s = ([], k, e)) (w : World) (he : Env w) :
    Calls Tryd.prog 12 #[.string s] w fun r w' => ∃ A cap, r = .returned (.tuple #[.slice A 0 cap, .int .i64 k, .int .i64 e]) ∧ Only [] w w' := by
  refine (parse_any s w he).mono ?_
  rw [ht]
  rintro r w' ⟨v, rfl, hown, hO⟩
  obtain ⟨A, cap, rfl⟩ := ownsRow_slice hown
  exact ⟨A, cap, rfl, hO⟩
theorem textOf_lines (m : List CV) : m.length ≤ (textOf m).length := by
  induction m with
  | nil => simp [textOf]
  | cons x m ih =>
    have : 0 < x.L.length := by rw [CV.L_eq]; simp
    simp only [textOf, List.flatMap_cons, List.length_append, List.length_cons] at ih ⊢
    omega
set_option maxHeartbeats 4000000 in
theorem back_near (A : Option Addr) (c : Nat) (xs : List CV) (s : ByteArray) (w : World) (hr : Kd.C kCV w A xs.length xs) (hc : xs.length ≤ c) (he : Env w) (hb : fewB xs = true) (hi : Ints xs) (h3 : s.size ≤ 3000) :
    Calls Tryd.prog 4 #[.slice A xs.length c, .string s] w fun e w' => e = .returned (.bool true) ∧ Only [] w w' := by
  have HC := Lib.hid hc
  have HF := Lib.hid (few_any A c xs w hr HC.out)
  obtain ⟨hl, hf⟩ := few_fine hb hi
  have HP := Lib.hid (fun W (hW : Env W) (hrW : Kd.C kCV W A xs.length xs) => print_any A c xs W hrW HC.out hW (fun x hx => (hf x hx).2) (by omega))
  have HPL := Lib.hid (fun W (hrW : Kd.C kCV W A xs.length xs) => plain_any A c xs W hrW HC.out (by omega))
  have HR := Lib.hid hr
  have hpf := print_few hb hi
  rw [hb] at HF
  have hs3 : ¬ (3000 : Int) < s.size := by omega
  have htf := text_fwd s.data.toList
  have hlB : linesB s.data.toList = (linesL s.data.toList).map mkS := rfl
  clear hc hr hb hf
  rcases hpf with ⟨hright, hpr, htl⟩ | ⟨pre, x, post, h1, h2, hx, hpr⟩
  · rw [hpr] at HP
    have HQ := Lib.hid (fun W (hW : Env W) => parse_ok ⟨(textOf xs).toArray⟩ xs (by simp [ByteArray.size]; omega) (text_back xs hright) (by omega) W hW)
    rcases htf with ⟨m, hm1, hm2, hm3⟩ | ⟨k, e, hke, hm1⟩
    · have ht : parseR (linesB s.data.toList) [] = (m, 0, 0) := hm1
      have hml : m.length ≤ 3000 := by have := textOf_lines m; rw [hm3, Array.length_toList] at this; exact Nat.le_trans this h3
      have HS := Lib.hid (fun W (hW : Env W) => parse_ok s m (by omega) ht (by omega) W hW)
      have hfm : ∀ x ∈ m, Fine x := fun x hx => ⟨by have := (hm2 x hx).2; rw [Array.length_toList] at this; exact Nat.le_trans this (by decide), (hm2 x hx).1.2.1.1, (hm2 x hx).1.2.1.2, (hm2 x hx).1.2.2.1, (hm2 x hx).1.2.2.2⟩
      have hpm : printGo 0 [] m = (s.data.toList, 0, 0) := by
        rw [print_ok m 0 [] (fun x hx => (hm2 x hx).1.1), List.nil_append, hm3, Array.length_toList, if_neg (show ¬ 65536 < s.data.size by have : s.data.size = s.size := rfl; omega)]
      have HM := Lib.hid (fun A c W (hW : Env W) (hrW : Kd.C kCV W A m.length m) (hcW : m.length ≤ c) => print_any A c m W hrW hcW hW hfm (by omega))
      rw [hpm] at HM
      have hself : (⟨s.data.toList.toArray⟩ : ByteArray) = s := mkS_self s
      simp only [hself] at HM
      have hml' : ¬ ((m.length : Int) < 0) := by omega
      generalize (textOf xs).toArray = tx at *
      clear hm1 hm2 hm3 ht hlB hpr hright htl hfm hpm hself
      go_enter Tryd.func4, Tryd.ntmps4
      go_wp2_with (first
        | (go_at_call 7; refine HF.out.mono ?_; rintro e w1 ⟨rfl, rfl⟩)
        | (go_at_call 9; with_reducible show Calls _ _ #[.slice A _ _] _ _
           refine (HP.out _ he HR.out).mono ?_; rintro e1 w1 ⟨rfl, hO1⟩; have he1 := he.only_nil hO1)
        | (go_at_call 12; with_reducible show Calls _ _ #[.string ⟨tx⟩] _ _
           refine (HQ.out _ he1).mono ?_; rintro e2 w2 ⟨A2, c2, rfl, hcap2, hC2, hO2⟩; have hO12 := hO1.trans_nil hO2; have he2 := he.only_nil hO12)
        | (go_at_call 10; refine (HPL.out _ (C_only HR.out hO12)).mono ?_; rintro e3 w3 ⟨v3, rfl, hown3, hO3⟩; obtain ⟨A3, c3, rfl, hcap3, hC3⟩ := C_own hown3 (by omega); have hO13 := hO12.trans_nil hO3; have he3 := he.only_nil hO13)
        | (go_at_call 13; refine (same_any A2 A3 c2 c3 xs _ (C_only hC2 hO3) hcap2 hC3 hcap3 (by omega)).mono ?_; rintro e4 w4 ⟨rfl, hO4⟩; have hO14 := hO13.trans_nil hO4; have he4 := he.only_nil hO14)
        | (go_at_call 12
           refine (HS.out _ he4).mono ?_; rintro e5 w5 ⟨A5, c5, rfl, hcap5, hC5, hO5⟩; have hO15 := hO14.trans_nil hO5; have he5 := he.only_nil hO15)
        | (go_at_call 9
           refine (HM.out A5 c5 _ he5 hC5 hcap5).mono ?_; rintro e6 w6 ⟨rfl, hO6⟩; have hO16 := hO15.trans_nil hO6; have he6 := he.only_nil hO16)
        | (go_at_call 8; refine (awake_any _ he6).mono ?_; rintro e6 w7 ⟨rfl, hO7⟩))
      go_ret
      exact ⟨rfl, hO16.trans_nil hO7⟩
    · have ht : parseT s = ([], ((k + 1 : Nat) : Int), e) := by rw [parseT, if_neg (by omega)]; exact hm1
      have HS := Lib.hid (fun W (hW : Env W) => parse_err s _ _ ht W hW)
      have hke' : (e != 0) = true := by simpa using hke
      have hk1 : (1 : Int) ≤ ((k + 1 : Nat) : Int) := by omega
      generalize ((k + 1 : Nat) : Int) = k1 at *
      generalize (textOf xs).toArray = tx at *
      clear hm1 ht hlB hpr hright htl hke
      go_enter Tryd.func4, Tryd.ntmps4
      go_wp2_with (first
        | (go_at_call 7; refine HF.out.mono ?_; rintro e w1 ⟨rfl, rfl⟩)
        | (go_at_call 9; with_reducible show Calls _ _ #[.slice A _ _] _ _
           refine (HP.out _ he HR.out).mono ?_; rintro e1 w1 ⟨rfl, hO1⟩; have he1 := he.only_nil hO1)
        | (go_at_call 12; with_reducible show Calls _ _ #[.string ⟨tx⟩] _ _
           refine (HQ.out _ he1).mono ?_; rintro e2 w2 ⟨A2, c2, rfl, hcap2, hC2, hO2⟩; have hO12 := hO1.trans_nil hO2; have he2 := he.only_nil hO12)
        | (go_at_call 10; refine (HPL.out _ (C_only HR.out hO12)).mono ?_; rintro e3 w3 ⟨v3, rfl, hown3, hO3⟩; obtain ⟨A3, c3, rfl, hcap3, hC3⟩ := C_own hown3 (by omega); have hO13 := hO12.trans_nil hO3; have he3 := he.only_nil hO13)
        | (go_at_call 13; refine (same_any A2 A3 c2 c3 xs _ (C_only hC2 hO3) hcap2 hC3 hcap3 (by omega)).mono ?_; rintro e4 w4 ⟨rfl, hO4⟩; have hO14 := hO13.trans_nil hO4; have he4 := he.only_nil hO14)
        | (go_at_call 12
           refine (HS.out _ he4).mono ?_; rintro e5 w5 ⟨A5, c5, rfl, hO5⟩; have hO16 := hO14.trans_nil hO5; have he6 := he.only_nil hO16)
        | (go_at_call 8; refine (awake_any _ he6).mono ?_; rintro e6 w7 ⟨rfl, hO7⟩))
      go_ret
      exact ⟨rfl, hO16.trans_nil hO7⟩
  · rw [hpr] at HP
    have hxe : (x.E != 0) = true := by simpa using hx
    have hxe' : (x.E == 0) = false := by simpa using hx
    have hn1 : ((pre.length + 1 : Nat) : Int) ≤ xs.length := by rw [h1]; simp; omega
    have hn2 : (1 : Int) ≤ ((pre.length + 1 : Nat) : Int) := by omega
    generalize ((pre.length + 1 : Nat) : Int) = n1 at *
    generalize x.E = xe at *
    clear h1 h2 hx hpr
    rcases htf with ⟨m, hm1, hm2, hm3⟩ | ⟨k, e, hke, hm1⟩
    · have ht : parseR (linesB s.data.toList) [] = (m, 0, 0) := hm1
      have hml : m.length ≤ 3000 := by have := textOf_lines m; rw [hm3, Array.length_toList] at this; exact Nat.le_trans this h3
      have HS := Lib.hid (fun W (hW : Env W) => parse_ok s m (by omega) ht (by omega) W hW)
      have hfm : ∀ x ∈ m, Fine x := fun x hx => ⟨by have := (hm2 x hx).2; rw [Array.length_toList] at this; exact Nat.le_trans this (by decide), (hm2 x hx).1.2.1.1, (hm2 x hx).1.2.1.2, (hm2 x hx).1.2.2.1, (hm2 x hx).1.2.2.2⟩
      have hpm : printGo 0 [] m = (s.data.toList, 0, 0) := by
        rw [print_ok m 0 [] (fun x hx => (hm2 x hx).1.1), List.nil_append, hm3, Array.length_toList, if_neg (show ¬ 65536 < s.data.size by have : s.data.size = s.size := rfl; omega)]
      have HM := Lib.hid (fun A c W (hW : Env W) (hrW : Kd.C kCV W A m.length m) (hcW : m.length ≤ c) => print_any A c m W hrW hcW hW hfm (by omega))
      rw [hpm] at HM
      have hself : (⟨s.data.toList.toArray⟩ : ByteArray) = s := mkS_self s
      simp only [hself] at HM
      have hml' : ¬ ((m.length : Int) < 0) := by omega
      clear hm1 hm2 hm3 ht hlB hfm hpm hself
      go_enter Tryd.func4, Tryd.ntmps4
      go_wp2_with (first
        | (go_at_call 7; refine HF.out.mono ?_; rintro e w1 ⟨rfl, rfl⟩)
        | (go_at_call 9; with_reducible show Calls _ _ #[.slice A _ _] _ _
           refine (HP.out _ he HR.out).mono ?_; rintro e1 w1 ⟨rfl, hO1⟩; have he1 := he.only_nil hO1; have hO14 := hO1; have he4 := he1)
        | (go_at_call 12
           refine (HS.out _ he4).mono ?_; rintro e5 w5 ⟨A5, c5, rfl, hcap5, hC5, hO5⟩; have hO15 := hO14.trans_nil hO5; have he5 := he.only_nil hO15)
        | (go_at_call 9
           refine (HM.out A5 c5 _ he5 hC5 hcap5).mono ?_; rintro e6 w6 ⟨rfl, hO6⟩; have hO16 := hO15.trans_nil hO6; have he6 := he.only_nil hO16)
        | (go_at_call 8; refine (awake_any _ he6).mono ?_; rintro e6 w7 ⟨rfl, hO7⟩))
      go_ret
      exact ⟨rfl, hO16.trans_nil hO7⟩
    · have ht : parseT s = ([], ((k + 1 : Nat) : Int), e) := by rw [parseT, if_neg (by omega)]; exact hm1
      have HS := Lib.hid (fun W (hW : Env W) => parse_err s _ _ ht W hW)
      have hke' : (e != 0) = true := by simpa using hke
      have hk1 : (1 : Int) ≤ ((k + 1 : Nat) : Int) := by omega
      generalize ((k + 1 : Nat) : Int) = k1 at *
      clear hm1 ht hlB hke
      go_enter Tryd.func4, Tryd.ntmps4
      go_wp2_with (first
        | (go_at_call 7; refine HF.out.mono ?_; rintro e w1 ⟨rfl, rfl⟩)
        | (go_at_call 9; with_reducible show Calls _ _ #[.slice A _ _] _ _
           refine (HP.out _ he HR.out).mono ?_; rintro e1 w1 ⟨rfl, hO1⟩; have he1 := he.only_nil hO1; have hO14 := hO1; have he4 := he1)
        | (go_at_call 12
           refine (HS.out _ he4).mono ?_; rintro e5 w5 ⟨A5, c5, rfl, hO5⟩; have hO16 := hO14.trans_nil hO5; have he6 := he.only_nil hO16)
        | (go_at_call 8; refine (awake_any _ he6).mono ?_; rintro e6 w7 ⟨rfl, hO7⟩))
      go_ret
      exact ⟨rfl, hO16.trans_nil hO7⟩
theorem back_any (A : Option Addr) (c : Nat) (xs : List CV) (s : ByteArray) (w : World) (hr : Kd.C kCV w A xs.length xs) (hc : xs.length ≤ c) (he : Env w) (hi : Ints xs) :
    Calls Tryd.prog 4 #[.slice A xs.length c, .string s] w fun e w' => e = .returned (.bool true) ∧ Only [] w w' := by
  cases hb : fewB xs with
  | false => exact back_far A c xs s w hr hc he (.inl hb)
  | true =>
    by_cases h3 : s.size ≤ 3000
    · exact back_near A c xs s w hr hc he hb hi h3
    · exact back_far A c xs s w hr hc he (.inr (by omega))
end Go.Proofs.YtmebolbjidjajaaDoor
