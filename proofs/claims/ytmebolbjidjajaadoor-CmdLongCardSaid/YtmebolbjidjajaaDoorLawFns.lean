/-
  The small functions of the laws of layer 23: Few, plain, same, awake.
-/
import Derived.Test.YtmebolbjidjajaaDoorCmdLaws
import Derived.Deep.RegionHeld3
import Derived.Deep.AppendLies
import Derived.Laws.Pointers
import Derived.Deep.QuietTactic
set_option linter.unusedSimpArgs false
set_option maxRecDepth 100000
namespace Go.Proofs.YtmebolbjidjajaaDoor
open Go.RowKit Go.Proofs.YtmebolbjidjajaaDoorW.PrintWords
def small (x : CV) : Bool := decide (x.f0.size ≤ 100)
def fewB (xs : List CV) : Bool := (xs.take 101).all small && decide (xs.length ≤ 100)
theorem few_step (xs : List CV) (k : Nat) (h : k < xs.length) (h1 : k < 101) : (xs.take 101).drop k = xs.getD k cv0 :: (xs.take 101).drop (k + 1) := by
  rw [List.drop_eq_getElem_cons (by simp; omega)]
  simp [List.getD, h]
set_option maxHeartbeats 1000000 in
theorem few_any (A : Option Addr) (c : Nat) (xs : List CV) (w : World) (hr : Kd.C kCV w A xs.length xs) (hc : xs.length ≤ c) :
    Calls Tryd.prog 7 #[.slice A xs.length c] w fun e w' => e = .returned (.bool (fewB xs)) ∧ w = w' := by
  have HC := Lib.hid hc
  clear hc
  go_enter Tryd.func7, Tryd.ntmps7
  go_wp2
  go_loopw [3] (fun i wr => ∃ k : Nat, k ≤ xs.length ∧ k ≤ 101 ∧ i = .int .i64 k ∧ wr = w ∧ (xs.take 101).all small = ((xs.take 101).drop k).all small) (fun i _ => xs.length - (intOf i).toNat)
  case atStart => exact ⟨0, by omega, by omega, rfl, rfl, rfl⟩
  case round =>
    obtain ⟨k, hk, hk1, rfl, rfl, hall⟩ := hrel
    by_cases hlt : k < xs.length
    · by_cases h101 : k < 101
      · obtain ⟨ad, rfl, d0, _, _⟩ := at_CV hr k hlt
        rw [few_step xs k hlt h101, List.all_cons] at hall
        generalize xs.getD k cv0 = x at *
        have hlt' : (k : Int) < xs.length := by omega
        have h101' : (k : Int) < 101 := by omega
        by_cases hs : x.f0.size ≤ 100
        · have hsm : small x = true := by simpa [small] using hs
          rw [hsm, Bool.true_and] at hall
          have HA := Lib.hid hall
          clear hall hsm
          have hs' : ¬ (100 : Int) < x.f0.size := by omega
          go_wp2
          go_roundw
          case rel => exact ⟨k + 1, by omega, by omega, by go_num, trivial, HA.out⟩
          case measure => simp [intOf]; omega
        · have hsm : small x = false := by simpa [small] using hs
          rw [hsm, Bool.false_and] at hall
          have hf : fewB xs = false := by rw [fewB, hall, Bool.false_and]
          have HF := Lib.hid hf
          clear hall hsm hf
          have hs' : (100 : Int) < x.f0.size := by omega
          go_wp2
          go_ret
          rw [HF.out]
          exact ⟨rfl, rfl⟩
      · obtain rfl : k = 101 := by omega
        have hf : fewB xs = decide (xs.length ≤ 100) := by rw [fewB, hall, List.drop_eq_nil_of_le (by simp; omega), List.all_nil, Bool.true_and]
        have HF := Lib.hid hf
        clear hall hf
        have hlt' : (101 : Int) < xs.length := by omega
        go_wp2
        go_ret
        rw [HF.out]
        refine ⟨?_, rfl⟩
        congr 2
        simp
        omega
    · obtain rfl : k = xs.length := by omega
      have hf : fewB xs = decide (xs.length ≤ 100) := by rw [fewB, hall, List.drop_eq_nil_of_le (by simp; omega), List.all_nil, Bool.true_and]
      have HF := Lib.hid hf
      clear hall hf
      go_wp2
      go_ret
      rw [HF.out]
      refine ⟨?_, rfl⟩
      congr 2
      simp
      try omega
theorem info_ref : (Tryd.prog.info? 33).map (fun i => (i.zero, i.size, i.bytes)) = some (some (.agg #[.string ⟨#[]⟩, .int .i64 0, .int .i64 0]), 3, 32) := by kernel_rfl
theorem cvRow_snoc (xs : List CV) (x : CV) : cvRow (xs ++ [x]) = cvRow xs ++ cvCells x := by simp [cvRow]
theorem take_snoc (xs : List CV) (k : Nat) (h : k < xs.length) : xs.take (k + 1) = xs.take k ++ [xs.getD k cv0] := by
  rw [List.take_add_one, List.getElem?_eq_getElem h]
  simp [List.getD, h]
set_option maxHeartbeats 2000000 in
theorem plain_any (A : Option Addr) (c : Nat) (xs : List CV) (w : World) (hr : Kd.C kCV w A xs.length xs) (hc : xs.length ≤ c) (hn : xs.length ≤ 1000000) :
    Calls Tryd.prog 10 #[.slice A xs.length c] w fun e w' => ∃ v, e = .returned v ∧ w'.ownsRow w.heap.size 33 3 v xs.length (cvRow xs) ∧ Only [] w w' := by
  have HC := Lib.hid hc
  clear hc
  obtain ⟨i0, hi, hz0, hz1, hz2⟩ := info_parts info_ref
  go_enter Tryd.func10, Tryd.ntmps10
  go_wp2
  go_loopw [3, 4] (fun v i wr => ∃ (k : Nat), k ≤ xs.length ∧ i = .int .i64 k ∧ wr.ownsRow w.heap.size 33 3 v k (cvRow (xs.take k)) ∧ Only [] w wr) (fun _ i _ => xs.length - (intOf i).toNat)
  case atStart => exact ⟨0, by omega, rfl, ⟨rfl, .inr ⟨w.heap.size, 0, #[], rfl, Nat.le_refl _, heap_alloc_new w _, Nat.le_refl _, Nat.zero_le _, rfl, rfl⟩⟩, (Only.refl [] w).alloc _⟩
  case round =>
    obtain ⟨k, hk, rfl, hown, hO⟩ := hrel
    have hsz := hO.size
    by_cases hlt : k < xs.length
    · obtain ⟨ad, rfl, d0, d1, d2⟩ := at_CV (C_only hr hO) k hlt
      have htk := take_snoc xs k hlt
      have HT := Lib.hid htk
      clear htk
      generalize xs.getD k cv0 = x at *
      have hlt' : (k : Int) < xs.length := by omega
      have hk0 : (0 : Int) ≤ k := by omega
      have hmx : k + 1 ≤ maxLen := Nat.le_trans (show k + 1 ≤ 1000000 by omega) (by decide)
      obtain ⟨x0, x1, x2⟩ := x
      simp only at d0 d1 d2
      have g0 : (ad.add (k * 3)).block < wr.heap.size := World.block_lt_of_cell? wr _ d0
      have g1 : (ad.add (k * 3)).block < w.heap.size := by
        obtain ⟨ad', e, d0', _, _⟩ := at_CV hr k hlt
        obtain rfl := Option.some.inj e
        exact World.block_lt_of_cell? w _ d0'
      have hwb : ∀ b, u3.ownBlock = some b → w.heap.size ≤ b := fun b hb => by
        obtain ⟨_, ⟨h1, _⟩ | ⟨g, cap, cur, h1, h2, _⟩⟩ := hown
        · rw [h1] at hb; simp [Value.ownBlock] at hb
        · rw [h1] at hb; simp [Value.ownBlock] at hb; omega
      have hne : u3.ownBlock ≠ some (ad.add (k * 3)).block := fun e => by have := hwb _ e; omega
      go_wp2
      go_region_held3 (fun w' => w'.cell? (ad.add (k * 3)) = some (.string x0) ∧ w'.cell? ⟨(ad.add (k * 3)).block, (ad.add (k * 3)).off + 1, none⟩ = some (.int .i64 x1) ∧ w'.cell? ⟨(ad.add (k * 3)).block, (ad.add (k * 3)).off + 2, none⟩ = some (.int .i64 x2))
        (first
          | go_keep
          | (go_split_ands
             refine ⟨?_, ?_, ?_⟩
             · (rw [hgrow.cell_far _ (by simp; omega) (Ne.symm hne)]; assumption)
             · (rw [hgrow.cell_far ⟨(ad.add (k * 3)).block, (ad.add (k * 3)).off + 1, none⟩ (by simp; omega) (Ne.symm hne)]; assumption)
             · (rw [hgrow.cell_far ⟨(ad.add (k * 3)).block, (ad.add (k * 3)).off + 2, none⟩ (by simp; omega) (Ne.symm hne)]; assumption)))
        ((refine step_append_lies _ (by rfl) _ _ _ (by rfl) w.heap.size 33 i0 _ 3 32 Tryd.underlying28 hi hz0 hz1 hz2 rfl (by omega) _ k _ (by rfl) ((hown.alloc _).drew)
              ⟨wr.heap.size, 0, none⟩ 1 1 [.string x0, .int .i64 x1, .int .i64 x2] (by rfl) (by rfl) (World.news_of_block (cs := #[.string x0, .int .i64 x1, .int .i64 x2]) (t := 33) (fr := (0, 0)) (heap_alloc_new wr _)) (by simp [Value.oneCell'])
              (by omega) hmx (by omega) (by simp; omega) (wr.heap.size + 1) (by simp) ?_; intro gg cap w1 hown1 hgrow hat hlt1))
      have hOn : Only [] w w1 := (((hO.alloc (.cells #[.string x0, .int .i64 x1, .int .i64 x2] 33)).drew).grown hgrow (fun b hb => .inr (hwb b hb)))
      go_wp2
      go_roundw
      case rel => exact ⟨k + 1, by omega, by go_num, by rw [HT.out, cvRow_snoc]; exact hown1, hOn⟩
      case measure => simp [intOf]; omega
    · obtain rfl : k = xs.length := by omega
      go_wp2
      go_ret
      rw [List.take_length] at hown
      exact ⟨_, rfl, hown, hO⟩
theorem cv_neq (a b : ByteArray) (h : a = b) : (!(a.toList == b.toList)) = false := by subst h; simp
set_option maxHeartbeats 4000000 in
theorem same_any (A B : Option Addr) (c d : Nat) (xs : List CV) (w : World) (hr : Kd.C kCV w A xs.length xs) (hc : xs.length ≤ c) (hr2 : Kd.C kCV w B xs.length xs) (hd : xs.length ≤ d) (hn : xs.length ≤ 1000000) :
    Calls Tryd.prog 13 #[.slice A xs.length c, .slice B xs.length d] w fun e w' => e = .returned (.bool true) ∧ Only [] w w' := by
  have HC := Lib.hid (And.intro hc hd)
  clear hc hd
  go_enter Tryd.func13, Tryd.ntmps13
  go_wp2
  go_loopw [5] (fun i wr => ∃ (k : Nat), k ≤ xs.length ∧ i = .int .i64 k ∧ Only [] w wr) (fun i _ => xs.length - (intOf i).toNat)
  case atStart => exact ⟨0, by omega, rfl, .refl _ _⟩
  case round =>
    obtain ⟨k, hk, rfl, hO⟩ := hrel
    by_cases hlt : k < xs.length
    · obtain ⟨ad, rfl, d0, d1, d2⟩ := at_CV (C_only hr hO) k hlt
      obtain ⟨ad2, rfl, e0, e1, e2⟩ := at_CV (C_only hr2 hO) k hlt
      generalize xs.getD k cv0 = x at *
      obtain ⟨x0, x1, x2⟩ := x
      simp only at d0 d1 d2 e0 e1 e2
      have hlt' : (k : Int) < xs.length := by omega
      have hk0 : (0 : Int) ≤ k := by omega
      go_wp2
      go_quiet (fail)
      go_wp2
      go_roundw
      case rel => exact ⟨k + 1, by omega, by go_num, hO.drewN _⟩
      case measure => simp [intOf]; omega
    · obtain rfl : k = xs.length := by omega
      go_wp2
      go_ret
      exact ⟨rfl, hO⟩
theorem parse_any (s : ByteArray) (w : World) (he : Env w) :
    Calls Tryd.prog 12 #[.string s] w fun e w' => ∃ v, e = .returned (.tuple #[v, .int .i64 (parseT s).2.1, .int .i64 (parseT s).2.2]) ∧
      w'.ownsRow w.heap.size 41 3 v (parseT s).1.length (cvRow (parseT s).1) ∧ Only [] w w' := by
  unfold parseT
  by_cases h : 65536 < s.size
  · rw [if_pos h]
    refine (parse_long s w h).mono ?_
    rintro e w' ⟨rfl, hO⟩
    exact ⟨_, rfl, World.ownsRow_nil _ _ _ _, hO⟩
  · rw [if_neg h]
    exact parse_in s w he (by omega) _ rfl
/-- What a row of ours holds, cell for cell. -/
theorem ownsRow_cells {w : World} {base n sz : Nat} {e : TypeId} {v : Value} {xs : List Value} (h : w.ownsRow base e sz v n xs) (hn : 0 < n) :
    ∃ g cap, v = .slice (some ⟨g, 0, none⟩) n cap ∧ base ≤ g ∧ g < w.heap.size ∧ n ≤ cap ∧ ∀ i u, xs[i]? = some u → w.cell? ⟨g, i, none⟩ = some u := by
  obtain ⟨hl, ⟨_, h0⟩ | ⟨g, cap, cur, hv, hb, hg, hnc, _, hcs, ht⟩⟩ := h
  · omega
  · have hg' : Blk w g e cur := hg
    refine ⟨g, cap, hv, hb, hg'.lt, hnc, fun i u hi => ?_⟩
    rw [hg'.cell]
    have hlt : i < xs.length := (List.getElem?_eq_some_iff.1 hi).1
    rw [← ht, List.getElem?_take] at hi
    rw [if_pos (by omega)] at hi
    simpa using hi
def t1 : ByteArray := ⟨#[105, 110, 115, 101, 114, 116, 32, 45, 53, 10, 99, 111, 117, 110, 116, 32, 48, 32, 57, 10, 108, 101, 110, 10]⟩
theorem parse_t1 : parseT t1 = ([⟨⟨#[105, 110, 115, 101, 114, 116]⟩, -5, 0⟩, ⟨⟨#[99, 111, 117, 110, 116]⟩, 0, 9⟩, ⟨⟨#[108, 101, 110]⟩, 0, 0⟩], 0, 0) := by kernel_rfl
theorem parse_t2 : parseT ⟨#[104, 97, 115, 10]⟩ = ([], 1, 11) := by kernel_rfl
theorem parse_t3 : parseT ⟨#[104, 97, 115, 32, 48, 53, 10]⟩ = ([], 1, 11) := by kernel_rfl
theorem parse_t4 : parseT ⟨#[108, 101, 110, 10, 115, 105, 122, 101, 32, 49, 10]⟩ = ([], 2, 13) := by kernel_rfl
set_option maxHeartbeats 2000000 in
theorem awake_any (w : World) (he : Env w) :
    Calls Tryd.prog 8 #[] w fun e w' => e = .returned (.bool true) ∧ Only [] w w' := by
  have H1 := Lib.hid (fun W (hW : Env W) => parse_any t1 W hW)
  rw [parse_t1] at H1
  have H2 := Lib.hid (fun W (hW : Env W) => parse_any ⟨#[104, 97, 115, 10]⟩ W hW)
  rw [parse_t2] at H2
  have H3 := Lib.hid (fun W (hW : Env W) => parse_any ⟨#[104, 97, 115, 32, 48, 53, 10]⟩ W hW)
  rw [parse_t3] at H3
  have H4 := Lib.hid (fun W (hW : Env W) => parse_any ⟨#[108, 101, 110, 10, 115, 105, 122, 101, 32, 49, 10]⟩ W hW)
  rw [parse_t4] at H4
  go_enter Tryd.func8, Tryd.ntmps8
  go_wp2_with (first
    | (go_at_call 12; with_reducible show Calls _ _ #[.string ⟨#[105, 110, 115, 101, 114, 116, 32, 45, 53, 10, 99, 111, 117, 110, 116, 32, 48, 32, 57, 10, 108, 101, 110, 10]⟩] _ _
       refine (H1.out _ he).mono ?_; rintro e w1 ⟨v1, rfl, r1, hO1⟩; obtain ⟨g, cap, rfl, _, gl, _, gc⟩ := ownsRow_cells r1 (by decide); have he1 := he.only_nil hO1)
    | (go_at_call 12; with_reducible show Calls _ _ #[.string ⟨#[104, 97, 115, 10]⟩] _ _
       refine (H2.out _ he1).mono ?_; rintro e w2 ⟨v2, rfl, r2, hO2⟩; obtain ⟨A2, cap2, rfl⟩ := ownsRow_slice r2; have he2 := he1.only_nil hO2)
    | (go_at_call 12; with_reducible show Calls _ _ #[.string ⟨#[104, 97, 115, 32, 48, 53, 10]⟩] _ _
       refine (H3.out _ he2).mono ?_; rintro e w3 ⟨v3, rfl, r3, hO3⟩; obtain ⟨A3, cap3, rfl⟩ := ownsRow_slice r3; have he3 := he2.only_nil hO3)
    | (go_at_call 12
       refine (H4.out _ he3).mono ?_; rintro e w4 ⟨v4, rfl, r4, hO4⟩; obtain ⟨A4, cap4, rfl⟩ := ownsRow_slice r4
       have hO5 := (hO2.trans_nil hO3).trans_nil hO4
       have d0 : ∀ i u, (cvRow [⟨⟨#[105, 110, 115, 101, 114, 116]⟩, -5, 0⟩, ⟨⟨#[99, 111, 117, 110, 116]⟩, 0, 9⟩, ⟨⟨#[108, 101, 110]⟩, 0, 0⟩])[i]? = some u → w4.cell? ⟨g, i, none⟩ = some u := fun i u hi => (hO5.cell gl (by simp)).trans (gc i u hi)
       have c0 := d0 0 _ rfl; have c1 := d0 1 _ rfl; have c2 := d0 2 _ rfl; have c3 := d0 3 _ rfl; have c4 := d0 4 _ rfl; have c5 := d0 5 _ rfl; have c6 := d0 6 _ rfl; have c7 := d0 7 _ rfl; have c8 := d0 8 _ rfl
       clear d0 gc r1 r2 r3 r4))
  go_ret
  exact ⟨rfl, hO1.trans_nil hO5⟩
end Go.Proofs.YtmebolbjidjajaaDoor
