/-
  Plain laws: a command's line and back; texts and their lines.
-/
import Derived.Test.YtmebolbjidjajaaDoorNumLaws
import Derived.Test.YtmebolbjidjajaaDoorCmdParse
import Derived.Test.YtmebolbjidjajaaDoorCmdPrint
namespace Go.Proofs.YtmebolbjidjajaaDoor
open Go
/-! Pieces -/
def pieces : List UInt8 → List (List UInt8)
  | [] => [[]]
  | c :: r => if c = 32 then [] :: pieces r else match pieces r with
    | [] => [[c]]
    | p :: ps => (c :: p) :: ps
theorem pieces_ne : ∀ l, pieces l ≠ []
  | [] => by simp [pieces]
  | c :: r => by
    rw [pieces]
    split
    · simp
    · split <;> simp
theorem pieces_one : ∀ l : List UInt8, 32 ∉ l → pieces l = [l]
  | [], _ => rfl
  | c :: r, h => by
    rw [pieces, if_neg (by rintro rfl; exact h (by simp)), pieces_one r (fun hm => h (List.mem_cons_of_mem _ hm))]
theorem pieces_app : ∀ (p r : List UInt8), 32 ∉ p → pieces (p ++ 32 :: r) = p :: pieces r
  | [], r, _ => by rw [List.nil_append, pieces, if_pos rfl]
  | c :: p, r, h => by
    rw [List.cons_append, pieces, if_neg (by rintro rfl; exact h (by simp)), pieces_app p r (fun hm => h (List.mem_cons_of_mem _ hm))]
theorem byte_miss : ∀ (l : List UInt8) (c : UInt8), Lib.indexByte l c = -1 → c ∉ l
  | [], _, _ => by simp
  | b :: l, c, h => by
    rw [Lib.indexByte] at h
    by_cases hb : (b == c) = true
    · rw [if_pos hb] at h; omega
    · rw [if_neg hb] at h
      by_cases h3 : (Lib.indexByte l c == -1) = true
      · have := byte_miss l c (by simpa using h3)
        simp only [List.mem_cons, not_or]
        exact ⟨by rintro rfl; simp at hb, this⟩
      · rw [if_neg h3] at h
        have := Lib.indexByte_ge l c
        have h4 : Lib.indexByte l c ≠ -1 := by intro e; rw [e] at h3; exact h3 rfl
        omega
theorem byte_hit : ∀ (l : List UInt8) (c : UInt8) (i : Nat), Lib.indexByte l c = i → i < l.length ∧ c ∉ l.take i ∧ l = l.take i ++ c :: l.drop (i + 1)
  | [], _, i, h => by simp only [Lib.indexByte] at h; omega
  | b :: l, c, i, h => by
    rw [Lib.indexByte] at h
    by_cases hb : (b == c) = true
    · rw [if_pos hb] at h
      obtain rfl : i = 0 := by omega
      obtain rfl : b = c := by simpa using hb
      simp
    · rw [if_neg hb] at h
      by_cases h3 : (Lib.indexByte l c == -1) = true
      · rw [if_pos h3] at h; omega
      · rw [if_neg h3] at h
        have h5 := Lib.indexByte_ge l c
        have h4 : Lib.indexByte l c ≠ -1 := by intro e; rw [e] at h3; exact h3 rfl
        obtain ⟨j, rfl⟩ : ∃ j, i = j + 1 := ⟨i - 1, by omega⟩
        obtain ⟨k1, k2, k3⟩ := byte_hit l c j (by omega)
        refine ⟨by simpa using k1, ?_, ?_⟩
        · simp only [List.take_succ_cons, List.mem_cons, not_or]
          exact ⟨by rintro rfl; simp at hb, k2⟩
        · simp only [List.take_succ_cons, List.drop_succ_cons, List.cons_append]
          rw [← k3]
theorem splitK_pieces : ∀ (n : Nat) (l : List UInt8), l.length ≤ n → Lib.splitK [32] 0 (Lib.count l [32]) l = pieces l
  | n, l, hn => by
    by_cases h : Lib.indexByte l 32 = -1
    · have h' : Lib.index l [32] = -1 := by rw [Lib.index_one, h]
      rw [Lib.count_miss h', pieces_one l (byte_miss l 32 h)]; rfl
    · obtain ⟨i, hi⟩ : ∃ i : Nat, Lib.indexByte l 32 = i := ⟨(Lib.indexByte l 32).toNat, by have := Lib.indexByte_ge l 32; omega⟩
      have hi' : Lib.index l [32] = i := by rw [Lib.index_one, hi]
      obtain ⟨k1, k2, k3⟩ := byte_hit l 32 i hi
      rw [Lib.count_hit (by simp) hi', Nat.add_comm, Lib.splitK]
      have hne : ¬ (Lib.index l [32] == -1) = true := by rw [hi']; simp
      rw [if_neg hne, hi']
      simp only [Int.toNat_natCast, Nat.add_zero, List.length_cons, List.length_nil, Nat.zero_add]
      cases n with
      | zero => omega
      | succ n =>
        rw [splitK_pieces n (l.drop (i + 1)) (by simp; omega)]
        conv => rhs; rw [k3]
        rw [pieces_app _ _ k2]
theorem piecesB_eq (s : ByteArray) : piecesB s = (pieces s.data.toList).map mkS := by
  have h := Lib.splitB_data ⟨#[32]⟩ 0 (Lib.countB s ⟨#[32]⟩) s
  have h2 : Lib.splitK (⟨#[32]⟩ : ByteArray).data.toList 0 (Lib.countB s ⟨#[32]⟩) s.data.toList = pieces s.data.toList := splitK_pieces _ _ (Nat.le_refl _)
  rw [h2] at h
  rw [← h, List.map_map]
  have : (mkS ∘ fun b : ByteArray => b.data.toList) = id := by funext b; exact mkS_self b
  rw [this, List.map_id]; rfl
theorem mkS_toList (l : List UInt8) : (mkS l).data.toList = l := rfl
/-! Words -/
theorem numsFrom_mem (l : List UInt8) : ∀ (W : List (List UInt8 × Nat)) (n : Nat), numsFrom l W = some n → (l, n) ∈ W
  | [], n, h => by simp [numsFrom] at h
  | x :: W, n, h => by
    rw [numsFrom] at h
    split at h
    · rename_i hx
      injection h with h
      rw [← hx, ← h]; simp
    · exact List.mem_cons_of_mem _ (numsFrom_mem l W n h)
theorem word_facts (l : List UInt8) (n : Nat) (h : nums l = some n) : l ≠ [] ∧ 32 ∉ l ∧ 10 ∉ l ∧ n ≤ 2 ∧ l.length ≤ 10 := by
  have hm := numsFrom_mem l wordList n h
  have key : ∀ x ∈ wordList, x.1 ≠ [] ∧ 32 ∉ x.1 ∧ 10 ∉ x.1 ∧ x.2 ≤ 2 ∧ x.1.length ≤ 10 := by decide
  exact key _ hm
theorem itoa_facts (v : Int) : Lib.itoa v ≠ [] ∧ 32 ∉ Lib.itoa v ∧ 10 ∉ Lib.itoa v := by
  have hd : ∀ u, 32 ∉ Lib.decDigits u ∧ 10 ∉ Lib.decDigits u := fun u =>
    ⟨fun hm => by have := (decDigits_dig u u (Nat.le_refl _) _ hm).1; exact absurd this (by decide), fun hm => by have := (decDigits_dig u u (Nat.le_refl _) _ hm).1; exact absurd this (by decide)⟩
  unfold Lib.itoa
  split
  · refine ⟨by simp, ?_, ?_⟩
    · simp only [List.mem_cons, not_or]; exact ⟨by decide, (hd _).1⟩
    · simp only [List.mem_cons, not_or]; exact ⟨by decide, (hd _).2⟩
  · exact ⟨decDigits_ne _, (hd _).1, (hd _).2⟩
/-! A command's text, without the feed -/
def bodyN (n : Nat) (l : List UInt8) (a b : Int) : List UInt8 := l ++ (if 1 ≤ n then 32 :: Lib.itoa a else []) ++ (if 2 ≤ n then 32 :: Lib.itoa b else [])
theorem lineN_body (n : Nat) (l : List UInt8) (a b : Int) : lineN n l a b = bodyN n l a b ++ [10] := rfl
def CV.B (x : CV) : List UInt8 := bodyN ((nums x.f0.data.toList).getD 0) x.f0.data.toList x.f1 x.f2
theorem CV.L_eq (x : CV) : x.L = x.B ++ [10] := rfl
def I64 (a : Int) : Prop := -9223372036854775808 ≤ a ∧ a ≤ 9223372036854775807
theorem empty_mk (l : List UInt8) : (mkS l).toList.isEmpty = l.isEmpty := by rw [Go.ByteArray.toList_eq]; rfl
theorem full_of {s : ByteArray} (h : s.data.toList ≠ []) : s.toList.isEmpty = false := by
  rw [Go.ByteArray.toList_eq]
  cases hl : s.data.toList with
  | nil => exact absurd hl h
  | cons a b => rfl
theorem E_zero {x : CV} (h : x.E = 0) : ∃ n, nums x.f0.data.toList = some n ∧ (n < 1 → x.f1 = 0) ∧ (n < 2 → x.f2 = 0) := by
  unfold CV.E lineE at h
  cases hn : nums x.f0.data.toList with
  | none => rw [hn] at h; simp at h
  | some n =>
    rw [hn] at h
    refine ⟨n, rfl, ?_⟩
    dsimp only at h
    split at h
    · simp at h
    · rename_i h2
      constructor
      · intro h3; by_cases h4 : x.f1 = 0
        · exact h4
        · exact absurd (.inl ⟨h3, h4⟩) h2
      · intro h3; by_cases h4 : x.f2 = 0
        · exact h4
        · exact absurd (.inr ⟨h3, h4⟩) h2
theorem E_of {x : CV} {n : Nat} (h : nums x.f0.data.toList = some n) (h1 : n < 1 → x.f1 = 0) (h2 : n < 2 → x.f2 = 0) : x.E = 0 := by
  unfold CV.E lineE
  rw [h]
  dsimp only
  rw [if_neg]
  rintro (⟨a, b⟩ | ⟨a, b⟩)
  · exact b (h1 a)
  · exact b (h2 a)
theorem cmd_back (x : CV) (h : x.E = 0) (h1 : I64 x.f1) (h2 : I64 x.f2) (s : ByteArray) (hs : s.data.toList = x.B) : cmdOf (piecesB s) = (x, 0) := by
  obtain ⟨n, hn, ha, hb⟩ := E_zero h
  obtain ⟨w0, w1, w2, w3, w4⟩ := word_facts _ n hn
  obtain ⟨a0, a1, a2⟩ := itoa_facts x.f1
  obtain ⟨b0, b1, b2⟩ := itoa_facts x.f2
  have na := num_itoa x.f1 h1.1 h1.2
  have nb := num_itoa x.f2 h2.1 h2.2
  obtain ⟨f0, f1, f2⟩ := x
  simp only at hn ha hb w0 w1 w2 w4 a0 a1 a2 b0 b1 b2 na nb
  have z0 := full_of w0
  have z1 : (mkS (Lib.itoa f1)).toList.isEmpty = false := full_of a0
  have z2 : (mkS (Lib.itoa f2)).toList.isEmpty = false := full_of b0
  rw [piecesB_eq, hs]
  unfold CV.B
  simp only [hn, Option.getD_some]
  have hcases : n = 0 ∨ n = 1 ∨ n = 2 := by omega
  rcases hcases with rfl | rfl | rfl
  · have e1 := ha (by omega)
    have e2 := hb (by omega)
    subst e1 e2
    have hp : pieces (bodyN 0 f0.data.toList 0 0) = [f0.data.toList] := by
      rw [show bodyN 0 f0.data.toList 0 0 = f0.data.toList by simp [bodyN], pieces_one _ w1]
    rw [hp]
    unfold cmdOf
    simp [mkS_self, hn, z0, nextR]
  · have e2 := hb (by omega)
    subst e2
    have hp : pieces (bodyN 1 f0.data.toList f1 0) = [f0.data.toList, Lib.itoa f1] := by
      rw [show bodyN 1 f0.data.toList f1 0 = f0.data.toList ++ 32 :: Lib.itoa f1 by simp [bodyN], pieces_app _ _ w1, pieces_one _ a1]
    rw [hp]
    unfold cmdOf
    simp [mkS_self, hn, z0, z1, nextR, mkS_toList, na]
  · have hp : pieces (bodyN 2 f0.data.toList f1 f2) = [f0.data.toList, Lib.itoa f1, Lib.itoa f2] := by
      rw [show bodyN 2 f0.data.toList f1 f2 = f0.data.toList ++ 32 :: (Lib.itoa f1 ++ 32 :: Lib.itoa f2) by simp [bodyN], pieces_app _ _ w1, pieces_app _ _ a1, pieces_one _ b1]
    rw [hp]
    unfold cmdOf
    simp [mkS_self, hn, z0, z1, z2, nextR, mkS_toList, na, nb]
/-! A line that is right is its command's -/
def joinP : List (List UInt8) → List UInt8
  | [] => []
  | [p] => p
  | p :: q :: ps => p ++ 32 :: joinP (q :: ps)
theorem joinP_pieces : ∀ l, joinP (pieces l) = l
  | [] => rfl
  | c :: r => by
    have ih := joinP_pieces r
    rw [pieces]
    split
    · rename_i h
      subst h
      cases hp : pieces r with
      | nil => exact absurd hp (pieces_ne r)
      | cons p ps => rw [joinP, ← hp, ih]; rfl
    · split
      · rename_i h; exact absurd h (pieces_ne r)
      · rename_i p ps h
        rw [h] at ih
        cases ps with
        | nil => rw [joinP] at ih ⊢; rw [ih]
        | cons q ps => rw [joinP] at ih ⊢; rw [← ih]; rfl
theorem len_two {α : Type} {P : List α} (h : P.length = 1 + 1) : ∃ a b, P = [a, b] := by
  match P, h with
  | [a, b], _ => exact ⟨a, b, rfl⟩
theorem len_three {α : Type} {P : List α} (h : P.length = 2 + 1) : ∃ a b c, P = [a, b, c] := by
  match P, h with
  | [a, b, c], _ => exact ⟨a, b, c, rfl⟩
theorem cmd_fwd (s : ByteArray) (x : CV) (h : cmdOf (piecesB s) = (x, 0)) : x.E = 0 ∧ I64 x.f1 ∧ I64 x.f2 ∧ s.data.toList = x.B ∧ x.f0.data.toList.length ≤ 10 := by
  have hj := joinP_pieces s.data.toList
  rw [piecesB_eq] at h
  generalize pieces s.data.toList = P at h hj
  rw [← hj]
  clear hj
  unfold cmdOf at h
  have z64 : I64 0 := ⟨by decide, by decide⟩
  split at h
  · simp at h
  · rename_i n hn
    split at h
    · rename_i hl
      split at h
      · simp at h
      · dsimp only at h
        split at h
        · rename_i hr
          simp only [Prod.mk.injEq, and_true] at h
          subst h
          rw [List.length_map] at hl
          have hn2 := (word_facts _ n hn).2.2.2.1
          have hn10 := (word_facts _ n hn).2.2.2.2
          have hcases : n = 0 ∨ n = 1 ∨ n = 2 := by omega
          rcases hcases with rfl | rfl | rfl
          · obtain ⟨p0, rfl⟩ : ∃ p0, P = [p0] := List.length_eq_one_iff.1 hl
            simp only [List.map_cons, List.map_nil, List.getD_cons_zero, mkS_toList] at hn hn10 ⊢
            refine ⟨E_of (n := 0) hn (fun _ => by simp [nextR]) (fun _ => by simp [nextR]), by simp [nextR, z64], by simp [nextR, z64], ?_, hn10⟩
            simp [CV.B, mkS_toList, hn, bodyN, joinP]
          · obtain ⟨p0, p1, rfl⟩ : ∃ p0 p1, P = [p0, p1] := len_two hl
            simp [nextR, mkS_toList] at hn hn10 hr ⊢
            have hi := itoa_num p1 (numR p1).1 (by rw [← hr])
            refine ⟨E_of (n := 1) hn (fun h => by omega) (fun _ => rfl), hi.2, z64, ?_, hn10⟩
            simp [CV.B, mkS_toList, hn, bodyN, joinP, hi.1]
          · obtain ⟨p0, p1, p2, rfl⟩ : ∃ p0 p1 p2, P = [p0, p1, p2] := len_three hl
            simp [nextR, mkS_toList] at hn hn10 hr ⊢
            by_cases h1 : (numR p1).2 = 0
            · simp [h1] at hr ⊢
              have hi := itoa_num p1 (numR p1).1 (by rw [← h1])
              have hi2 := itoa_num p2 (numR p2).1 (by rw [← hr])
              refine ⟨E_of (n := 2) hn (fun h => by omega) (fun h => by omega), hi.2, hi2.2, ?_, hn10⟩
              simp [CV.B, mkS_toList, hn, bodyN, joinP, hi.1, hi2.1]
            · simp [h1] at hr
        · rename_i hr
          simp only [Prod.mk.injEq] at h
          exact absurd h.2 hr
    · simp at h
/-! Lines -/
theorem linesL_app : ∀ (b r : List UInt8), 10 ∉ b → linesL (b ++ 10 :: r) = (b ++ [10]) :: linesL r
  | [], r, _ => by rw [List.nil_append, linesL, if_pos rfl]; rfl
  | c :: b, r, h => by
    rw [List.cons_append, linesL, if_neg (by rintro rfl; exact h (by simp)), linesL_app b r (fun hm => h (List.mem_cons_of_mem _ hm))]
    rfl
theorem linesL_flat : ∀ l, (linesL l).flatten = l
  | [] => rfl
  | c :: r => by
    have ih := linesL_flat r
    rw [linesL]
    split
    · rw [List.flatten_cons, ih]; rfl
    · split
      · rename_i h; rw [h] at ih; rw [← ih]; rfl
      · rename_i p ps h; rw [h] at ih; rw [← ih]; rfl
theorem suffix_feed (b : List UInt8) : Lib.hasSuffix (b ++ [10]) [10] = true ∧ Lib.trimSuffix (b ++ [10]) [10] = b := by
  have h : Lib.hasSuffix (b ++ [10]) [10] = true := List.isSuffixOf_iff_suffix.2 ⟨b, rfl⟩
  refine ⟨h, ?_⟩
  rw [Lib.trimSuffix, if_pos h]
  simp
theorem suffix_has (l : List UInt8) (h : Lib.hasSuffix l [10] = true) : ∃ b, l = b ++ [10] := by
  obtain ⟨b, hb⟩ := List.isSuffixOf_iff_suffix.1 h
  exact ⟨b, hb.symm⟩
theorem lineCmd_feed (b : List UInt8) : lineCmd (mkS (b ++ [10])) = cmdOf (piecesB (mkS b)) := by
  rw [lineCmd, mkS_toList, if_pos (suffix_feed b).1, (suffix_feed b).2]; rfl
theorem body_feed {x : CV} (h : x.E = 0) : 10 ∉ x.B := by
  obtain ⟨n, hn, _⟩ := E_zero h
  have w := (word_facts _ n hn).2.2.1
  have a := (itoa_facts x.f1).2.2
  have b := (itoa_facts x.f2).2.2
  unfold CV.B bodyN
  simp only [List.mem_append, not_or]
  refine ⟨⟨w, ?_⟩, ?_⟩
  · split
    · simp only [List.mem_cons, not_or]; exact ⟨by decide, a⟩
    · simp
  · split
    · simp only [List.mem_cons, not_or]; exact ⟨by decide, b⟩
    · simp
theorem line_back (x : CV) (h : x.E = 0) (h1 : I64 x.f1) (h2 : I64 x.f2) : lineCmd (mkS x.L) = (x, 0) := by
  rw [CV.L_eq, lineCmd_feed]
  exact cmd_back x h h1 h2 _ rfl
theorem line_fwd (l : ByteArray) (h : (lineCmd l).2 = 0) : (lineCmd l).1.E = 0 ∧ I64 (lineCmd l).1.f1 ∧ I64 (lineCmd l).1.f2 ∧ l.data.toList = (lineCmd l).1.L ∧ (lineCmd l).1.f0.data.toList.length ≤ 10 := by
  by_cases hs : Lib.hasSuffix l.data.toList [10] = true
  · obtain ⟨b, hb⟩ := suffix_has _ hs
    obtain rfl : l = mkS (b ++ [10]) := by rw [← hb]; exact (mkS_self l).symm
    rw [lineCmd_feed] at h ⊢
    have := cmd_fwd (mkS b) (cmdOf (piecesB (mkS b))).1 (by rw [← h])
    refine ⟨this.1, this.2.1, this.2.2.1, ?_, this.2.2.2.2⟩
    rw [CV.L_eq, ← this.2.2.2.1]; rfl
  · rw [lineCmd, if_neg hs] at h
    simp at h
/-! Texts -/
def textOf (xs : List CV) : List UInt8 := xs.flatMap CV.L
def Right (x : CV) : Prop := x.E = 0 ∧ I64 x.f1 ∧ I64 x.f2
theorem lines_text : ∀ (xs : List CV) (r : List UInt8), (∀ x ∈ xs, x.E = 0) → linesL (textOf xs ++ r) = xs.map CV.L ++ linesL r
  | [], r, _ => rfl
  | x :: xs, r, h => by
    have ih := lines_text xs r fun y hy => h y (List.mem_cons_of_mem _ hy)
    have : textOf (x :: xs) ++ r = x.B ++ 10 :: (textOf xs ++ r) := by simp [textOf, CV.L_eq]
    rw [this, linesL_app _ _ (body_feed (h x (by simp))), ih]
    rfl
theorem parse_text (xs : List CV) (h : ∀ x ∈ xs, Right x) (rest : List ByteArray) (acc : List CV) : parseR ((xs.map CV.L).map mkS ++ rest) acc = parseR rest (acc ++ xs) := by
  have hl : ∀ y ∈ (xs.map CV.L).map mkS, (lineCmd y).2 = 0 := by
    intro y hy
    obtain ⟨l, hl, rfl⟩ := List.mem_map.1 hy
    obtain ⟨x, hx, rfl⟩ := List.mem_map.1 hl
    rw [line_back x (h x hx).1 (h x hx).2.1 (h x hx).2.2]
  rw [parseR_ok _ _ _ hl, List.map_map, List.map_map]
  congr 2
  conv => rhs; rw [← List.map_id xs]
  apply List.map_congr_left
  intro x hx
  show (lineCmd (mkS x.L)).1 = x
  rw [line_back x (h x hx).1 (h x hx).2.1 (h x hx).2.2]
/-- How a parse goes: the lines that are right, and the first that is not. -/
theorem parse_cases : ∀ (ls : List ByteArray) (acc : List CV),
    (∃ m, parseR ls acc = (acc ++ m, 0, 0) ∧ (∀ x ∈ m, Right x ∧ x.f0.data.toList.length ≤ 10) ∧ ls.map (fun l => l.data.toList) = m.map CV.L) ∨
    (∃ pre x post, ls = pre ++ x :: post ∧ (∀ y ∈ pre, (lineCmd y).2 = 0) ∧ (lineCmd x).2 ≠ 0 ∧ parseR ls acc = ([], ((acc.length + pre.length + 1 : Nat) : Int), (lineCmd x).2))
  | [], acc => .inl ⟨[], by simp [parseR], by simp, rfl⟩
  | l :: ls, acc => by
    by_cases h : (lineCmd l).2 = 0
    · obtain ⟨f1, f2, f3, f4, f5⟩ := line_fwd l h
      rcases parse_cases ls (acc ++ [(lineCmd l).1]) with ⟨m, h1, h2, h3⟩ | ⟨pre, x, post, h1, h2, h3, h4⟩
      · refine .inl ⟨(lineCmd l).1 :: m, ?_, ?_, ?_⟩
        · rw [parseR, if_pos h, h1, List.append_assoc]; rfl
        · intro x hx
          rcases List.mem_cons.1 hx with rfl | hx
          · exact ⟨⟨f1, f2, f3⟩, f5⟩
          · exact h2 x hx
        · rw [List.map_cons, List.map_cons, h3, f4]
      · refine .inr ⟨l :: pre, x, post, by rw [h1]; rfl, ?_, h3, ?_⟩
        · intro y hy
          rcases List.mem_cons.1 hy with rfl | hy
          · exact h
          · exact h2 y hy
        · rw [parseR, if_pos h, h4]
          simp only [List.length_append, List.length_cons, List.length_nil]
          congr 3; omega
    · refine .inr ⟨[], l, ls, rfl, by simp, h, ?_⟩
      rw [parseR, if_neg h]
      simp
theorem flat_text (m : List CV) : (m.map CV.L).flatten = textOf m := by rw [textOf, List.flatMap_def]
def linesB (t : List UInt8) : List ByteArray := (linesL t).map mkS
theorem linesB_list (t : List UInt8) : (linesB t).map (fun l => l.data.toList) = linesL t := by
  rw [linesB, List.map_map]
  conv => rhs; rw [← List.map_id (linesL t)]
  rfl
/-- A text that is right is its commands' text. -/
theorem text_fwd (t : List UInt8) :
    (∃ m, parseR (linesB t) [] = (m, 0, 0) ∧ (∀ x ∈ m, Right x ∧ x.f0.data.toList.length ≤ 10) ∧ textOf m = t) ∨
    (∃ (k : Nat) (e : Int), e ≠ 0 ∧ parseR (linesB t) [] = ([], ((k + 1 : Nat) : Int), e)) := by
  rcases parse_cases (linesB t) [] with ⟨m, h1, h2, h3⟩ | ⟨pre, x, post, h1, h2, h3, h4⟩
  · refine .inl ⟨m, by simpa using h1, h2, ?_⟩
    rw [linesB_list] at h3
    rw [← flat_text, ← h3, linesL_flat]
  · exact .inr ⟨pre.length, (lineCmd x).2, h3, by simpa using h4⟩
theorem text_back (xs : List CV) (h : ∀ x ∈ xs, Right x) : parseR (linesB (textOf xs)) [] = (xs, 0, 0) := by
  have := lines_text xs [] (fun x hx => (h x hx).1)
  rw [List.append_nil] at this
  rw [linesB, this, List.map_append]
  rw [parse_text xs h]
  simp [linesL, parseR]
/-- A text behind one that is right. -/
theorem text_more (xs : List CV) (h : ∀ x ∈ xs, Right x) (t : List UInt8) : parseR (linesB (textOf xs ++ t)) [] = parseR (linesB t) xs := by
  rw [linesB, lines_text xs t (fun x hx => (h x hx).1), List.map_append, parse_text xs h, List.nil_append]; rfl
theorem parse_acc (ls : List ByteArray) (acc : List CV) : parseR ls acc = if (parseR ls []).2.2 = 0 then (acc ++ (parseR ls []).1, 0, 0) else ([], (parseR ls []).2.1 + acc.length, (parseR ls []).2.2) := by
  rcases parse_cases ls [] with ⟨m, h1, _⟩ | ⟨pre, x, post, h1, h2, h3, h4⟩
  · rcases parse_cases ls acc with ⟨m', h1', _, h3'⟩ | ⟨pre, x, post, h1', h2', h3', h4'⟩
    · have e : m = m' := by
        have hm := parse_cases ls []
        have k : ∀ (ls : List ByteArray) (acc : List CV), (∀ y ∈ ls, (lineCmd y).2 = 0) → parseR ls acc = (acc ++ ls.map (fun y => (lineCmd y).1), 0, 0) := fun ls acc h => by
          have := parseR_ok ls [] acc h
          rw [List.append_nil] at this
          rw [this]; rfl
        have k2 : ∀ (ls : List ByteArray) (acc : List CV) (m : List CV), parseR ls acc = (acc ++ m, 0, 0) → ∀ y ∈ ls, (lineCmd y).2 = 0 := by
          intro ls
          induction ls with
          | nil => intro acc m _ y hy; simp at hy
          | cons l ls ih =>
            intro acc m hp y hy
            by_cases h : (lineCmd l).2 = 0
            · rcases List.mem_cons.1 hy with rfl | hy
              · exact h
              · rw [parseR, if_pos h] at hp
                have hh : ∃ m'', acc ++ m = (acc ++ [(lineCmd l).1]) ++ m'' := by
                  rcases parse_cases ls (acc ++ [(lineCmd l).1]) with ⟨m2, g1, _⟩ | ⟨_, x2, _, _, _, g3, g4⟩
                  · rw [g1] at hp; exact ⟨m2, (congrArg Prod.fst hp).symm⟩
                  · rw [g4] at hp; exact absurd (congrArg (fun r => r.2.2) hp) g3
                obtain ⟨m'', hm''⟩ := hh
                rw [hm''] at hp
                exact ih _ m'' hp y hy
            · rw [parseR, if_neg h] at hp
              exact absurd (congrArg (fun r => r.2.2) hp) h
        have ha := k2 ls [] m h1
        have e1 := k ls [] ha
        have e2 := k ls acc ha
        rw [h1] at e1
        rw [h1'] at e2
        have e1 := congrArg Prod.fst e1
        have e2 := congrArg Prod.fst e2
        simp at e1 e2
        rw [e1, e2]
      subst e
      rw [h1, h1']
      simp
    · exfalso
      rw [h1'] at h1
      rw [parseR_ok pre _ [] h2', parseR, if_neg h3'] at h1
      exact h3' (congrArg (fun r => r.2.2) h1)
  · rw [h4]
    simp only [h3, if_false]
    rw [h1, parseR_ok pre _ acc h2, parseR, if_neg h3]
    simp only [List.length_append, List.length_map, List.length_nil]
    congr 2
    omega
/-! Print -/
theorem print_ok : ∀ (xs : List CV) (i : Nat) (acc : List UInt8), (∀ x ∈ xs, x.E = 0) → printGo i acc xs = if 65536 < (acc ++ textOf xs).length then ([], 0, 12) else (acc ++ textOf xs, 0, 0)
  | [], i, acc, _ => by simp [printGo, textOf]
  | x :: xs, i, acc, h => by
    rw [printGo, if_pos (h x (by simp)), print_ok xs _ _ fun y hy => h y (List.mem_cons_of_mem _ hy)]
    have : acc ++ x.L ++ textOf xs = acc ++ textOf (x :: xs) := by simp [textOf]
    rw [this]
theorem print_bad : ∀ (pre : List CV) (x : CV) (post : List CV) (i : Nat) (acc : List UInt8), (∀ y ∈ pre, y.E = 0) → x.E ≠ 0 → printGo i acc (pre ++ x :: post) = ([], ((i + pre.length + 1 : Nat) : Int), x.E)
  | [], x, post, i, acc, _, h => by rw [List.nil_append, printGo, if_neg h]; rfl
  | y :: pre, x, post, i, acc, h, hx => by
    rw [List.cons_append, printGo, if_pos (h y (by simp)), print_bad pre x post _ _ (fun z hz => h z (List.mem_cons_of_mem _ hz)) hx]
    simp only [List.length_cons]
    congr 2; omega
theorem all_or : ∀ xs : List CV, (∀ x ∈ xs, x.E = 0) ∨ ∃ pre x post, xs = pre ++ x :: post ∧ (∀ y ∈ pre, y.E = 0) ∧ x.E ≠ 0
  | [] => .inl (by simp)
  | x :: xs => by
    by_cases h : x.E = 0
    · rcases all_or xs with h2 | ⟨pre, y, post, h1, h2, h3⟩
      · exact .inl (List.forall_mem_cons.2 ⟨h, h2⟩)
      · exact .inr ⟨x :: pre, y, post, by rw [h1]; rfl, List.forall_mem_cons.2 ⟨h, h2⟩, h3⟩
    · exact .inr ⟨[], x, xs, rfl, by simp, h⟩
end Go.Proofs.YtmebolbjidjajaaDoor
