/-
  punnet/cmd.number: a word's number.
-/
import Derived.Test.YtmebolbjidjajaaDoorCmdLine
import Derived.Lib.AtoiAll
set_option linter.unusedSimpArgs false
set_option maxRecDepth 100000
namespace Go.Proofs.YtmebolbjidjajaaDoor
open Go.RowKit
def digs : List UInt8 := [48, 49, 50, 51, 52, 53, 54, 55, 56, 57]
/-- Is a word no number's text? (its digits d, the whole word l) -/
def badNum (d l : List UInt8) : Bool := d.isEmpty || decide (19 < d.length) || !(Lib.trimS d digs).isEmpty || (d.head? == some 48 && !(l == [48]))
def numV : Lib.NumEnd Int → Int | .ok v => v | _ => 0
def numE : Lib.NumEnd Int → Int | .ok _ => 0 | _ => 10
def numR (l : List UInt8) : Int × Int :=
  if badNum (Lib.trimPrefix l [45]) l then (0, 11) else (numV (Lib.atoiAll l), numE (Lib.atoiAll l))
theorem Only.freeze {S : List Nat} {w w' : World} (h : Only S w w') {p : Addr} (hp : p.block ∈ S ∨ w.heap.size ≤ p.block) (n : Nat) : Only S w (w'.freeze p n) := by
  unfold World.freeze
  split
  · exact h
  · refine ⟨h.os, h.tape, h.output, Nat.le_trans h.size (by simp), fun k hk hn => ?_⟩
    rw [← h.block k hk hn]
    simp only [Array.getElem?_modify]
    rw [if_neg]
    rintro rfl
    rcases hp with hp | hp
    · exact hn hp
    · omega
theorem bytesWorld_only (w : World) (e : TypeId) (s : ByteArray) : Only [] w (Lib.bytesWorld w e s) := by
  unfold Lib.bytesWorld
  exact (((Only.refl [] w).drew).alloc _).freeze (.inr (Nat.le_refl _)) _
theorem atoi_any (s : ByteArray) (w : World) (he : Env w) (hs : s.size ≤ 1000000) :
    Calls Tryd.prog 41 #[.string s] w fun e w' => ∃ (n : Int) (v : Value), e = .returned (.tuple #[.int .i64 n, v]) ∧ Only [] w w' ∧
      ((∃ u, Lib.atoiAll s.data.toList = .ok u ∧ n = u ∧ v = .nilIface) ∨ ((∀ u, Lib.atoiAll s.data.toList ≠ .ok u) ∧ ∃ t a, v = .iface t (.pointer (some a)))) := by
  rcases h : Lib.atoiAll s.data.toList with u | _ | _
  · refine (Tryd.strconv_Atoi_ok s (by omega) u h w).mono fun e w' ⟨h1, h2⟩ => ⟨u, .nilIface, h1, ?_, .inl ⟨u, rfl, rfl, rfl⟩⟩
    rcases h2 with rfl | ⟨t, rfl⟩
    · exact Only.refl _ _
    · exact bytesWorld_only _ _ _
  · obtain ⟨t, p, hv⟩ := he.errSyntax
    exact (Any.strconv_Atoi_syntax_var Tryd.laysC172 s (by omega) h t p w hv).mono fun e w' ⟨N, h1, _, _, h2⟩ => ⟨_, _, h1, Only.of_below h2, .inr ⟨(fun _ hh => (by cases hh)), _, _, rfl⟩⟩
  · obtain ⟨t, p, hv⟩ := he.errRange
    exact (Tryd.strconv_Atoi_range_var s (by omega) h t p w hv).mono fun e w' ⟨N, h1, _, _, h2⟩ => ⟨_, _, h1, Only.of_below h2, .inr ⟨(fun _ hh => (by cases hh)), _, _, rfl⟩⟩
theorem ret_pair {a b c d : Int} {k k' : IntKind} (h : a = c) (h' : b = d) : Ending.returned (.tuple #[.int k a, .int k' b]) = .returned (.tuple #[.int k c, .int k' d]) := by rw [h, h']
set_option maxHeartbeats 400000 in
theorem number_nil (s : ByteArray) (w : World) (h : Lib.trimPrefix s.data.toList [45] = []) :
    Calls Tryd.prog 32 #[.string s] w fun e w' => e = .returned (.tuple #[.int .i64 0, .int .i64 11]) ∧ Only [] w w' := by
  have HT := Lib.hid (Tryd.strings_TrimPrefix s ⟨#[45]⟩ w)
  rw [show (⟨#[45]⟩ : ByteArray).data.toList = [45] from rfl, h] at HT
  clear h
  go_enter Tryd.func32, Tryd.ntmps32
  go_wp2_with (go_at_call 39; refine HT.out.mono ?_; rintro e w1 ⟨rfl, rfl⟩)
  go_ret2
  exact ⟨rfl, Only.refl _ _⟩
set_option maxHeartbeats 400000 in
theorem number_long (s : ByteArray) (w : World) (c : UInt8) (r : List UInt8) (h : Lib.trimPrefix s.data.toList [45] = c :: r) (hl : 19 < r.length + 1) :
    Calls Tryd.prog 32 #[.string s] w fun e w' => e = .returned (.tuple #[.int .i64 0, .int .i64 11]) ∧ Only [] w w' := by
  have HT := Lib.hid (Tryd.strings_TrimPrefix s ⟨#[45]⟩ w)
  rw [show (⟨#[45]⟩ : ByteArray).data.toList = [45] from rfl, h] at HT
  clear h
  go_enter Tryd.func32, Tryd.ntmps32
  go_wp2_with (go_at_call 39; refine HT.out.mono ?_; rintro e w1 ⟨rfl, rfl⟩)
  go_ret2
  exact ⟨rfl, Only.refl _ _⟩
theorem trim_digs (c : UInt8) (r : List UInt8) (w : World) (hl : r.length + 1 ≤ 19) (td : List UInt8) (h : Lib.trimS (c :: r) digs = td) :
    Calls Tryd.prog 40 #[.string ⟨(c :: r).toArray⟩, .string ⟨#[48, 49, 50, 51, 52, 53, 54, 55, 56, 57]⟩] w fun e w' => e = .returned (.string ⟨td.toArray⟩) ∧ Only [] w w' := by
  subst h
  exact trim_any ⟨(c :: r).toArray⟩ ⟨#[48, 49, 50, 51, 52, 53, 54, 55, 56, 57]⟩ w (by simp [ByteArray.size]; omega) (by decide) (by decide)
set_option maxHeartbeats 400000 in
theorem number_letters (s : ByteArray) (w : World) (c : UInt8) (r : List UInt8) (h : Lib.trimPrefix s.data.toList [45] = c :: r) (hl : r.length + 1 ≤ 19) (t : UInt8) (ts : List UInt8) (ht : Lib.trimS (c :: r) digs = t :: ts) :
    Calls Tryd.prog 32 #[.string s] w fun e w' => e = .returned (.tuple #[.int .i64 0, .int .i64 11]) ∧ Only [] w w' := by
  have HT := Lib.hid (Tryd.strings_TrimPrefix s ⟨#[45]⟩ w)
  rw [show (⟨#[45]⟩ : ByteArray).data.toList = [45] from rfl, h] at HT
  have HS := Lib.hid (fun W => trim_digs c r W hl _ ht)
  clear h ht
  go_enter Tryd.func32, Tryd.ntmps32
  go_wp2_with (first | (go_at_call 39; refine HT.out.mono ?_; rintro e w1 ⟨rfl, rfl⟩) | (go_at_call 40; refine (HS.out _).mono ?_; rintro e w2 ⟨rfl, hO⟩))
  go_ret2
  exact ⟨rfl, hO⟩
set_option maxHeartbeats 400000 in
theorem number_zero (s : ByteArray) (w : World) (c : UInt8) (r : List UInt8) (h : Lib.trimPrefix s.data.toList [45] = c :: r) (hl : r.length + 1 ≤ 19) (ht : Lib.trimS (c :: r) digs = []) (hc : ((c.toNat : Int) == 48) = true) (hs : (s.toList == [48]) = false) :
    Calls Tryd.prog 32 #[.string s] w fun e w' => e = .returned (.tuple #[.int .i64 0, .int .i64 11]) ∧ Only [] w w' := by
  have HT := Lib.hid (Tryd.strings_TrimPrefix s ⟨#[45]⟩ w)
  rw [show (⟨#[45]⟩ : ByteArray).data.toList = [45] from rfl, h] at HT
  have HS := Lib.hid (fun W => trim_digs c r W hl _ ht)
  have hb : ∀ (h : 0 < (⟨(c :: r).toArray⟩ : ByteArray).size), (⟨(c :: r).toArray⟩ : ByteArray)[0]'h = c := fun _ => rfl
  have hd : decide (19 < (r.length : Int) + 1) = false := by simp; omega
  clear h ht
  go_enter Tryd.func32, Tryd.ntmps32
  go_wp2_with (first | (go_at_call 39; refine HT.out.mono ?_; rintro e w1 ⟨rfl, rfl⟩) | (go_at_call 40; refine (HS.out _).mono ?_; rintro e w2 ⟨rfl, hO⟩))
  go_ret2
  exact ⟨rfl, hO⟩
set_option maxHeartbeats 400000 in
theorem number_num (s : ByteArray) (w : World) (c : UInt8) (r : List UInt8) (h : Lib.trimPrefix s.data.toList [45] = c :: r) (hl : r.length + 1 ≤ 19) (ht : Lib.trimS (c :: r) digs = []) (hc : ((c.toNat : Int) == 48) = false ∨ (((c.toNat : Int) == 48) = true ∧ (s.toList == [48]) = true)) (he : Env w) (hsz : s.size ≤ 1000000) :
    Calls Tryd.prog 32 #[.string s] w fun e w' => e = .returned (.tuple #[.int .i64 (numV (Lib.atoiAll s.data.toList)), .int .i64 (numE (Lib.atoiAll s.data.toList))]) ∧ Only [] w w' := by
  have HT := Lib.hid (Tryd.strings_TrimPrefix s ⟨#[45]⟩ w)
  rw [show (⟨#[45]⟩ : ByteArray).data.toList = [45] from rfl, h] at HT
  have HS := Lib.hid (fun W => trim_digs c r W hl _ ht)
  have hb : ∀ (h : 0 < (⟨(c :: r).toArray⟩ : ByteArray).size), (⟨(c :: r).toArray⟩ : ByteArray)[0]'h = c := fun _ => rfl
  have hd : decide (19 < (r.length : Int) + 1) = false := by simp; omega
  have HA := Lib.hid (fun W (hW : Env W) => atoi_any s W hW hsz)
  clear h ht
  generalize Lib.atoiAll s.data.toList = at_ at *
  have fin : ∀ (n : Int) (v : Value), ((∃ u, at_ = .ok u ∧ n = u ∧ v = .nilIface) ∨ ((∀ u, at_ ≠ .ok u) ∧ ∃ t a, v = .iface t (.pointer (some a)))) → (v = .nilIface ∧ numV at_ = n ∧ numE at_ = 0) ∨ ((∃ t a, v = .iface t (.pointer (some a))) ∧ numV at_ = 0 ∧ numE at_ = 10) := by
    intro n v h
    rcases h with ⟨u, rfl, rfl, rfl⟩ | ⟨hn, hv⟩
    · exact .inl ⟨rfl, rfl, rfl⟩
    · rcases at_ with u | _ | _
      · exact absurd rfl (hn u)
      · exact .inr ⟨hv, rfl, rfl⟩
      · exact .inr ⟨hv, rfl, rfl⟩
  have HF := Lib.hid fin
  clear fin
  generalize numV at_ = rv at *
  generalize numE at_ = re at *
  rcases hc with hc | ⟨hc, hs⟩
  all_goals
    go_enter Tryd.func32, Tryd.ntmps32
    go_wp2_with (first | (go_at_call 39; refine HT.out.mono ?_; rintro e w1 ⟨rfl, rfl⟩) | (go_at_call 40; refine (HS.out _).mono ?_; rintro e w2 ⟨rfl, hO⟩))
    refine (HA.out _ (he.only_nil hO)).mono ?_
    rintro e w3 ⟨n, v, rfl, hO3, hv⟩
    rcases HF.out n v hv with ⟨rfl, h1, h2⟩ | ⟨⟨t, a, rfl⟩, h1, h2⟩
    · have H1 := Lib.hid h1
      have H2 := Lib.hid h2
      clear h1 h2 hv
      go_wp2
      go_ret2
      exact ⟨ret_pair H1.out.symm H2.out.symm, hO.trans_nil hO3⟩
    · have H1 := Lib.hid h1
      have H2 := Lib.hid h2
      clear h1 h2 hv
      go_wp2
      go_ret2
      exact ⟨ret_pair H1.out.symm H2.out.symm, hO.trans_nil hO3⟩
theorem number_any (s : ByteArray) (w : World) (he : Env w) (hsz : s.size ≤ 1000000) :
    Calls Tryd.prog 32 #[.string s] w fun e w' => e = .returned (.tuple #[.int .i64 (numR s.data.toList).1, .int .i64 (numR s.data.toList).2]) ∧ Only [] w w' := by
  unfold numR badNum
  cases h : Lib.trimPrefix s.data.toList [45] with
  | nil => simpa using number_nil s w h
  | cons c r =>
    by_cases hl : 19 < r.length + 1
    · simpa [hl] using number_long s w c r h hl
    · have hl' : r.length + 1 ≤ 19 := by omega
      cases ht : Lib.trimS (c :: r) digs with
      | cons t ts => simpa [ht] using number_letters s w c r h hl' t ts ht
      | nil =>
        have hdec : decide (19 < (c :: r).length) = false := by simp; omega
        have hse : s.toList = s.data.toList := Go.ByteArray.toList_eq s
        by_cases hc : c = 48
        · subst hc
          by_cases hs : s.data.toList = [48]
          · have := number_num s w 48 r h hl' ht (.inr ⟨rfl, by rw [hse, hs]; rfl⟩) he hsz
            have hs' : (s.data.toList == [48]) = true := by simpa using hs
            simp only [hdec, List.isEmpty_cons, List.isEmpty_nil, List.head?_cons, hs', Bool.not_true, Bool.or_false, Bool.and_false, Bool.false_eq_true, if_false]
            exact this
          · have := number_zero s w 48 r h hl' ht rfl (by rw [hse]; simpa using hs)
            have hs' : (s.data.toList == [48]) = false := by simpa using hs
            simpa [hdec, hs'] using this
        · have hcn : c.toNat ≠ 48 := fun e => hc (UInt8.toNat_inj.1 e)
          have := number_num s w c r h hl' ht (.inl (by simp; omega)) he hsz
          have hc' : (some c == some (48 : UInt8)) = false := by simpa using hc
          simp only [hdec, List.isEmpty_cons, List.isEmpty_nil, List.head?_cons, hc', Bool.not_true, Bool.or_false, Bool.false_and, Bool.false_eq_true, if_false]
          exact this
end Go.Proofs.YtmebolbjidjajaaDoor
