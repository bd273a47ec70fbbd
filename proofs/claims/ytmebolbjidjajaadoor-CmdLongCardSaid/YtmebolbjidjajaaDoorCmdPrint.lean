/-
  punnet/cmd.Print: the text of commands, or how it is wrong.
-/
import Derived.Test.YtmebolbjidjajaaDoorCmdLine
import Derived.Test.YtmebolbjidjajaaDoorKinds
import Derived.Test.YtmebolbjidjajaaDoorBuilder
set_option linter.unusedSimpArgs false
set_option maxRecDepth 100000
namespace Go.Proofs.YtmebolbjidjajaaDoor
open Go.RowKit Go.Proofs.YtmebolbjidjajaaDoorW.PrintWords
def CV.E (x : CV) : Int := lineE x.f0.data.toList x.f1 x.f2
def CV.L (x : CV) : List UInt8 := lineL x.f0.data.toList x.f1 x.f2
/-- What cmd.Print tells: the text, the line, the error. -/
def printGo : Nat → List UInt8 → List CV → List UInt8 × Int × Int
  | _, acc, [] => if 65536 < acc.length then ([], 0, 12) else (acc, 0, 0)
  | i, acc, x :: xs => if x.E = 0 then printGo (i + 1) (acc ++ x.L) xs else ([], ((i + 1 : Nat) : Int), x.E)
def Fine (x : CV) : Prop := x.f0.size ≤ 1000 ∧ -9223372036854775808 ≤ x.f1 ∧ x.f1 ≤ 9223372036854775807 ∧ -9223372036854775808 ≤ x.f2 ∧ x.f2 ≤ 9223372036854775807
theorem lineN_len (n : Nat) (l : List UInt8) (a b : Int) (h0 : -9223372036854775808 ≤ a) (h1 : a ≤ 9223372036854775807) (h2 : -9223372036854775808 ≤ b) (h3 : b ≤ 9223372036854775807) : (lineN n l a b).length ≤ l.length + 43 := by
  have := itoa_len a h0 h1
  have := itoa_len b h2 h3
  unfold lineN
  split <;> split <;> simp <;> omega
theorem CV.L_len (x : CV) (h : Fine x) : x.L.length ≤ 1043 := by
  have := lineN_len ((nums x.f0.data.toList).getD 0) x.f0.data.toList x.f1 x.f2 h.2.1 h.2.2.1 h.2.2.2.1 h.2.2.2.2
  have e : x.f0.data.toList.length = x.f0.size := (Lib.size_eq x.f0).symm
  have := h.1
  unfold CV.L lineL
  omega
theorem strCells_bytes (l : List UInt8) : Lib.strCells ⟨l.toArray⟩ = Lib.byteCells l := by
  simp [Lib.strCells, Lib.byteCells]
theorem byteCells_append (a b : List UInt8) : Lib.byteCells (a ++ b) = Lib.byteCells a ++ Lib.byteCells b := by
  simp [Lib.byteCells]
theorem mk_size (l : List UInt8) : (⟨l.toArray⟩ : ByteArray).size = l.length := by simp [ByteArray.size]
theorem builder_only {T e : TypeId} {B b : Nat} {l : List Value} {w w' : World} (h : Lib.IsBuilder T e B b l w) (ho : Only [] w w') : Lib.IsBuilder T e B b l w' := by
  have key : ∀ p, Lib.BuilderAt T e B b p l w → Lib.BuilderAt T e B b p l w' := by
    rintro p ⟨hB, v, hb, hown, hne⟩
    exact ⟨hB, v, (ho.block b (Array.getElem?_eq_some_iff.1 hb).1 (by simp)).trans hb, hown.kept (ho.grownBy_none none) (by cases v.ownBlock <;> simp), hne⟩
  exact h.imp (key _) (key _)
set_option maxHeartbeats 1000000 in
theorem print_any (A : Option Addr) (c : Nat) (xs : List CV) (w : World) (hr : Kd.C kCV w A xs.length xs) (hc : xs.length ≤ c) (he : Env w) (hf : ∀ x ∈ xs, Fine x) (hn : xs.length ≤ 1000000) :
    Calls Tryd.prog 9 #[.slice A xs.length c] w fun e w' =>
      e = .returned (.tuple #[.string ⟨(printGo 0 [] xs).1.toArray⟩, .int .i64 (printGo 0 [] xs).2.1, .int .i64 (printGo 0 [] xs).2.2]) ∧ Only [] w w' := by
  have HC := Lib.hid hc
  clear hc
  have hB0 := Lib.fresh_isBuilder 46 5 w
  go_enter Tryd.func9, Tryd.ntmps9
  go_wp2_with fail
  go_loopw [12] (fun i wr => ∃ (k : Nat) (acc : List UInt8), k ≤ xs.length ∧ i = .int .i64 k ∧ acc.length ≤ k * 1043 ∧ printGo 0 [] xs = printGo k acc (xs.drop k) ∧
      Lib.IsBuilder 46 5 w.heap.size w.heap.size (Lib.byteCells acc) wr ∧ Below w.heap.size w wr ∧ w.heap.size < wr.heap.size) (fun i _ => xs.length - (intOf i).toNat)
  case atStart => exact ⟨0, [], by omega, rfl, by simp, rfl, by simpa [Lib.byteCells] using hB0, (Below.refl _ w).alloc (Nat.le_refl _) _, by simp⟩
  case round =>
    obtain ⟨k, acc, hk, rfl, hal, hgo, hib, hbw, hsz⟩ := hrel
    have HG := Lib.hid hgo
    clear hgo
    have hew : Env wr := he.below hbw he.size
    by_cases hlt : k < xs.length
    · have hrk := Kd.C_below hr hbw
      obtain ⟨ad, rfl, d0, d1, d2⟩ := at_CV hrk k hlt
      have hx : xs[k]? = some (xs.getD k cv0) := by simp [List.getD, hlt]
      have hfx := hf _ (List.mem_of_getElem? hx)
      have hdr : xs.drop k = xs.getD k cv0 :: xs.drop (k + 1) := by
        rw [List.drop_eq_getElem_cons hlt]; simp [List.getD, hlt]
      have HD := Lib.hid hdr
      clear hx hdr
      generalize xs.getD k cv0 = x at *
      have hLl := CV.L_len x hfx
      obtain ⟨xw, xa, xb⟩ := x
      obtain ⟨f0, f1, f2, f3, f4⟩ := hfx
      simp only at d0 d1 d2 f0 f1 f2 f3 f4
      have HL := Lib.hid (fun W (hW : Env W) => line_any xw xa xb W (by omega) f1 f2 f3 f4 hW)
      by_cases hE : lineE xw.data.toList xa xb = 0
      · have HE := Lib.hid hE
        simp only [hE, if_true] at HL
        clear hE
        obtain ⟨L, hL⟩ : ∃ L, L = lineL xw.data.toList xa xb := ⟨_, rfl⟩
        rw [← hL] at HL
        have hLl' : L.length ≤ 1043 := by rw [hL]; exact hLl
        have HLL := Lib.hid hL
        clear hL hLl
        have hO0 := (Only.refl [] wr).alloc (.cells #[.string xw, .int .i64 xa, .int .i64 xb] 41)
        go_wp2_with (go_at_call 14; refine (HL.out _ (hew.alloc _)).mono ?_; rintro e w1 ⟨rfl, hO⟩)
        have hO1 := hO0.trans_nil hO
        have hib1 := builder_only hib hO1
        have hb1 : Below w.heap.size w w1 := hbw.trans (hO1.below.mono hbw.size)
        refine (writeString_any _ _ _ _ _ hib1 (by rw [mk_size]; simp [Lib.byteCells]; omega) hb1.size).mono ?_
        rintro e w2 ⟨rfl, hib2, hb2⟩
        have hs2 := hb2.size
        have hs1 := hO1.size
        go_wp2
        go_roundw
        case rel =>
          refine ⟨k + 1, acc ++ L, by omega, by go_num, by simp; omega, ?_, ?_, hb1.trans hb2, by omega⟩
          · rw [HG.out, HD.out, printGo, if_pos (by exact HE.out), HLL.out]; rfl
          · rw [byteCells_append, ← strCells_bytes L]; exact hib2
        case measure => simp [intOf]; omega
      · have HE := Lib.hid hE
        have hE' : (lineE xw.data.toList xa xb != 0) = true := by simpa using hE
        simp only [if_neg hE] at HL
        clear hE hLl
        obtain ⟨E, hEE⟩ : ∃ E, E = lineE xw.data.toList xa xb := ⟨_, rfl⟩
        rw [← hEE] at HL hE'
        have HEE := Lib.hid hEE
        clear hEE
        have hO0 := (Only.refl [] wr).alloc (.cells #[.string xw, .int .i64 xa, .int .i64 xb] 41)
        go_wp2_with (go_at_call 14; refine (HL.out _ (hew.alloc _)).mono ?_; rintro e w1 ⟨rfl, hO⟩)
        have hO1 := hO0.trans_nil hO
        go_ret3
        have e1 : printGo 0 [] xs = ([], ((k + 1 : Nat) : Int), E) := by rw [HG.out, HD.out, printGo, if_neg (by exact HE.out), HEE.out]; rfl
        rw [e1]
        exact ⟨by simp, Only.of_below (hbw.trans (hO1.below.mono hbw.size))⟩
    · obtain rfl : k = xs.length := by omega
      have e0 : printGo 0 [] xs = if 65536 < acc.length then ([], 0, 12) else (acc, 0, 0) := by rw [HG.out, List.drop_length, printGo]
      have H0 := Lib.hid e0
      clear e0
      have hl : (Lib.byteCells acc).length = acc.length := by simp [Lib.byteCells]
      have HLEN := Lib.hid hl
      clear hl
      go_wp2_with (go_at_call 16; refine (Tryd.Builder_Len _ _ _ _ hib).mono ?_; rintro e w1 ⟨rfl, rfl⟩; rw [HLEN.out])
      · have ht : (65536 : Int) < (acc.length : Int) := by assumption
        go_ret3
        rw [H0.out, if_pos (by omega)]
        exact ⟨rfl, Only.of_below hbw⟩
      · have ht : (acc.length : Int) ≤ 65536 := by assumption
        refine (Tryd.Builder_String_any _ _ acc _ hib hbw.size).mono ?_
        rintro e w2 ⟨rfl, hb2⟩
        go_wp2
        go_ret3
        rw [H0.out, if_neg (by omega)]
        exact ⟨rfl, Only.of_below (hbw.trans hb2)⟩
end Go.Proofs.YtmebolbjidjajaaDoor
