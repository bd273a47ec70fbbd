/-
  The law CmdPrints.
-/
import Derived.Test.YtmebolbjidjajaaDoorRefLine
set_option linter.unusedSimpArgs false
set_option maxRecDepth 100000
namespace Go.Proofs.YtmebolbjidjajaaDoor
open Go.RowKit Go.Proofs.YtmebolbjidjajaaDoorW.PrintWords
set_option maxHeartbeats 1000000 in
theorem prints_far (A : Option Addr) (c : Nat) (xs : List CV) (w : World) (hr : Kd.C kCV w A xs.length xs) (hc : xs.length ≤ c) (he : Env w) (h : fewB xs = false) :
    Calls Tryd.prog 3 #[.slice A xs.length c] w fun e w' => e = .returned (.bool true) ∧ Only [] w w' := by
  have HC := Lib.hid hc
  clear hc
  have HF := Lib.hid (few_any A c xs w hr HC.out)
  rw [h] at HF
  clear h
  go_enter Tryd.func3, Tryd.ntmps3
  go_wp2_with (first
    | (go_at_call 7; refine HF.out.mono ?_; rintro e w1 ⟨rfl, rfl⟩)
    | (go_at_call 8; refine (awake_any _ he).mono ?_; rintro e w2 ⟨rfl, hO⟩))
  go_ret
  exact ⟨rfl, hO⟩
/-- What the document tells of a command. -/
theorem refLine_cv (x : CV) (hx : Fine x) (w : World) :
    Calls Tryd.prog 11 #[.agg #[.string x.f0, .int .i64 x.f1, .int .i64 x.f2]] w fun e w' => e = .returned (.tuple #[.string (mkS (if x.E = 0 then x.L else [])), .int .i64 x.E]) ∧ Only [] w w' :=
  refLine_any x.f0 x.f1 x.f2 w (by have := hx.1; omega) hx.2.1 hx.2.2.1 hx.2.2.2.1 hx.2.2.2.2
theorem textOf_snoc (xs : List CV) (x : CV) : textOf (xs ++ [x]) = textOf xs ++ x.L := by simp [textOf]
theorem textOf_app (xs ys : List CV) : textOf (xs ++ ys) = textOf xs ++ textOf ys := by simp [textOf]
theorem textOf_take_len (xs : List CV) (k : Nat) : (textOf (xs.take k)).length ≤ (textOf xs).length := by
  have h := textOf_app (xs.take k) (xs.drop k)
  rw [List.take_append_drop] at h
  rw [h, List.length_append]
  omega
set_option maxHeartbeats 4000000 in
theorem prints_near (A : Option Addr) (c : Nat) (xs : List CV) (w : World) (hr : Kd.C kCV w A xs.length xs) (hc : xs.length ≤ c) (he : Env w) (hb : fewB xs = true) (hi : Ints xs) :
    Calls Tryd.prog 3 #[.slice A xs.length c] w fun e w' => e = .returned (.bool true) ∧ Only [] w w' := by
  have HC := Lib.hid hc
  have HF := Lib.hid (few_any A c xs w hr HC.out)
  obtain ⟨hl, hf⟩ := few_fine hb hi
  have HR := Lib.hid hr
  have HP := Lib.hid (print_any A c xs w hr HC.out he (fun x hx => (hf x hx).2) (by omega))
  have HPL := Lib.hid (fun W (hrW : Kd.C kCV W A xs.length xs) => plain_any A c xs W hrW HC.out (by omega))
  have hpf := print_few hb hi
  rw [hb] at HF
  have HFN := Lib.hid (fun x hx => (hf x hx).2)
  have HS1 := Lib.hid (fun x hx => (hf x hx).1)
  clear hc hr hb hf
  rcases hpf with ⟨hright, hpr, htl⟩ | ⟨pre, x, post, h1, h2, hx, hpr⟩
  · rw [hpr] at HP
    have HRT := Lib.hid hright
    obtain ⟨tx, htx⟩ : ∃ tx, (⟨(textOf xs).toArray⟩ : ByteArray) = tx := ⟨_, rfl⟩
    rw [htx] at HP
    have HTX := Lib.hid htx
    clear hpr hright htx
    go_enter Tryd.func3, Tryd.ntmps3
    go_wp2_with (first
      | (go_at_call 7; refine HF.out.mono ?_; rintro e w1 ⟨rfl, rfl⟩)
      | (go_at_call 9; refine HP.out.mono ?_; rintro e1 w1 ⟨rfl, hO1⟩; have he1 := he.only_nil hO1)
      | (go_at_call 10; refine (HPL.out _ (C_only HR.out hO1)).mono ?_; rintro e3 w3 ⟨v3, rfl, hown3, hO3⟩; obtain ⟨A3, c3, rfl, hcap3, hC3⟩ := C_own hown3 (by omega); have hO13 := hO1.trans_nil hO3; have he3 := he.only_nil hO13))
    clear hown3
    go_loopw [7, 8] (fun t i wr => ∃ k : Nat, k ≤ xs.length ∧ i = .int .i64 k ∧ t = .string (mkS (textOf (xs.take k))) ∧ Only [] w3 wr) (fun _ i _ => xs.length - (intOf i).toNat)
    case atStart => exact ⟨0, by omega, rfl, rfl, .refl _ _⟩
    case round =>
      obtain ⟨k, hk, rfl, rfl, hO⟩ := hrel
      have hO14 := hO13.trans_nil hO
      have he4 := he.only_nil hO14
      by_cases hlt : k < xs.length
      · skip
        obtain ⟨ad, rfl, d0, d1, d2⟩ := at_CV (C_only hC3 hO) k hlt
        have htk := take_snoc xs k hlt
        have hxm : xs.getD k cv0 ∈ xs := by rw [List.getD_eq_getElem?_getD, List.getElem?_eq_getElem hlt]; exact List.getElem_mem hlt
        have hfx := HFN.out _ hxm
        have hE : (xs.getD k cv0).E = 0 := (HRT.out _ hxm).1
        generalize xs.getD k cv0 = y at *
        have HLN := Lib.hid (fun W => refLine_cv y hfx W)
        simp only [hE, if_true] at HLN
        have hcat : mkS (textOf (xs.take k)) ++ mkS y.L = mkS (textOf (xs.take (k + 1))) := by rw [mkS_app, htk, textOf_snoc]
        have hz1 : (mkS (textOf (xs.take k))).size ≤ 20000 := by have := textOf_take_len xs k; exact Nat.le_trans this (by omega)
        have hz2 : (mkS y.L).size ≤ 1043 := CV.L_len y hfx
        have HCAT := Lib.hid hcat
        clear hcat htk hxm hfx hE
        generalize mkS (textOf (xs.take k)) = tk at *
        generalize mkS y.L = ly at *
        obtain ⟨y0, y1, y2⟩ := y
        simp only at d0 d1 d2 HLN
        have hlt' : (k : Int) < xs.length := by omega
        go_wp2_with (go_at_call 11; refine (HLN.out _).mono ?_; rintro e5 w5 ⟨rfl, hO5⟩)
        go_roundw
        case rel => exact ⟨k + 1, by omega, by go_num, by rw [HCAT.out], hO.trans_nil hO5⟩
        case measure => simp [intOf]; omega
      · obtain rfl : k = xs.length := by omega
        have hx2 : mkS (textOf (xs.take xs.length)) = tx := by rw [List.take_length]; exact HTX.out
        rw [hx2]
        clear hx2
        go_wp2_with (go_at_call 8; refine (awake_any _ he4).mono ?_; rintro e6 w7 ⟨rfl, hO7⟩)
        go_ret
        exact ⟨rfl, hO14.trans_nil hO7⟩
  · rw [hpr] at HP
    have hn1 : pre.length < xs.length := by rw [h1]; simp
    have HX := Lib.hid (show xs.getD pre.length cv0 = x by rw [h1]; simp [List.getD])
    have HP2 := Lib.hid (show ∀ k, k < pre.length → (xs.getD k cv0).E = 0 from fun k hk => by
      have : xs.getD k cv0 ∈ pre := by
        rw [h1, List.getD_eq_getElem?_getD, List.getElem?_append_left hk, List.getElem?_eq_getElem hk]
        exact List.getElem_mem hk
      exact h2 _ this)
    have htl : (textOf xs).length ≤ 14300 := by
      have hn := text_len xs 143 fun x hx => L_len100 x (HFN.out x hx) (HS1.out x hx)
      omega
    clear h1 h2 hpr
    go_enter Tryd.func3, Tryd.ntmps3
    go_wp2_with (first
      | (go_at_call 7; refine HF.out.mono ?_; rintro e w1 ⟨rfl, rfl⟩)
      | (go_at_call 9; refine HP.out.mono ?_; rintro e1 w1 ⟨rfl, hO1⟩; have he1 := he.only_nil hO1)
      | (go_at_call 10; refine (HPL.out _ (C_only HR.out hO1)).mono ?_; rintro e3 w3 ⟨v3, rfl, hown3, hO3⟩; obtain ⟨A3, c3, rfl, hcap3, hC3⟩ := C_own hown3 (by omega); have hO13 := hO1.trans_nil hO3; have he3 := he.only_nil hO13))
    clear hown3
    go_loopw [7, 8] (fun t i wr => ∃ k : Nat, k ≤ pre.length ∧ i = .int .i64 k ∧ t = .string (mkS (textOf (xs.take k))) ∧ Only [] w3 wr) (fun _ i _ => xs.length - (intOf i).toNat)
    case atStart => exact ⟨0, by omega, rfl, rfl, .refl _ _⟩
    case round =>
      obtain ⟨k, hk, rfl, rfl, hO⟩ := hrel
      have hO14 := hO13.trans_nil hO
      have he4 := he.only_nil hO14
      have hlt : k < xs.length := by omega
      by_cases hkp : k < pre.length
      · skip
        obtain ⟨ad, rfl, d0, d1, d2⟩ := at_CV (C_only hC3 hO) k hlt
        have htk := take_snoc xs k hlt
        have hxm : xs.getD k cv0 ∈ xs := by rw [List.getD_eq_getElem?_getD, List.getElem?_eq_getElem hlt]; exact List.getElem_mem hlt
        have hfx := HFN.out _ hxm
        have hE : (xs.getD k cv0).E = 0 := HP2.out k hkp
        generalize xs.getD k cv0 = y at *
        have HLN := Lib.hid (fun W => refLine_cv y hfx W)
        simp only [hE, if_true] at HLN
        have hcat : mkS (textOf (xs.take k)) ++ mkS y.L = mkS (textOf (xs.take (k + 1))) := by rw [mkS_app, htk, textOf_snoc]
        have hz1 : (mkS (textOf (xs.take k))).size ≤ 20000 := by have := textOf_take_len xs k; exact Nat.le_trans this (by omega)
        have hz2 : (mkS y.L).size ≤ 1043 := CV.L_len y hfx
        have HCAT := Lib.hid hcat
        clear hcat htk hxm hfx hE
        generalize mkS (textOf (xs.take k)) = tk at *
        generalize mkS y.L = ly at *
        obtain ⟨y0, y1, y2⟩ := y
        simp only at d0 d1 d2 HLN
        have hlt' : (k : Int) < xs.length := by omega
        go_wp2_with (go_at_call 11; refine (HLN.out _).mono ?_; rintro e5 w5 ⟨rfl, hO5⟩)
        go_roundw
        case rel => exact ⟨k + 1, by omega, by go_num, by rw [HCAT.out], hO.trans_nil hO5⟩
        case measure => simp [intOf]; omega
      · obtain rfl : k = pre.length := by omega
        obtain ⟨ad, rfl, d0, d1, d2⟩ := at_CV (C_only hC3 hO) pre.length hlt
        have hxm : xs.getD pre.length cv0 ∈ xs := by rw [List.getD_eq_getElem?_getD, List.getElem?_eq_getElem hlt]; exact List.getElem_mem hlt
        have hfx := HFN.out _ hxm
        rw [HX.out] at d0 d1 d2 hfx
        have HLN := Lib.hid (fun W => refLine_cv x hfx W)
        simp only [hx, if_false] at HLN
        generalize x.E = xe at *
        have hxe : (xe != 0) = true := by simpa using hx
        obtain ⟨y0, y1, y2⟩ := x
        simp only at d0 d1 d2 HLN
        clear hx hfx hxm
        generalize pre.length = pl at *
        generalize mkS (textOf (xs.take pl)) = tk at *
        have hlt' : (pl : Int) < xs.length := by omega
        go_wp2_with (first
          | (go_at_call 11; refine (HLN.out _).mono ?_; rintro e5 w5 ⟨rfl, hO5⟩; have hO15 := hO14.trans_nil hO5; have he5 := he.only_nil hO15)
          | (go_at_call 8; refine (awake_any _ he5).mono ?_; rintro e6 w7 ⟨rfl, hO7⟩))
        go_ret
        exact ⟨rfl, hO15.trans_nil hO7⟩
theorem prints_any (A : Option Addr) (c : Nat) (xs : List CV) (w : World) (hr : Kd.C kCV w A xs.length xs) (hc : xs.length ≤ c) (he : Env w) (hi : Ints xs) :
    Calls Tryd.prog 3 #[.slice A xs.length c] w fun e w' => e = .returned (.bool true) ∧ Only [] w w' := by
  cases hb : fewB xs with
  | false => exact prints_far A c xs w hr hc he hb
  | true => exact prints_near A c xs w hr hc he hb hi
end Go.Proofs.YtmebolbjidjajaaDoor
