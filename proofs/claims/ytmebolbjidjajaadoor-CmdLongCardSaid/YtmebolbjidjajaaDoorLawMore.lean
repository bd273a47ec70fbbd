/-
  The law CmdMore.
-/
import Derived.Test.YtmebolbjidjajaaDoorLawBack
import Derived.Test.YtmebolbjidjajaaDoorAppend
import Derived.IntWalk
set_option linter.unusedSimpArgs false
set_option maxRecDepth 100000
namespace Go.Proofs.YtmebolbjidjajaaDoor
open Go.RowKit Go.Proofs.YtmebolbjidjajaaDoorW.PrintWords
theorem cvRow_index : ∀ (xs : List CV) (q : Nat) (u : Value), (cvRow xs)[q]? = some u → ∃ j x i, xs[j]? = some x ∧ q = j * 3 + i ∧ (cvCells x)[i]? = some u
  | [], q, u, h => by simp [cvRow] at h
  | y :: xs, q, u, h => by
    simp only [cvRow, List.map_cons, List.flatten_cons] at h
    by_cases hq : q < 3
    · rw [List.getElem?_append_left (by simpa [cvCells] using hq)] at h
      exact ⟨0, y, q, rfl, by omega, h⟩
    · rw [List.getElem?_append_right (by simp [cvCells]; omega)] at h
      obtain ⟨j, x, i, h1, h2, h3⟩ := cvRow_index xs (q - (cvCells y).length) u h
      exact ⟨j + 1, x, i, by simpa using h1, by simp [cvCells] at h2; omega, h3⟩
theorem cvRow_len : ∀ xs : List CV, (cvRow xs).length = xs.length * 3
  | [] => rfl
  | x :: xs => by
    have ih := cvRow_len xs
    simp only [cvRow, List.map_cons, List.flatten_cons, List.length_append, List.length_cons] at ih ⊢
    rw [ih, Nat.add_one_mul]
    simp [cvCells]
    omega
theorem cvRow_one (xs : List CV) : ∀ u ∈ cvRow xs, u.oneCell' = true := by
  intro u hu
  obtain ⟨q, hq, rfl⟩ := List.getElem_of_mem hu
  obtain ⟨j, x, i, _, _, h3⟩ := cvRow_index xs q _ (List.getElem?_eq_getElem hq)
  have hm := List.mem_of_getElem? h3
  simp only [cvCells, List.mem_cons, List.not_mem_nil, or_false] at hm
  rcases hm with h | h | h <;> rw [h] <;> rfl
theorem src_of_C {w : World} {A : Option Addr} {c : Nat} {xs : List CV} (h : Kd.C kCV w A xs.length xs) (hn : A = none → c = 0) : Src w 3 A xs.length c (cvRow xs) := by
  refine ⟨cvRow_len xs, fun ha => ⟨?_, hn ha⟩, fun ad ha q u hu => ?_⟩
  · by_cases h0 : 0 < xs.length
    · obtain ⟨ad, e, _⟩ := h.2.2 h0
      rw [ha] at e; cases e
    · omega
  · obtain ⟨j, x, i, h1, rfl, h3⟩ := cvRow_index xs q u hu
    obtain ⟨ad', e, hc⟩ := h.2.2 (by have := (List.getElem?_eq_some_iff.1 h1).1; omega)
    obtain rfl := Option.some.inj (ha.symm.trans e)
    obtain ⟨cs, _, hK, hcell⟩ := hc j x h1
    obtain rfl := kCV_open hK
    exact hcell i u h3
theorem src_of_own {w : World} {base n : Nat} {e : TypeId} {v : Value} {cells : List Value} (h : w.ownsRow base e 3 v n cells) : ∃ A cap, v = .slice A n cap ∧ Src w 3 A n cap cells := by
  obtain ⟨hl, ⟨hv, h0⟩ | ⟨g, cap, cur, hv, hb, hg, hnc, _, hcs, ht⟩⟩ := h
  · subst h0
    have hnil : cells = [] := List.eq_nil_of_length_eq_zero (by simpa using hl)
    exact ⟨none, 0, hv, hl, fun _ => ⟨rfl, rfl⟩, fun _ ha => by cases ha⟩
  · refine ⟨_, cap, hv, hl, (fun ha => by cases ha), fun ad ha j u hj => ?_⟩
    obtain rfl := Option.some.inj ha
    have hg' : Blk w g e cur := hg
    have hlt : j < cells.length := (List.getElem?_eq_some_iff.1 hj).1
    rw [show (⟨g, 0, none⟩ : Addr).add j = ⟨g, j, none⟩ by cases j <;> simp [Addr.add], hg'.cell]
    rw [← ht, List.getElem?_take, if_pos (by omega)] at hj
    simpa using hj
theorem own_only {w w' : World} {base n sz : Nat} {e : TypeId} {v : Value} {xs : List Value} (h : w.ownsRow base e sz v n xs) (hO : Only [] w w') : w'.ownsRow base e sz v n xs :=
  ownsRow_mild (B := 0) (fp := []) h (.of_only hO) (by simp)
set_option maxHeartbeats 4000000 in
theorem more_far (A B : Option Addr) (c d : Nat) (xs ys : List CV) (s t : ByteArray) (w : World) (hr : Kd.C kCV w A xs.length xs) (hc : xs.length ≤ c) (hr2 : Kd.C kCV w B ys.length ys) (hd : ys.length ≤ d) (he : Env w)
    (h : fewB xs = false ∨ fewB ys = false ∨ 2000 < s.size ∨ 2000 < t.size) :
    Calls Tryd.prog 5 #[.agg #[.slice A xs.length c, .slice B ys.length d], .agg #[.string s, .string t]] w fun e w' => e = .returned (.bool true) ∧ Only [] w w' := by
  have HW := Lib.hid (((Only.refl [] w).alloc (.cells #[.slice A xs.length c, .slice B ys.length d] 38)).alloc (.cells #[.string s, .string t] 39))
  have HE := Lib.hid (he.only_nil HW.out)
  have HF := Lib.hid (few_any A c xs _ (C_only hr HW.out) hc)
  have HG := Lib.hid (few_any B d ys _ (C_only hr2 HW.out) hd)
  clear hr hr2 hc hd
  by_cases hx : fewB xs = false
  · rw [hx] at HF
    clear h hx
    go_enter Tryd.func5, Tryd.ntmps5
    go_wp2_with (first
      | (go_at_call 7; with_reducible show Calls _ _ #[.slice A _ _] _ _; refine HF.out.mono ?_; rintro e w1 ⟨rfl, rfl⟩)
      | (go_at_call 8; refine (awake_any _ HE.out).mono ?_; rintro e w2 ⟨rfl, hO⟩))
    go_ret
    exact ⟨rfl, HW.out.trans_nil hO⟩
  · have hx' : fewB xs = true := by simpa using hx
    rw [hx'] at HF
    by_cases hy : fewB ys = false
    · rw [hy] at HG
      clear h hx hx' hy
      go_enter Tryd.func5, Tryd.ntmps5
      go_wp2_with (first
        | (go_at_call 7; with_reducible show Calls _ _ #[.slice A _ _] _ _; refine HF.out.mono ?_; rintro e w1 ⟨rfl, rfl⟩)
        | (go_at_call 7; with_reducible show Calls _ _ #[.slice B _ _] _ _; refine HG.out.mono ?_; rintro e w1 ⟨rfl, rfl⟩)
        | (go_at_call 8; refine (awake_any _ HE.out).mono ?_; rintro e w2 ⟨rfl, hO⟩))
      go_ret
      exact ⟨rfl, HW.out.trans_nil hO⟩
    · have hy' : fewB ys = true := by simpa using hy
      rw [hy'] at HG
      by_cases hs : 2000 < s.size
      · have hs' : (2000 : Int) < s.size := by omega
        clear h hx hx' hy hy' hs
        go_enter Tryd.func5, Tryd.ntmps5
        go_wp2_with (first
          | (go_at_call 7; with_reducible show Calls _ _ #[.slice A _ _] _ _; refine HF.out.mono ?_; rintro e w1 ⟨rfl, rfl⟩)
          | (go_at_call 7; with_reducible show Calls _ _ #[.slice B _ _] _ _; refine HG.out.mono ?_; rintro e w1 ⟨rfl, rfl⟩)
          | (go_at_call 8; refine (awake_any _ HE.out).mono ?_; rintro e w2 ⟨rfl, hO⟩))
        go_ret
        exact ⟨rfl, HW.out.trans_nil hO⟩
      · have ht : 2000 < t.size := by
          rcases h with h | h | h | h
          · exact absurd h hx
          · exact absurd h hy
          · exact absurd h hs
          · exact h
        have hs' : ¬ (2000 : Int) < s.size := by omega
        have ht' : (2000 : Int) < t.size := by omega
        clear h hx hx' hy hy' hs ht
        go_enter Tryd.func5, Tryd.ntmps5
        go_wp2_with (first
          | (go_at_call 7; with_reducible show Calls _ _ #[.slice A _ _] _ _; refine HF.out.mono ?_; rintro e w1 ⟨rfl, rfl⟩)
          | (go_at_call 7; with_reducible show Calls _ _ #[.slice B _ _] _ _; refine HG.out.mono ?_; rintro e w1 ⟨rfl, rfl⟩)
          | (go_at_call 8; refine (awake_any _ HE.out).mono ?_; rintro e w2 ⟨rfl, hO⟩))
        go_ret
        exact ⟨rfl, HW.out.trans_nil hO⟩
theorem textOf_app (xs ys : List CV) : textOf (xs ++ ys) = textOf xs ++ textOf ys := by simp [textOf]
theorem mkS_app (a b : List UInt8) : mkS a ++ mkS b = mkS (a ++ b) := by
  apply str_eq
  rw [ByteArray.data_append]
  simp [mkS]
theorem parse_okT (s : ByteArray) (m : List CV) (hp : parseT s = (m, 0, 0)) (hm : m.length ≤ 1000000) (w : World) (he : Env w) :
    Calls Tryd.prog 12 #[.string s] w fun e w' => ∃ A cap, e = .returned (.tuple #[.slice A m.length cap, .int .i64 0, .int .i64 0]) ∧ m.length ≤ cap ∧ Kd.C kCV w' A m.length m ∧ Only [] w w' := by
  refine (parse_any s w he).mono ?_
  rw [hp]
  rintro e w' ⟨v, rfl, hown, hO⟩
  obtain ⟨A, cap, rfl, hc, hC⟩ := C_own hown hm
  exact ⟨A, cap, rfl, hc, hC, hO⟩
theorem more_parse (s t : ByteArray) (hs : s.size ≤ 2000) (ht : t.size ≤ 2000) :
    (∃ (k e : Int), parseT s = ([], k, e) ∧ e ≠ 0 ∧ 1 ≤ k) ∨
    (∃ (m : List CV) (k e : Int), m.length ≤ 2000 ∧ parseT s = (m, 0, 0) ∧ parseT t = ([], k, e) ∧ parseT (s ++ t) = ([], k + m.length, e) ∧ e ≠ 0 ∧ (0 ≤ k ∧ k ≤ 1000000)) ∨
    (∃ (m m2 zs : List CV), (m.length ≤ 2000 ∧ m2.length ≤ 2000) ∧ parseT s = (m, 0, 0) ∧ parseT t = (m2, 0, 0) ∧ parseT (s ++ t) = (zs, 0, 0) ∧ zs = m ++ m2) := by
  have e1 : parseT s = parseR (linesB s.data.toList) [] := by rw [parseT, if_neg (by omega)]; rfl
  have e2 : parseT t = parseR (linesB t.data.toList) [] := by rw [parseT, if_neg (by omega)]; rfl
  have hl : (s ++ t).data.toList = s.data.toList ++ t.data.toList := by rw [ByteArray.data_append, Array.toList_append]
  have e3 : parseT (s ++ t) = parseR (linesB (s.data.toList ++ t.data.toList)) [] := by
    have hz : (s ++ t).size = s.size + t.size := ByteArray.size_append
    rw [parseT, if_neg (by omega), hl]; rfl
  have len : ∀ (b : ByteArray) (m : List CV), textOf m = b.data.toList → b.size ≤ 2000 → m.length ≤ 2000 := fun b m h hb => by
    have := textOf_lines m
    rw [h, Array.length_toList] at this
    exact Nat.le_trans this hb
  rcases text_fwd s.data.toList with ⟨m, h1, h2, h3⟩ | ⟨k, e, h1, h2⟩
  · rw [← h3, text_more m (fun x hx => (h2 x hx).1), parse_acc] at e3
    have hm := len s m h3 hs
    rcases text_fwd t.data.toList with ⟨m2, g1, g2, g3⟩ | ⟨k, e, g1, g2⟩
    · right; right
      rw [g1] at e3
      exact ⟨m, m2, _, ⟨hm, len t m2 g3 ht⟩, e1.trans h1, e2.trans g1, by rw [e3]; rfl, rfl⟩
    · right; left
      rw [g2] at e3
      dsimp only at e3
      rw [if_neg g1] at e3
      have hk : k ≤ 2000 := by
        rcases parse_cases (linesB t.data.toList) [] with ⟨m2, q1, _⟩ | ⟨pre, x, post, q1, _, q3, q4⟩
        · rw [g2] at q1
          exact absurd (congrArg (fun r => r.2.2) q1) g1
        · rw [g2] at q4
          have q5 := congrArg (fun r => r.2.1) q4
          simp only [List.length_nil, Nat.zero_add] at q5
          have q6 := congrArg List.length q1
          have q7 := linesL_len t.data.toList
          have q8 : t.data.toList.length = t.size := Array.length_toList
          simp only [linesB, List.length_map, List.length_append, List.length_cons] at q6
          omega
      exact ⟨m, _, e, hm, e1.trans h1, e2.trans g2, e3, g1, by omega⟩
  · left
    exact ⟨_, e, e1.trans h2, h1, by omega⟩
theorem more_print {xs ys : List CV} (hbx : fewB xs = true) (hby : fewB ys = true) (hix : Ints xs) (hiy : Ints ys) {pa0 pb0 pz0 : List UInt8} {pa1 pa2 pb1 pb2 pz1 pz2 : Int}
    (hpa : printGo 0 [] xs = (pa0, pa1, pa2)) (hpb : printGo 0 [] ys = (pb0, pb1, pb2)) (hpz : printGo 0 [] (xs ++ ys) = (pz0, pz1, pz2)) :
    (pa2 ≠ 0 ∧ pa2 = pz2 ∧ pa1 = pz1 ∧ (⟨#[]⟩ : ByteArray) = ⟨pz0.toArray⟩) ∨
    (pa2 = 0 ∧ (pb2 ≠ 0 ∧ 0 ≤ pb1 ∧ pb1 ≤ 1000) ∧ pb2 = pz2 ∧ pb1 + xs.length = pz1 ∧ (⟨#[]⟩ : ByteArray) = ⟨pz0.toArray⟩) ∨
    (pa2 = 0 ∧ pb2 = 0 ∧ 0 = pz2 ∧ 0 = pz1 ∧ (⟨pa0.toArray⟩ : ByteArray).size ≤ 20000 ∧ (⟨pb0.toArray⟩ : ByteArray).size ≤ 20000 ∧ (⟨pa0.toArray⟩ : ByteArray) ++ ⟨pb0.toArray⟩ = ⟨pz0.toArray⟩) := by
  obtain ⟨hlx, _⟩ := few_fine hbx hix
  obtain ⟨hly, _⟩ := few_fine hby hiy
  rcases print_few hbx hix with ⟨hr, hp, ht⟩ | ⟨pre, x, post, h1, h2, hx, hp⟩
  · rw [hp] at hpa
    cases hpa
    rcases print_few hby hiy with ⟨hr2, hp2, ht2⟩ | ⟨pre, x, post, h1, h2, hx, hp2⟩
    · right; right
      rw [hp2] at hpb
      cases hpb
      have hall : ∀ x ∈ xs ++ ys, x.E = 0 := fun x hx => (List.mem_append.1 hx).elim (fun h => (hr x h).1) (fun h => (hr2 x h).1)
      rw [print_ok _ 0 [] hall, List.nil_append, textOf_app, if_neg (by simp; omega)] at hpz
      cases hpz
      exact ⟨rfl, rfl, rfl, rfl, by show (textOf xs).length ≤ _; omega, by show (textOf ys).length ≤ _; omega, mkS_app _ _⟩
    · right; left
      rw [hp2] at hpb
      cases hpb
      rw [h1, ← List.append_assoc, print_bad (xs ++ pre) x post 0 [] (fun y hy => (List.mem_append.1 hy).elim (fun h => (hr y h).1) (h2 y)) hx] at hpz
      cases hpz
      have : pre.length < ys.length := by rw [h1]; simp
      refine ⟨rfl, ⟨hx, by omega, by omega⟩, rfl, ?_, rfl⟩
      simp only [List.length_append]
      omega
  · left
    rw [hp] at hpa
    cases hpa
    rw [h1, List.append_assoc, List.cons_append, print_bad pre x (post ++ ys) 0 [] h2 hx] at hpz
    cases hpz
    exact ⟨hx, rfl, by simp, rfl⟩
theorem own_ge {w : World} {base n sz : Nat} {e : TypeId} {v : Value} {xs : List Value} (h : w.ownsRow base e sz v n xs) : ∀ k, v.ownBlock = some k → base ≤ k := by
  intro k hk
  obtain ⟨_, ⟨hv, _⟩ | ⟨g, cap, cur, hv, hb, _⟩⟩ := h
  · rw [hv] at hk; simp [Value.ownBlock] at hk
  · rw [hv] at hk; simp [Value.ownBlock] at hk; omega
set_option maxHeartbeats 4000000 in
theorem more_near (A B : Option Addr) (c d : Nat) (xs ys : List CV) (s t : ByteArray) (w : World) (hr : Kd.C kCV w A xs.length xs) (hc : xs.length ≤ c) (hr2 : Kd.C kCV w B ys.length ys) (hd : ys.length ≤ d) (he : Env w)
    (hA : A = none → c = 0) (hB : B = none → d = 0) (hbx : fewB xs = true) (hby : fewB ys = true) (hix : Ints xs) (hiy : Ints ys) (hs : s.size ≤ 2000) (ht : t.size ≤ 2000) :
    Calls Tryd.prog 5 #[.agg #[.slice A xs.length c, .slice B ys.length d], .agg #[.string s, .string t]] w fun e w' => e = .returned (.bool true) ∧ Only [] w w' := by
  obtain ⟨W0, hW0⟩ : ∃ W0, (w.alloc (.cells #[.slice A xs.length c, .slice B ys.length d] 38)).alloc (.cells #[.string s, .string t] 39) = W0 := ⟨_, rfl⟩
  have HW : Only [] w W0 := by rw [← hW0]; exact ((Only.refl [] w).alloc _).alloc _
  have b0 : Blk W0 w.heap.size 38 #[.slice A xs.length c, .slice B ys.length d] := by rw [← hW0]; exact (Blk.new w _ _).alloc _
  have b1 : Blk W0 (w.heap.size + 1) 39 #[.string s, .string t] := by rw [← hW0]; exact Blk.new' (by simp)
  have HW0 := Lib.hid hW0
  have HE := Lib.hid (he.only_nil HW)
  have HF := Lib.hid (few_any A c xs _ (C_only hr HW) hc)
  have HG := Lib.hid (few_any B d ys _ (C_only hr2 HW) hd)
  rw [hbx] at HF
  rw [hby] at HG
  have hs' : ¬ (2000 : Int) < s.size := by omega
  have ht' : ¬ (2000 : Int) < t.size := by omega
  obtain ⟨hlx, hfx⟩ := few_fine hbx hix
  obtain ⟨hly, hfy⟩ := few_fine hby hiy
  have HC := Lib.hid (And.intro hc hd)
  have HR := Lib.hid (And.intro (C_only hr HW) (C_only hr2 HW))
  have HS := Lib.hid (And.intro (src_of_C (C_only hr HW) hA) (src_of_C (C_only hr2 HW) hB))
  have HP := Lib.hid (fun W (hW : Env W) (hrW : Kd.C kCV W A xs.length xs) => print_any A c xs W hrW HC.out.1 hW (fun x hx => (hfx x hx).2) (by omega))
  have HQ := Lib.hid (fun W (hW : Env W) (hrW : Kd.C kCV W B ys.length ys) => print_any B d ys W hrW HC.out.2 hW (fun x hx => (hfy x hx).2) (by omega))
  have HZ := Lib.hid (fun A c W (hW : Env W) (hrW : Kd.C kCV W A (xs ++ ys).length (xs ++ ys)) (hcW : (xs ++ ys).length ≤ c) => print_any A c (xs ++ ys) W hrW hcW hW (fun x hx => (List.mem_append.1 hx).elim (fun h => (hfx x h).2) (fun h => (hfy x h).2)) (by simp; omega))
  obtain ⟨pz, hpz⟩ : ∃ pz, printGo 0 [] (xs ++ ys) = pz := ⟨_, rfl⟩
  rw [hpz] at HZ
  simp only [List.length_append] at HZ
  obtain ⟨pz0, pz1, pz2⟩ := pz
  obtain ⟨i0, hi, hz0, hz1, hz2⟩ := info_parts info_cmd
  clear hr hr2 hc hd hA hB
  have c00 := b0.cell 0
  have c01 := b0.cell 1
  have c10 := b1.cell 0
  have c11 := b1.cell 1
  simp at c00 c01 c10 c11
  obtain ⟨pa, hpa⟩ : ∃ pa, printGo 0 [] xs = pa := ⟨_, rfl⟩
  obtain ⟨pb, hpb⟩ : ∃ pb, printGo 0 [] ys = pb := ⟨_, rfl⟩
  rw [hpa] at HP
  rw [hpb] at HQ
  obtain ⟨pa0, pa1, pa2⟩ := pa
  obtain ⟨pb0, pb1, pb2⟩ := pb
  go_enter Tryd.func5, Tryd.ntmps5
  go_wp2_with (first
    | (go_at_call 7; with_reducible show Calls _ _ #[.slice A _ _] _ _; refine HF.out.mono ?_; rintro e w1 ⟨rfl, rfl⟩)
    | (go_at_call 7; with_reducible show Calls _ _ #[.slice B _ _] _ _; refine HG.out.mono ?_; rintro e w1 ⟨rfl, rfl⟩)
    | (go_at_call 9; with_reducible show Calls _ _ #[.slice A _ _] _ _; refine (HP.out _ HE.out HR.out.1).mono ?_; rintro e w1 ⟨rfl, hO1⟩; have he1 := HE.out.only_nil hO1
       have b01 := b0.only_nil hO1; have b11 := b1.only_nil hO1; have e00 := b01.cell 0; have e01 := b01.cell 1; simp at e00 e01)
    | (go_at_call 9; with_reducible show Calls _ _ #[.slice B _ _] _ _; refine (HQ.out _ he1 (C_only HR.out.2 hO1)).mono ?_; rintro e w2 ⟨rfl, hO2⟩; have hO12 := hO1.trans_nil hO2; have he2 := HE.out.only_nil hO12
       have b02 := b0.only_nil hO12; have b12 := b1.only_nil hO12; have f00 := b02.cell 0; have f01 := b02.cell 1; have f10 := b12.cell 0; have f11 := b12.cell 1; simp at f00 f01 f10 f11))
  have keepS : ∀ W', Only [] W0 W' → W'.cell? ⟨w.heap.size, 0, none⟩ = some (.slice A xs.length c) ∧ W'.cell? ⟨w.heap.size, 1, none⟩ = some (.slice B ys.length d) := fun W' hW' => ⟨by simpa using (b0.only_nil hW').cell 0, by simpa using (b0.only_nil hW').cell 1⟩
  have hz2s : W0.heap.size ≤ w2.heap.size := hO12.size
  go_region_held3 (fun w' => w'.cell? ⟨w.heap.size, 0, none⟩ = some (.slice A xs.length c) ∧ w'.cell? ⟨w.heap.size, 1, none⟩ = some (.slice B ys.length d))
    (first | go_keep | exact keepS _ hk3 | exact keepS _ hk2 | exact keepS _ hk1)
    (first
      | ((with_reducible show (if Region.wanted (Oper.mk (some 58) _ _ _ _ _) _ = true then _ else _)
          refine step_append_src (by rfl) _ _ _ (by rfl) w2.heap.size 41 i0 _ 3 32 Tryd.underlying22 hi hz0 hz1 hz2 rfl (by omega) (.slice (some ⟨w2.heap.size, 0, none⟩) 0 0) 0 [] (by rfl)
            (World.ownsRow.drew ⟨rfl, .inr ⟨w2.heap.size, 0, #[], rfl, Nat.le_refl _, heap_alloc_new w2 _, Nat.le_refl _, Nat.zero_le _, rfl, rfl⟩⟩) A xs.length c (cvRow xs) (by rfl) (HS.out.1.only ((hO12.alloc _).drew)) (cvRow_one xs) (Nat.le_trans (show 0 + xs.length ≤ 200 by omega) (by decide)) (by omega) (by simp) ?_
          intro v1 wa hown1 hgrow1
          have hk1 : Only [] W0 wa := ((hO12.alloc _).drew).grown hgrow1 (fun k hk => .inr (by simp [Value.ownBlock] at hk; omega))))
      | ((with_reducible show (if Region.wanted (Oper.mk (some 61) _ _ _ _ _) _ = true then _ else _)
          refine step_append_src (by rfl) _ _ _ (by rfl) w2.heap.size 41 i0 _ 3 32 Tryd.underlying22 hi hz0 hz1 hz2 rfl (by omega) v1 (0 + xs.length) _ (by rfl)
            hown1 B ys.length d (cvRow ys) (by rfl) (HS.out.2.only hk1) (cvRow_one ys) (Nat.le_trans (show 0 + xs.length + ys.length ≤ 200 by omega) (by decide)) (by omega) (by have := hgrow1.size; simp at this; omega) ?_
          intro v2 wb hown2 hgrow2
          have hk2 : Only [] W0 wb := hk1.grown hgrow2 (fun k hk => .inr (by have := own_ge hown1 k hk; omega))
          obtain ⟨A5, c5, rfl, hcap5, hC5⟩ := C_own (xs := xs ++ ys) (by simpa [cvRow] using hown2) (by simp; omega)
          simp only [List.length_append] at hC5 hcap5 ⊢))
      | ((go_at_call 9
          refine (HZ.out A5 c5 _ (HE.out.only_nil hk2) hC5 hcap5).mono ?_
          rintro e w3 ⟨rfl, hO3⟩
          have hk3 := hk2.trans_nil hO3)))
  have H1 := more_print hbx hby hix hiy hpa hpb hpz
  have H2 := more_parse s t hs ht
  have b1k := b1.only_nil hk3
  have k10 := b1k.cell 0
  have k11 := b1k.cell 1
  have b0k := b0.only_nil hk3
  have k00 := b0k.cell 0
  simp at k10 k11 k00
  have he3 := HE.out.only_nil hk3
  have hst : s.size + t.size ≤ 9223372036854775807 := by omega
  obtain ⟨sa, hsa⟩ : ∃ x, (⟨pa0.toArray⟩ : ByteArray) = x := ⟨_, rfl⟩
  obtain ⟨sb, hsb⟩ : ∃ x, (⟨pb0.toArray⟩ : ByteArray) = x := ⟨_, rfl⟩
  obtain ⟨sz, hsz⟩ : ∃ x, (⟨pz0.toArray⟩ : ByteArray) = x := ⟨_, rfl⟩
  rw [hsa, hsb, hsz] at H1
  rw [hsa, hsb, hsz]
  clear hsa hsb hsz hpa hpb hpz HZ HP HQ HF HG HS HR hk1 hk2 keepS hC5
  obtain ⟨j0, hj, hj0, hj1, hj2⟩ := info_parts info_ref
  rcases H1 with ⟨q1, rfl, rfl, rfl⟩ | ⟨q1, q2, rfl, rfl, rfl⟩ | ⟨q1, q2, rfl, rfl, q3, q4, rfl⟩
  · have q1' : (pa2 != 0) = true := by simpa using q1
    rcases H2 with ⟨k1, e1, r1, r2, r3⟩ | ⟨m, k1, e1, r0, r1, r2, r3, r4⟩ | ⟨m, m2, zs, r0, r1, r2, r3, r4⟩
    · have HS := Lib.hid (fun W (hW : Env W) => parse_err s k1 e1 r1 W hW)
      have r2' : (e1 != 0) = true := by simpa using r2
      go_wp2_with (first
        | (go_at_call 12; refine (HS.out _ he3).mono ?_; rintro e4 w4 ⟨A4, c4, rfl, hO4⟩; have hk4 := hk3.trans_nil hO4; have hex := HE.out.only_nil hk4)
        | (go_at_call 8; refine (awake_any _ hex).mono ?_; rintro e6 wx ⟨rfl, hOx⟩))
      go_ret
      exact ⟨rfl, (HW.trans_nil hk4).trans_nil hOx⟩
    · have HS := Lib.hid (fun W (hW : Env W) => parse_okT s m r1 (by omega) W hW)
      have HT := Lib.hid (fun W (hW : Env W) => parse_err t k1 e1 r2 W hW)
      have HU := Lib.hid (fun W (hW : Env W) => parse_err (s ++ t) (k1 + m.length) e1 r3 W hW)
      have r4' : (e1 != 0) = true := by simpa using r4.1
      have r5 : wrap64 (k1 + (m.length : Int)) = k1 + m.length := IntWalk.wrap64_in _ (by have := r4.2; omega)
      go_wp2_with (first
        | (go_at_call 12; with_reducible show Calls _ _ #[.string s] _ _; refine (HS.out _ he3).mono ?_; rintro e4 w4 ⟨A4, c4, rfl, hcap4, hC4, hO4⟩; have hk4 := hk3.trans_nil hO4; have he4 := HE.out.only_nil hk4
           have b14 := b1.only_nil hk4; have g10 := b14.cell 0; have g11 := b14.cell 1; simp at g10 g11)
        | (go_at_call 12; with_reducible show Calls _ _ #[.string t] _ _; refine (HT.out _ he4).mono ?_; rintro e5 w5 ⟨A5', c5', rfl, hO5⟩; have hk5 := hk4.trans_nil hO5; have he5 := HE.out.only_nil hk5
           have b15 := b1.only_nil hk5; have j10 := b15.cell 0; have j11 := b15.cell 1; simp at j10 j11)
        | (go_at_call 12; refine (HU.out _ he5).mono ?_; rintro e6 w6 ⟨A6, c6, rfl, hO6⟩; have hk6 := hk5.trans_nil hO6; have hex := HE.out.only_nil hk6)
        | (go_at_call 8; refine (awake_any _ hex).mono ?_; rintro e6 wx ⟨rfl, hOx⟩))
      go_ret
      exact ⟨rfl, (HW.trans_nil hk6).trans_nil hOx⟩
    · have HS := Lib.hid (fun W (hW : Env W) => parse_okT s m r1 (by omega) W hW)
      have HT := Lib.hid (fun W (hW : Env W) => parse_okT t m2 r2 (by omega) W hW)
      have hzl : zs.length ≤ 10000 := by rw [r4]; simp; omega
      have HU := Lib.hid (fun W (hW : Env W) => parse_okT (s ++ t) zs r3 (by omega) W hW)
      have HR4 := Lib.hid r4
      clear r4
      go_wp2_with (first
        | (go_at_call 12; with_reducible show Calls _ _ #[.string s] _ _; refine (HS.out _ he3).mono ?_; rintro e4 w4 ⟨A4, c4, rfl, hcap4, hC4, hO4⟩; have hk4 := hk3.trans_nil hO4; have he4 := HE.out.only_nil hk4
           have b14 := b1.only_nil hk4; have g10 := b14.cell 0; have g11 := b14.cell 1; simp at g10 g11)
        | (go_at_call 12; with_reducible show Calls _ _ #[.string t] _ _; refine (HT.out _ he4).mono ?_; rintro e5 w5 ⟨A5', c5', rfl, hcap5', hC5', hO5⟩; have hk5 := hk4.trans_nil hO5; have he5 := HE.out.only_nil hk5
           have b15 := b1.only_nil hk5; have j10 := b15.cell 0; have j11 := b15.cell 1; simp at j10 j11)
        | (go_at_call 12; refine (HU.out _ he5).mono ?_; rintro e6 w6 ⟨A6, c6, rfl, hcap6, hC6, hO6⟩; have hk6 := hk5.trans_nil hO6; have he6 := HE.out.only_nil hk6; have hC46 := C_only (C_only hC4 hO5) hO6; have hC56 := C_only hC5' hO6)
        | (go_at_call 10; with_reducible show Calls _ _ #[.slice A4 _ _] _ _; refine (plain_any A4 c4 m _ hC46 hcap4 (by omega)).mono ?_; rintro e7 w7 ⟨v7, rfl, hown7, hO7⟩; have hk7 := hk6.trans_nil hO7; have hC67 := C_only hC6 hO7; have hC57 := C_only hC56 hO7)
        | (go_at_call 10; with_reducible show Calls _ _ #[.slice A5' _ _] _ _; refine (plain_any A5' c5' m2 _ hC57 hcap5' (by omega)).mono ?_; rintro e8 w8 ⟨v8, rfl, hown8, hO8⟩; obtain ⟨A8, c8, rfl, hsrc8⟩ := src_of_own hown8; have hk8 := hk7.trans_nil hO8; have hC68 := C_only hC67 hO8; have hown78 := own_only hown7 hO8; have hz78 := hO7.size; have hz88 := hO8.size)
        | (at_builtin
           refine wpList_append_src (by rfl) _ _ _ rfl w6.heap.size 33 j0 _ 3 32 Tryd.underlying28 hj hj0 hj1 hj2 rfl (by omega) v7 m.length _ (by rfl) hown78 A8 m2.length c8 (cvRow m2) (by rfl) hsrc8 (cvRow_one m2) (Nat.le_trans (show m.length + m2.length ≤ 10000 by omega) (by decide)) (by omega) (by omega) ?_
           intro v9 w9 hown9 hgrow9
           have hk9 : Only [] W0 w9 := hk8.grown hgrow9 (fun k hk => .inr (by have := own_ge hown78 k hk; have := hk6.size; omega))
           have hO9 : Only [] w6 w9 := (hO7.trans_nil hO8).grown hgrow9 (fun k hk => .inr (own_ge hown78 k hk))
           obtain ⟨A9, c9, rfl, hcap9, hC9⟩ := C_own (xs := zs) (by rw [HR4.out]; simpa [cvRow] using hown9) (by omega))
        | (go_at_call 13; refine (same_any A6 A9 c6 c9 zs _ (C_only hC6 hO9) hcap6 hC9 hcap9 (by omega)).mono ?_; rintro e10 w10 ⟨rfl, hO10⟩; have hk10 := hk9.trans_nil hO10; have hex := HE.out.only_nil hk10)
        | (go_at_call 8; refine (awake_any _ hex).mono ?_; rintro e6 wx ⟨rfl, hOx⟩))
      go_ret
      exact ⟨rfl, (HW.trans_nil hk10).trans_nil hOx⟩
  · subst q1
    have q2' : (pb2 != 0) = true := by simpa using q2.1
    have q3 : wrap64 (pb1 + (xs.length : Int)) = pb1 + xs.length := IntWalk.wrap64_in _ (by have := q2.2; omega)
    rcases H2 with ⟨k1, e1, r1, r2, r3⟩ | ⟨m, k1, e1, r0, r1, r2, r3, r4⟩ | ⟨m, m2, zs, r0, r1, r2, r3, r4⟩
    · have HS := Lib.hid (fun W (hW : Env W) => parse_err s k1 e1 r1 W hW)
      have r2' : (e1 != 0) = true := by simpa using r2
      go_wp2_with (first
        | (go_at_call 12; refine (HS.out _ he3).mono ?_; rintro e4 w4 ⟨A4, c4, rfl, hO4⟩; have hk4 := hk3.trans_nil hO4; have hex := HE.out.only_nil hk4)
        | (go_at_call 8; refine (awake_any _ hex).mono ?_; rintro e6 wx ⟨rfl, hOx⟩))
      go_ret
      exact ⟨rfl, (HW.trans_nil hk4).trans_nil hOx⟩
    · have HS := Lib.hid (fun W (hW : Env W) => parse_okT s m r1 (by omega) W hW)
      have HT := Lib.hid (fun W (hW : Env W) => parse_err t k1 e1 r2 W hW)
      have HU := Lib.hid (fun W (hW : Env W) => parse_err (s ++ t) (k1 + m.length) e1 r3 W hW)
      have r4' : (e1 != 0) = true := by simpa using r4.1
      have r5 : wrap64 (k1 + (m.length : Int)) = k1 + m.length := IntWalk.wrap64_in _ (by have := r4.2; omega)
      go_wp2_with (first
        | (go_at_call 12; with_reducible show Calls _ _ #[.string s] _ _; refine (HS.out _ he3).mono ?_; rintro e4 w4 ⟨A4, c4, rfl, hcap4, hC4, hO4⟩; have hk4 := hk3.trans_nil hO4; have he4 := HE.out.only_nil hk4
           have b14 := b1.only_nil hk4; have g10 := b14.cell 0; have g11 := b14.cell 1; simp at g10 g11)
        | (go_at_call 12; with_reducible show Calls _ _ #[.string t] _ _; refine (HT.out _ he4).mono ?_; rintro e5 w5 ⟨A5', c5', rfl, hO5⟩; have hk5 := hk4.trans_nil hO5; have he5 := HE.out.only_nil hk5
           have b15 := b1.only_nil hk5; have j10 := b15.cell 0; have j11 := b15.cell 1; simp at j10 j11)
        | (go_at_call 12; refine (HU.out _ he5).mono ?_; rintro e6 w6 ⟨A6, c6, rfl, hO6⟩; have hk6 := hk5.trans_nil hO6; have hex := HE.out.only_nil hk6)
        | (go_at_call 8; refine (awake_any _ hex).mono ?_; rintro e6 wx ⟨rfl, hOx⟩))
      go_ret
      exact ⟨rfl, (HW.trans_nil hk6).trans_nil hOx⟩
    · have HS := Lib.hid (fun W (hW : Env W) => parse_okT s m r1 (by omega) W hW)
      have HT := Lib.hid (fun W (hW : Env W) => parse_okT t m2 r2 (by omega) W hW)
      have hzl : zs.length ≤ 10000 := by rw [r4]; simp; omega
      have HU := Lib.hid (fun W (hW : Env W) => parse_okT (s ++ t) zs r3 (by omega) W hW)
      have HR4 := Lib.hid r4
      clear r4
      go_wp2_with (first
        | (go_at_call 12; with_reducible show Calls _ _ #[.string s] _ _; refine (HS.out _ he3).mono ?_; rintro e4 w4 ⟨A4, c4, rfl, hcap4, hC4, hO4⟩; have hk4 := hk3.trans_nil hO4; have he4 := HE.out.only_nil hk4
           have b14 := b1.only_nil hk4; have g10 := b14.cell 0; have g11 := b14.cell 1; simp at g10 g11)
        | (go_at_call 12; with_reducible show Calls _ _ #[.string t] _ _; refine (HT.out _ he4).mono ?_; rintro e5 w5 ⟨A5', c5', rfl, hcap5', hC5', hO5⟩; have hk5 := hk4.trans_nil hO5; have he5 := HE.out.only_nil hk5
           have b15 := b1.only_nil hk5; have j10 := b15.cell 0; have j11 := b15.cell 1; simp at j10 j11)
        | (go_at_call 12; refine (HU.out _ he5).mono ?_; rintro e6 w6 ⟨A6, c6, rfl, hcap6, hC6, hO6⟩; have hk6 := hk5.trans_nil hO6; have he6 := HE.out.only_nil hk6; have hC46 := C_only (C_only hC4 hO5) hO6; have hC56 := C_only hC5' hO6)
        | (go_at_call 10; with_reducible show Calls _ _ #[.slice A4 _ _] _ _; refine (plain_any A4 c4 m _ hC46 hcap4 (by omega)).mono ?_; rintro e7 w7 ⟨v7, rfl, hown7, hO7⟩; have hk7 := hk6.trans_nil hO7; have hC67 := C_only hC6 hO7; have hC57 := C_only hC56 hO7)
        | (go_at_call 10; with_reducible show Calls _ _ #[.slice A5' _ _] _ _; refine (plain_any A5' c5' m2 _ hC57 hcap5' (by omega)).mono ?_; rintro e8 w8 ⟨v8, rfl, hown8, hO8⟩; obtain ⟨A8, c8, rfl, hsrc8⟩ := src_of_own hown8; have hk8 := hk7.trans_nil hO8; have hC68 := C_only hC67 hO8; have hown78 := own_only hown7 hO8; have hz78 := hO7.size; have hz88 := hO8.size)
        | (at_builtin
           refine wpList_append_src (by rfl) _ _ _ rfl w6.heap.size 33 j0 _ 3 32 Tryd.underlying28 hj hj0 hj1 hj2 rfl (by omega) v7 m.length _ (by rfl) hown78 A8 m2.length c8 (cvRow m2) (by rfl) hsrc8 (cvRow_one m2) (Nat.le_trans (show m.length + m2.length ≤ 10000 by omega) (by decide)) (by omega) (by omega) ?_
           intro v9 w9 hown9 hgrow9
           have hk9 : Only [] W0 w9 := hk8.grown hgrow9 (fun k hk => .inr (by have := own_ge hown78 k hk; have := hk6.size; omega))
           have hO9 : Only [] w6 w9 := (hO7.trans_nil hO8).grown hgrow9 (fun k hk => .inr (own_ge hown78 k hk))
           obtain ⟨A9, c9, rfl, hcap9, hC9⟩ := C_own (xs := zs) (by rw [HR4.out]; simpa [cvRow] using hown9) (by omega))
        | (go_at_call 13; refine (same_any A6 A9 c6 c9 zs _ (C_only hC6 hO9) hcap6 hC9 hcap9 (by omega)).mono ?_; rintro e10 w10 ⟨rfl, hO10⟩; have hk10 := hk9.trans_nil hO10; have hex := HE.out.only_nil hk10)
        | (go_at_call 8; refine (awake_any _ hex).mono ?_; rintro e6 wx ⟨rfl, hOx⟩))
      go_ret
      exact ⟨rfl, (HW.trans_nil hk10).trans_nil hOx⟩
  · subst q1 q2
    have q5 : sa.size + sb.size ≤ 9223372036854775807 := by omega
    rcases H2 with ⟨k1, e1, r1, r2, r3⟩ | ⟨m, k1, e1, r0, r1, r2, r3, r4⟩ | ⟨m, m2, zs, r0, r1, r2, r3, r4⟩
    · have HS := Lib.hid (fun W (hW : Env W) => parse_err s k1 e1 r1 W hW)
      have r2' : (e1 != 0) = true := by simpa using r2
      go_wp2_with (first
        | (go_at_call 12; refine (HS.out _ he3).mono ?_; rintro e4 w4 ⟨A4, c4, rfl, hO4⟩; have hk4 := hk3.trans_nil hO4; have hex := HE.out.only_nil hk4)
        | (go_at_call 8; refine (awake_any _ hex).mono ?_; rintro e6 wx ⟨rfl, hOx⟩))
      go_ret
      exact ⟨rfl, (HW.trans_nil hk4).trans_nil hOx⟩
    · have HS := Lib.hid (fun W (hW : Env W) => parse_okT s m r1 (by omega) W hW)
      have HT := Lib.hid (fun W (hW : Env W) => parse_err t k1 e1 r2 W hW)
      have HU := Lib.hid (fun W (hW : Env W) => parse_err (s ++ t) (k1 + m.length) e1 r3 W hW)
      have r4' : (e1 != 0) = true := by simpa using r4.1
      have r5 : wrap64 (k1 + (m.length : Int)) = k1 + m.length := IntWalk.wrap64_in _ (by have := r4.2; omega)
      go_wp2_with (first
        | (go_at_call 12; with_reducible show Calls _ _ #[.string s] _ _; refine (HS.out _ he3).mono ?_; rintro e4 w4 ⟨A4, c4, rfl, hcap4, hC4, hO4⟩; have hk4 := hk3.trans_nil hO4; have he4 := HE.out.only_nil hk4
           have b14 := b1.only_nil hk4; have g10 := b14.cell 0; have g11 := b14.cell 1; simp at g10 g11)
        | (go_at_call 12; with_reducible show Calls _ _ #[.string t] _ _; refine (HT.out _ he4).mono ?_; rintro e5 w5 ⟨A5', c5', rfl, hO5⟩; have hk5 := hk4.trans_nil hO5; have he5 := HE.out.only_nil hk5
           have b15 := b1.only_nil hk5; have j10 := b15.cell 0; have j11 := b15.cell 1; simp at j10 j11)
        | (go_at_call 12; refine (HU.out _ he5).mono ?_; rintro e6 w6 ⟨A6, c6, rfl, hO6⟩; have hk6 := hk5.trans_nil hO6; have hex := HE.out.only_nil hk6)
        | (go_at_call 8; refine (awake_any _ hex).mono ?_; rintro e6 wx ⟨rfl, hOx⟩))
      go_ret
      exact ⟨rfl, (HW.trans_nil hk6).trans_nil hOx⟩
    · have HS := Lib.hid (fun W (hW : Env W) => parse_okT s m r1 (by omega) W hW)
      have HT := Lib.hid (fun W (hW : Env W) => parse_okT t m2 r2 (by omega) W hW)
      have hzl : zs.length ≤ 10000 := by rw [r4]; simp; omega
      have HU := Lib.hid (fun W (hW : Env W) => parse_okT (s ++ t) zs r3 (by omega) W hW)
      have HR4 := Lib.hid r4
      clear r4
      go_wp2_with (first
        | (go_at_call 12; with_reducible show Calls _ _ #[.string s] _ _; refine (HS.out _ he3).mono ?_; rintro e4 w4 ⟨A4, c4, rfl, hcap4, hC4, hO4⟩; have hk4 := hk3.trans_nil hO4; have he4 := HE.out.only_nil hk4
           have b14 := b1.only_nil hk4; have g10 := b14.cell 0; have g11 := b14.cell 1; simp at g10 g11)
        | (go_at_call 12; with_reducible show Calls _ _ #[.string t] _ _; refine (HT.out _ he4).mono ?_; rintro e5 w5 ⟨A5', c5', rfl, hcap5', hC5', hO5⟩; have hk5 := hk4.trans_nil hO5; have he5 := HE.out.only_nil hk5
           have b15 := b1.only_nil hk5; have j10 := b15.cell 0; have j11 := b15.cell 1; simp at j10 j11)
        | (go_at_call 12; refine (HU.out _ he5).mono ?_; rintro e6 w6 ⟨A6, c6, rfl, hcap6, hC6, hO6⟩; have hk6 := hk5.trans_nil hO6; have he6 := HE.out.only_nil hk6; have hC46 := C_only (C_only hC4 hO5) hO6; have hC56 := C_only hC5' hO6)
        | (go_at_call 10; with_reducible show Calls _ _ #[.slice A4 _ _] _ _; refine (plain_any A4 c4 m _ hC46 hcap4 (by omega)).mono ?_; rintro e7 w7 ⟨v7, rfl, hown7, hO7⟩; have hk7 := hk6.trans_nil hO7; have hC67 := C_only hC6 hO7; have hC57 := C_only hC56 hO7)
        | (go_at_call 10; with_reducible show Calls _ _ #[.slice A5' _ _] _ _; refine (plain_any A5' c5' m2 _ hC57 hcap5' (by omega)).mono ?_; rintro e8 w8 ⟨v8, rfl, hown8, hO8⟩; obtain ⟨A8, c8, rfl, hsrc8⟩ := src_of_own hown8; have hk8 := hk7.trans_nil hO8; have hC68 := C_only hC67 hO8; have hown78 := own_only hown7 hO8; have hz78 := hO7.size; have hz88 := hO8.size)
        | (at_builtin
           refine wpList_append_src (by rfl) _ _ _ rfl w6.heap.size 33 j0 _ 3 32 Tryd.underlying28 hj hj0 hj1 hj2 rfl (by omega) v7 m.length _ (by rfl) hown78 A8 m2.length c8 (cvRow m2) (by rfl) hsrc8 (cvRow_one m2) (Nat.le_trans (show m.length + m2.length ≤ 10000 by omega) (by decide)) (by omega) (by omega) ?_
           intro v9 w9 hown9 hgrow9
           have hk9 : Only [] W0 w9 := hk8.grown hgrow9 (fun k hk => .inr (by have := own_ge hown78 k hk; have := hk6.size; omega))
           have hO9 : Only [] w6 w9 := (hO7.trans_nil hO8).grown hgrow9 (fun k hk => .inr (own_ge hown78 k hk))
           obtain ⟨A9, c9, rfl, hcap9, hC9⟩ := C_own (xs := zs) (by rw [HR4.out]; simpa [cvRow] using hown9) (by omega))
        | (go_at_call 13; refine (same_any A6 A9 c6 c9 zs _ (C_only hC6 hO9) hcap6 hC9 hcap9 (by omega)).mono ?_; rintro e10 w10 ⟨rfl, hO10⟩; have hk10 := hk9.trans_nil hO10; have hex := HE.out.only_nil hk10)
        | (go_at_call 8; refine (awake_any _ hex).mono ?_; rintro e6 wx ⟨rfl, hOx⟩))
      go_ret
      exact ⟨rfl, (HW.trans_nil hk10).trans_nil hOx⟩
theorem more_any (A B : Option Addr) (c d : Nat) (xs ys : List CV) (s t : ByteArray) (w : World) (hr : Kd.C kCV w A xs.length xs) (hc : xs.length ≤ c) (hr2 : Kd.C kCV w B ys.length ys) (hd : ys.length ≤ d) (he : Env w)
    (hA : A = none → c = 0) (hB : B = none → d = 0) (hix : Ints xs) (hiy : Ints ys) :
    Calls Tryd.prog 5 #[.agg #[.slice A xs.length c, .slice B ys.length d], .agg #[.string s, .string t]] w fun e w' => e = .returned (.bool true) ∧ Only [] w w' := by
  by_cases h : fewB xs = false ∨ fewB ys = false ∨ 2000 < s.size ∨ 2000 < t.size
  · exact more_far A B c d xs ys s t w hr hc hr2 hd he h
  · have h1 : fewB xs = true := by
      cases hb : fewB xs with
      | true => rfl
      | false => exact absurd (.inl hb) h
    have h2 : fewB ys = true := by
      cases hb : fewB ys with
      | true => rfl
      | false => exact absurd (.inr (.inl hb)) h
    exact more_near A B c d xs ys s t w hr hc hr2 hd he hA hB h1 h2 hix hiy (by omega) (by omega)
end Go.Proofs.YtmebolbjidjajaaDoor
