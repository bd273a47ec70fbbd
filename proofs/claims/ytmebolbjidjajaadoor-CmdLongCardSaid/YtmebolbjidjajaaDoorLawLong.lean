/-
  The law CmdLong.
-/
import Derived.Test.YtmebolbjidjajaaDoorLawMore
import Derived.Laws.IdiomStrings
set_option linter.unusedSimpArgs false
set_option maxRecDepth 100000
namespace Go.Proofs.YtmebolbjidjajaaDoor
open Go.RowKit Go.Proofs.YtmebolbjidjajaaDoorW.PrintWords
def lenCV : CV := ⟨⟨#[108, 101, 110]⟩, 0, 0⟩
def lenB : List UInt8 := [108, 101, 110, 10]
def u8s (l : List UInt8) : List Value := l.map fun b => .int .u8 (b.toNat : Int)
theorem len_L : lenCV.L = lenB := by
  have h : nums lenCV.f0.data.toList = some 0 := by decide
  unfold CV.L lineL
  rw [h]
  rfl
theorem len_right : Right lenCV := ⟨E_of (n := 0) (by decide) (fun _ => rfl) (fun _ => rfl), ⟨by decide, by decide⟩, ⟨by decide, by decide⟩⟩
def lens (k : Nat) : List CV := List.replicate k lenCV
def lenT (k : Nat) : List UInt8 := textOf (lens k)
theorem lens_succ (k : Nat) : lens (k + 1) = lens k ++ [lenCV] := List.replicate_succ'
theorem lenT_succ (k : Nat) : lenT (k + 1) = lenT k ++ lenB := by
  unfold lenT
  rw [lens_succ, textOf_app]
  simp [textOf, len_L]
theorem lenT_len : ∀ k, (lenT k).length = k * 4
  | 0 => rfl
  | k + 1 => by rw [lenT_succ, List.length_append, lenT_len k]; simp [lenB]; omega
theorem u8s_app (a b : List UInt8) : u8s (a ++ b) = u8s a ++ u8s b := by simp [u8s]
theorem own_keep {w w' : World} {base n sz : Nat} {e : TypeId} {v : Value} {xs : List Value} {S : List Nat} (h : w.ownsRow base e sz v n xs) (hO : Only S w w') (hS : ∀ k, v.ownBlock = some k → k ∉ S) : w'.ownsRow base e sz v n xs := by
  obtain ⟨hl, h | ⟨g, cap, cur, hv, hb, hg, hr⟩⟩ := h
  · exact ⟨hl, .inl h⟩
  · have hg' : Blk w g e cur := hg
    exact ⟨hl, .inr ⟨g, cap, cur, hv, hb, hg'.only hO (hS g (by rw [hv]; rfl)), hr⟩⟩
theorem own_apart {w : World} {b1 n1 s1 b2 n2 s2 : Nat} {e1 e2 : TypeId} {v1 v2 : Value} {x1 x2 : List Value} (h1 : w.ownsRow b1 e1 s1 v1 n1 x1) (h2 : w.ownsRow b2 e2 s2 v2 n2 x2) (hne : e1 ≠ e2) : ∀ k, v1.ownBlock = some k → k ∉ v2.ownBlock.toList := by
  intro k hk hm
  obtain ⟨_, ⟨hv, _⟩ | ⟨g, _, cur, hv, _, hg, _⟩⟩ := h1
  · rw [hv] at hk; simp [Value.ownBlock] at hk
  · obtain ⟨_, ⟨hv2, _⟩ | ⟨g2, _, cur2, hv2, _, hg2, _⟩⟩ := h2
    · rw [hv2] at hm; simp [Value.ownBlock] at hm
    · rw [hv] at hk
      rw [hv2] at hm
      simp [Value.ownBlock] at hk hm
      subst hk
      subst hm
      have := hg.symm.trans hg2
      simp at this
      exact hne this.2
theorem own_new (w : World) (e : TypeId) (sz n : Nat) (cells : List Value) (hn : cells.length = n * sz) (hm : n ≤ maxLen) : (w.alloc (.cells cells.toArray e)).ownsRow w.heap.size e sz (.slice (some ⟨w.heap.size, 0, none⟩) n n) n cells :=
  ⟨hn, .inr ⟨w.heap.size, n, cells.toArray, rfl, Nat.le_refl _, heap_alloc_new w _, Nat.le_refl _, hm, by simpa using hn, by rw [← hn]; simp⟩⟩
theorem info_u8 : (Tryd.prog.info? 5).map (fun i => (i.zero, i.size, i.bytes)) = some (some (.int .u8 0), 1, 1) := by kernel_rfl
set_option maxHeartbeats 4000000 in
theorem long_near (k : Nat) (x : CV) (w : World) (he : Env w) (hk1 : 16380 ≤ k) (hk2 : k ≤ 16390) (hx : Fine x) (hx1 : x.f0.size ≤ 100) :
    Calls Tryd.prog 6 #[.int .i64 k, .agg #[.string x.f0, .int .i64 x.f1, .int .i64 x.f2]] w fun e w' => e = .returned (.bool true) ∧ Only [] w w' := by
  obtain ⟨x0, x1, x2⟩ := x
  dsimp only at hx1 ⊢
  obtain ⟨i0, hi, hz0, hz1, hz2⟩ := info_parts info_cmd
  obtain ⟨j0, hj, hj0, hj1, hj2⟩ := info_parts info_u8
  have q1 : ¬ (k : Int) < 16380 := by omega
  have q2 : ¬ (16390 : Int) < k := by omega
  have q3 : ¬ (100 : Int) < x0.size := by omega
  go_enter Tryd.func6, Tryd.ntmps6
  go_wp2_with fail
  go_loopw [5, 6, 7] (fun v5 v6 i wr => ∃ j : Nat, j ≤ k ∧ i = .int .i64 j ∧ wr.ownsRow (w.heap.size + 1) 41 3 v5 j (cvRow (lens j)) ∧ wr.ownsRow (w.heap.size + 1) 5 1 v6 (j * 4) (u8s (lenT j)) ∧ Blk wr w.heap.size 41 #[.string x0, .int .i64 x1, .int .i64 x2] ∧ Only [] w wr) (fun _ _ i _ => k - (intOf i).toNat)
  case atStart =>
    refine ⟨0, by omega, rfl, ?_, ?_, ((Blk.new w _ _).alloc _).alloc _, (((Only.refl [] w).alloc _).alloc _).alloc _⟩
    · have h := own_new (w.alloc (.cells #[.string x0, .int .i64 x1, .int .i64 x2] 41)) 41 3 0 [] rfl (by decide)
      rw [World.size_alloc] at h
      exact h.alloc _
    · have h := own_new ((w.alloc (.cells #[.string x0, .int .i64 x1, .int .i64 x2] 41)).alloc (.cells #[] 41)) 5 1 0 [] rfl (by decide)
      rw [World.size_alloc, World.size_alloc] at h
      exact ownsRow_base h (by omega)
  case round =>
    obtain ⟨j, hj', rfl, h5, h6, hb, hO⟩ := hrel
    have hsz := hO.size
    have hbl := hb.lt
    by_cases hlt : j < k
    · have hlt' : (j : Int) < k := by omega
      have hmx : j + 1 ≤ maxLen := Nat.le_trans (show j + 1 ≤ 20000 by omega) (by decide)
      have hmx2 : j * 4 + 4 ≤ maxLen := Nat.le_trans (show j * 4 + 4 ≤ 80000 by omega) (by decide)
      go_wp2_with (first
        | (at_builtin; with_reducible show wpList _ _ _ (Oper.mk (some 44) _ _ _ _ _ :: _) _ _
           refine wpList_append_src (by rfl) _ _ _ rfl (w.heap.size + 1) 41 i0 _ 3 32 Tryd.underlying22 hi hz0 hz1 hz2 rfl (by omega) u5 j _ (by rfl) (h5.alloc _) (some ⟨wr.heap.size, 0, none⟩) 1 1 (cvCells lenCV) (by rfl) ⟨rfl, (fun e => by cases e), (fun ad e => by cases e; exact cells_new _ _ rfl)⟩ (by simp [cvCells, lenCV, Value.oneCell']) hmx (by omega) (by simp; omega) ?_
           intro v1 wa hown1 hgrow1
           have hOa : Only u5.ownBlock.toList wr wa := ((Only.refl _ wr).alloc _).grown hgrow1 (fun k hk => .inl (by rw [hk]; simp))
           have h6a := own_keep h6 hOa (own_apart h6 h5 (by decide))
           have hba := hb.only hOa (fun hm => by have := own_ge h5 _ (by simpa using hm); omega)
           obtain ⟨A1, c1, rfl⟩ := ownsRow_slice hown1
           have hza := hOa.size)
        | (at_builtin; with_reducible show wpList _ _ _ (Oper.mk (some 47) _ _ _ _ _ :: _) _ _
           refine wpList_append_src (by rfl) _ _ _ rfl (w.heap.size + 1) 5 j0 _ 1 1 Tryd.underlying42 hj hj0 hj1 hj2 rfl (by omega) u6 (j * 4) _ (by rfl) (h6a.alloc _) (some ⟨wa.heap.size, 0, none⟩) 4 4 (u8s lenB) (by rfl) ⟨rfl, (fun e => by cases e), (fun ad e => by cases e; exact cells_new _ _ rfl)⟩ (by simp [u8s, lenB, Value.oneCell']) hmx2 (by omega) (by simp; omega) ?_
           intro v2 wb hown2 hgrow2
           have hOb : Only u6.ownBlock.toList wa wb := ((Only.refl _ wa).alloc _).grown hgrow2 (fun k hk => .inl (by rw [hk]; simp))
           have h5b := own_keep hown1 hOb (own_apart hown1 h6a (by decide))
           have hbb := hba.only hOb (fun hm => by have := own_ge h6 _ (by simpa using hm); omega)
           obtain ⟨A2, c2, rfl⟩ := ownsRow_slice hown2))
      refine ⟨⟨j + 1, by omega, by simp, ?_, ?_, hbb, ?_⟩, by simp [intOf]; omega⟩
      · rw [lens_succ, cvRow_snoc]; exact h5b
      · rw [lenT_succ, u8s_app, Nat.add_one_mul]; exact hown2
      · have k1 := hO.trans hOa (fun k hk => .inr (by have := own_ge h5 k (by simpa using hk); omega))
        exact k1.trans hOb (fun k hk => .inr (by have := own_ge h6 k (by simpa using hk); omega))
    · obtain rfl : j = k := by omega
      have hnk : ¬ (j : Int) < j := by omega
      have heW := he.only_nil hO
      have d0 := hb.cell 0
      have d1 := hb.cell 1
      have d2 := hb.cell 2
      simp at d0 d1 d2
      have hx3 : Fine (⟨x0, x1, x2⟩ : CV) := hx
      have hLl : (CV.L ⟨x0, x1, x2⟩).length ≤ 143 := L_len100 ⟨x0, x1, x2⟩ hx hx1
      have hfz : ∀ y ∈ lens j ++ [(⟨x0, x1, x2⟩ : CV)], Fine y := fun y hy => by
        rcases List.mem_append.1 hy with hy | hy
        · rw [List.eq_of_mem_replicate hy]
          exact ⟨by decide, by decide, by decide, by decide, by decide⟩
        · rw [List.mem_singleton.1 hy]; exact hx3
      have hzl : (lens j ++ [(⟨x0, x1, x2⟩ : CV)]).length = j + 1 := by simp [lens]
      have HP1 := Lib.hid (fun A c W (hW : Env W) (hrW : Kd.C kCV W A 1 [(⟨x0, x1, x2⟩ : CV)]) (hcW : 1 ≤ c) => print_any A c [(⟨x0, x1, x2⟩ : CV)] W hrW hcW hW (fun y hy => by rw [List.mem_singleton.1 hy]; exact hx3) (by simp))
      have HP2 := Lib.hid (fun A c W (hW : Env W) (hrW : Kd.C kCV W A (lens j ++ [(⟨x0, x1, x2⟩ : CV)]).length (lens j ++ [(⟨x0, x1, x2⟩ : CV)])) (hcW : (lens j ++ [(⟨x0, x1, x2⟩ : CV)]).length ≤ c) => print_any A c (lens j ++ [(⟨x0, x1, x2⟩ : CV)]) W hrW hcW hW hfz (by omega))
      rw [hzl] at HP2
      have hn1 := own_new wr 41 3 1 (cvCells ⟨x0, x1, x2⟩) rfl (by decide)
      have hC1 : Kd.C kCV (wr.alloc (.cells #[.string x0, .int .i64 x1, .int .i64 x2] 41)) (some ⟨wr.heap.size, 0, none⟩) 1 [(⟨x0, x1, x2⟩ : CV)] := by
        obtain ⟨A, c, e, _, hC⟩ := C_own (xs := [(⟨x0, x1, x2⟩ : CV)]) (by simpa [cvRow, cvCells] using hn1) (by simp)
        simp only [Value.slice.injEq] at e
        rw [e.1]; exact hC
      have hb2 := hb.alloc (.cells #[.string x0, .int .i64 x1, .int .i64 x2] 41)
      have hmx : j + 1 ≤ maxLen := Nat.le_trans (show j + 1 ≤ 20000 by omega) (by decide)
      by_cases hE : CV.E ⟨x0, x1, x2⟩ = 0
      · have hright : Right (⟨x0, x1, x2⟩ : CV) := ⟨hE, ⟨hx3.2.1, hx3.2.2.1⟩, ⟨hx3.2.2.2.1, hx3.2.2.2.2⟩⟩
        have hall : ∀ y ∈ lens j ++ [(⟨x0, x1, x2⟩ : CV)], Right y := fun y hy => by
          rcases List.mem_append.1 hy with hy | hy
          · rw [List.eq_of_mem_replicate hy]; exact len_right
          · rw [List.mem_singleton.1 hy]; exact hright
        have htx : textOf (lens j ++ [(⟨x0, x1, x2⟩ : CV)]) = lenT j ++ CV.L ⟨x0, x1, x2⟩ := by rw [textOf_app]; simp [textOf, lenT]
        have hp1 : printGo 0 [] [(⟨x0, x1, x2⟩ : CV)] = (CV.L ⟨x0, x1, x2⟩, 0, 0) := by
          rw [printGo, if_pos hE, printGo, List.nil_append, if_neg (by omega)]
        have hp2 : printGo 0 [] (lens j ++ [(⟨x0, x1, x2⟩ : CV)]) = if 65536 < (lenT j ++ CV.L ⟨x0, x1, x2⟩).length then ([], 0, 12) else (lenT j ++ CV.L ⟨x0, x1, x2⟩, 0, 0) := by
          rw [print_ok _ 0 [] (fun y hy => (hall y hy).1), List.nil_append, htx]
        have hpt := text_back _ hall
        rw [htx] at hpt
        rw [hp1] at HP1
        rw [hp2] at HP2
        have hLn : (lenT j).length = j * 4 := lenT_len j
        obtain ⟨g6, cap6, rfl, hg6, hg6l, _, hc6⟩ := ownsRow_cells h6 (by omega)
        have hcat : mkS (lenT j) ++ mkS (CV.L ⟨x0, x1, x2⟩) = mkS (lenT j ++ CV.L ⟨x0, x1, x2⟩) := mkS_app _ _
        generalize CV.L ⟨x0, x1, x2⟩ = Lx at *
        have hz1' : (mkS (lenT j)).size = j * 4 := hLn
        have hz2' : (mkS Lx).size ≤ 143 := hLl
        have hzz : (mkS (lenT j ++ Lx)).size = (lenT j ++ Lx).length := rfl
        have HCAT := Lib.hid hcat
        have hc6' : ∀ i (hi : i < (lenT j).length), wr.cell? ((⟨g6, 0, none⟩ : Addr).add i) = some (.int .u8 ((lenT j)[i].toNat : Int)) := fun i hi => by
          rw [show (⟨g6, 0, none⟩ : Addr).add i = ⟨g6, i, none⟩ by cases i <;> simp [Addr.add]]
          exact hc6 i _ (by simp [u8s, hi])
        have hconv : ∀ W, Only [] wr W → (convert 42 9 (.slice (some ⟨g6, 0, none⟩) (j * 4) cap6)).run Tryd.prog W = .ok (.string (mkS (lenT j))) W := fun W hW => by
          have := run_convert_bytes_back (P := Tryd.prog) W 42 9 5 ⟨g6, 0, none⟩ cap6 (lenT j) Tryd.underlying42 Tryd.underlying5 Tryd.underlying9
            (fun i hi => (hW.cell (by cases i <;> simpa [Addr.add] using hg6l) (by simp)).trans (hc6' i hi))
          rw [hLn] at this
          exact this
        have HCV := Lib.hid hconv
        have hpT : parseT (mkS (lenT j ++ Lx)) = if 65536 < (lenT j ++ Lx).length then ([], 0, 12) else (lens j ++ [(⟨x0, x1, x2⟩ : CV)], 0, 0) := by
          unfold parseT
          rw [hzz]
          by_cases hb65 : 65536 < (lenT j ++ Lx).length
          · rw [if_pos hb65, if_pos hb65]
          · rw [if_neg hb65, if_neg hb65]; exact hpt
        have hsum : (mkS (lenT j)).size + (mkS Lx).size ≤ 9223372036854775807 := by omega
        obtain ⟨big, hbig⟩ : ∃ b : ByteArray, mkS (lenT j ++ Lx) = b := ⟨_, rfl⟩
        rw [hbig] at HCAT hpT hzz
        obtain ⟨s1, hs1⟩ : ∃ b : ByteArray, mkS (lenT j) = b := ⟨_, rfl⟩
        obtain ⟨s2, hs2⟩ : ∃ b : ByteArray, mkS Lx = b := ⟨_, rfl⟩
        have hs2' : (⟨Lx.toArray⟩ : ByteArray) = s2 := hs2
        rw [hs1] at HCAT HCV hsum hz1'
        rw [hs2] at HCAT hsum hz2'
        simp only [hs2'] at HP1
        clear hconv hcat hp1 hp2 hpt htx hall hE hright hc6 hc6' hs1 hs2 hs2' hLl
        by_cases h65 : 65536 < (lenT j ++ Lx).length
        · rw [if_pos h65] at HP2 hpT
          have h65' : (65536 : Int) < (big.size : Int) := by rw [hzz]; omega
          have HPA := Lib.hid (fun W (hW : Env W) => parse_err big 0 12 hpT W hW)
          have hbg := HCAT.out
          subst hbg
          have h66 : (65536 : Int) < (s1.size : Int) + s2.size := by rw [ByteArray.size_append] at h65'; omega
          clear hbig hzz h65 HCAT
          go_wp2_with (first
            | (go_at_call 9; with_reducible show Calls _ _ #[.slice _ 1 _] _ _
               refine (HP1.out _ _ _ (heW.alloc _) hC1 (Nat.le_refl _)).mono ?_
               rintro e w1 ⟨rfl, hO1⟩
               have hcv := HCV.out w1 (((Only.refl [] wr).alloc _).trans_nil hO1)
               have hO2 := (hO.alloc (.cells #[.string x0, .int .i64 x1, .int .i64 x2] 41)).trans_nil hO1
               have hb3 := hb2.only_nil hO1
               have c0 := hb3.cell 0; have c1 := hb3.cell 1; have c2 := hb3.cell 2
               simp at c0 c1 c2
               have h51 := own_only (h5.alloc (.cells #[.string x0, .int .i64 x1, .int .i64 x2] 41)) hO1
               have he1 := he.only_nil hO2
               have hzw := hO2.size)
            | (at_builtin
               refine wpList_append_src (by rfl) _ _ _ rfl (w.heap.size + 1) 41 i0 _ 3 32 Tryd.underlying22 hi hz0 hz1 hz2 rfl (by omega) u5 j _ (by rfl) (h51.alloc _) (some ⟨w1.heap.size, 0, none⟩) 1 1 (cvCells ⟨x0, x1, x2⟩) (by rfl) ⟨rfl, (fun e => by cases e), (fun ad e => by cases e; exact cells_new _ _ rfl)⟩ (by simp [cvCells, Value.oneCell']) hmx (by omega) (by simp; omega) ?_
               intro v2 w2 hown2 hgrow2
               have hO3 : Only [] w w2 := (hO2.alloc _).grown hgrow2 (fun k hk => .inr (by have := own_ge h5 k hk; omega))
               have he2 := he.only_nil hO3
               obtain ⟨A2, c2', rfl, hcap2, hC2⟩ := C_own (xs := lens j ++ [(⟨x0, x1, x2⟩ : CV)]) (by rw [hzl, cvRow_snoc]; exact hown2) (by omega)
               rw [hzl] at hC2 hcap2 ⊢)
            | (go_at_call 9
               refine (HP2.out _ _ _ he2 hC2 hcap2).mono ?_
               rintro e w3 ⟨rfl, hO4⟩
               have hO5 := hO3.trans_nil hO4
               have he3 := he.only_nil hO5)
            | (go_at_call 12
               refine (HPA.out _ he3).mono ?_
               rintro e w4 ⟨A4, c4, rfl, hO6⟩
               have hO7 := hO5.trans_nil hO6
               have he4 := he.only_nil hO7)
            | (go_at_call 8; refine (awake_any _ he4).mono ?_; rintro e6 wx ⟨rfl, hOx⟩))
          go_ret
          exact ⟨rfl, hO7.trans_nil hOx⟩
        · rw [if_neg h65] at HP2 hpT
          have h65' : ¬ (65536 : Int) < (big.size : Int) := by rw [hzz]; omega
          have HPA := Lib.hid (fun W (hW : Env W) => parse_okT big _ hpT (by omega) W hW)
          have hbig' : (⟨(lenT j ++ Lx).toArray⟩ : ByteArray) = big := hbig
          rw [hzl] at HPA
          simp only [hbig'] at HP2
          have hbg := HCAT.out
          subst hbg
          have h66 : ¬ (65536 : Int) < (s1.size : Int) + s2.size := by rw [ByteArray.size_append] at h65'; omega
          clear hbig hbig' hzz h65 HCAT
          go_wp2_with (first
            | (go_at_call 9; with_reducible show Calls _ _ #[.slice _ 1 _] _ _
               refine (HP1.out _ _ _ (heW.alloc _) hC1 (Nat.le_refl _)).mono ?_
               rintro e w1 ⟨rfl, hO1⟩
               have hcv := HCV.out w1 (((Only.refl [] wr).alloc _).trans_nil hO1)
               have hO2 := (hO.alloc (.cells #[.string x0, .int .i64 x1, .int .i64 x2] 41)).trans_nil hO1
               have hb3 := hb2.only_nil hO1
               have c0 := hb3.cell 0; have c1 := hb3.cell 1; have c2 := hb3.cell 2
               simp at c0 c1 c2
               have h51 := own_only (h5.alloc (.cells #[.string x0, .int .i64 x1, .int .i64 x2] 41)) hO1
               have he1 := he.only_nil hO2
               have hzw := hO2.size)
            | (at_builtin
               refine wpList_append_src (by rfl) _ _ _ rfl (w.heap.size + 1) 41 i0 _ 3 32 Tryd.underlying22 hi hz0 hz1 hz2 rfl (by omega) u5 j _ (by rfl) (h51.alloc _) (some ⟨w1.heap.size, 0, none⟩) 1 1 (cvCells ⟨x0, x1, x2⟩) (by rfl) ⟨rfl, (fun e => by cases e), (fun ad e => by cases e; exact cells_new _ _ rfl)⟩ (by simp [cvCells, Value.oneCell']) hmx (by omega) (by simp; omega) ?_
               intro v2 w2 hown2 hgrow2
               have hO3 : Only [] w w2 := (hO2.alloc _).grown hgrow2 (fun k hk => .inr (by have := own_ge h5 k hk; omega))
               have he2 := he.only_nil hO3
               obtain ⟨A2, c2', rfl, hcap2, hC2⟩ := C_own (xs := lens j ++ [(⟨x0, x1, x2⟩ : CV)]) (by rw [hzl, cvRow_snoc]; exact hown2) (by omega)
               rw [hzl] at hC2 hcap2 ⊢)
            | (go_at_call 9
               refine (HP2.out _ _ _ he2 hC2 hcap2).mono ?_
               rintro e w3 ⟨rfl, hO4⟩
               have hO5 := hO3.trans_nil hO4
               have he3 := he.only_nil hO5)
            | (go_at_call 12
               refine (HPA.out _ he3).mono ?_
               rintro e w4 ⟨A4, c4, rfl, hcap4, hC4, hO6⟩
               have hO7 := hO5.trans_nil hO6
               have he4 := he.only_nil hO7)
            | (go_at_call 8; refine (awake_any _ he4).mono ?_; rintro e6 wx ⟨rfl, hOx⟩))
          go_ret
          exact ⟨rfl, hO7.trans_nil hOx⟩
      · have hp1 : printGo 0 [] [(⟨x0, x1, x2⟩ : CV)] = ([], 1, CV.E ⟨x0, x1, x2⟩) := by rw [printGo, if_neg hE]; rfl
        have hp2 : printGo 0 [] (lens j ++ [(⟨x0, x1, x2⟩ : CV)]) = ([], ((j : Int) + 1), CV.E ⟨x0, x1, x2⟩) := by
          rw [print_bad (lens j) _ [] 0 [] (fun y hy => by rw [List.eq_of_mem_replicate hy]; exact len_right.1) hE]
          simp [lens]
        rw [hp1] at HP1
        rw [hp2] at HP2
        generalize CV.E ⟨x0, x1, x2⟩ = E at *
        have hE' : (E != 0) = true := by simpa using hE
        clear hp1 hp2 hE hn1
        go_wp2_with (first
          | (go_at_call 9; with_reducible show Calls _ _ #[.slice _ 1 _] _ _
             refine (HP1.out _ _ _ (heW.alloc _) hC1 (Nat.le_refl _)).mono ?_
             rintro e w1 ⟨rfl, hO1⟩
             have hO2 := (hO.alloc (.cells #[.string x0, .int .i64 x1, .int .i64 x2] 41)).trans_nil hO1
             have hb3 := hb2.only_nil hO1
             have c0 := hb3.cell 0; have c1 := hb3.cell 1; have c2 := hb3.cell 2
             simp at c0 c1 c2
             have h51 := own_only (h5.alloc (.cells #[.string x0, .int .i64 x1, .int .i64 x2] 41)) hO1
             have he1 := he.only_nil hO2
             have hzw := hO2.size)
          | (at_builtin
             refine wpList_append_src (by rfl) _ _ _ rfl (w.heap.size + 1) 41 i0 _ 3 32 Tryd.underlying22 hi hz0 hz1 hz2 rfl (by omega) u5 j _ (by rfl) (h51.alloc _) (some ⟨w1.heap.size, 0, none⟩) 1 1 (cvCells ⟨x0, x1, x2⟩) (by rfl) ⟨rfl, (fun e => by cases e), (fun ad e => by cases e; exact cells_new _ _ rfl)⟩ (by simp [cvCells, Value.oneCell']) hmx (by omega) (by simp; omega) ?_
             intro v2 w2 hown2 hgrow2
             have hO3 : Only [] w w2 := (hO2.alloc _).grown hgrow2 (fun k hk => .inr (by have := own_ge h5 k hk; omega))
             have he2 := he.only_nil hO3
             obtain ⟨A2, c2', rfl, hcap2, hC2⟩ := C_own (xs := lens j ++ [(⟨x0, x1, x2⟩ : CV)]) (by rw [hzl, cvRow_snoc]; exact hown2) (by omega)
             rw [hzl] at hC2 hcap2 ⊢)
          | (go_at_call 9
             refine (HP2.out _ _ _ he2 hC2 hcap2).mono ?_
             rintro e w3 ⟨rfl, hO4⟩
             have hO5 := hO3.trans_nil hO4
             have he3 := he.only_nil hO5)
          | (go_at_call 8; refine (awake_any _ he3).mono ?_; rintro e6 wx ⟨rfl, hOx⟩))
        go_ret
        exact ⟨rfl, hO5.trans_nil hOx⟩
set_option maxHeartbeats 1000000 in
theorem long_far (k : Int) (x : CV) (w : World) (he : Env w) (h : k < 16380 ∨ 16390 < k ∨ 100 < x.f0.size) :
    Calls Tryd.prog 6 #[.int .i64 k, .agg #[.string x.f0, .int .i64 x.f1, .int .i64 x.f2]] w fun e w' => e = .returned (.bool true) ∧ Only [] w w' := by
  obtain ⟨x0, x1, x2⟩ := x
  dsimp only at h ⊢
  have HW := Lib.hid ((Only.refl [] w).alloc (.cells #[.string x0, .int .i64 x1, .int .i64 x2] 41))
  have HE := Lib.hid (he.only_nil HW.out)
  by_cases h1 : k < 16380
  · clear h
    go_enter Tryd.func6, Tryd.ntmps6
    go_wp2_with (go_at_call 8; refine (awake_any _ HE.out).mono ?_; rintro e6 wx ⟨rfl, hOx⟩)
    go_ret
    exact ⟨rfl, HW.out.trans_nil hOx⟩
  · by_cases h2 : 16390 < k
    · clear h
      go_enter Tryd.func6, Tryd.ntmps6
      go_wp2_with (go_at_call 8; refine (awake_any _ HE.out).mono ?_; rintro e6 wx ⟨rfl, hOx⟩)
      go_ret
      exact ⟨rfl, HW.out.trans_nil hOx⟩
    · have h3 : (100 : Int) < x0.size := by omega
      clear h
      go_enter Tryd.func6, Tryd.ntmps6
      go_wp2_with (go_at_call 8; refine (awake_any _ HE.out).mono ?_; rintro e6 wx ⟨rfl, hOx⟩)
      go_ret
      exact ⟨rfl, HW.out.trans_nil hOx⟩
theorem long_any (k : Int) (x : CV) (w : World) (he : Env w) (h1 : I64 x.f1) (h2 : I64 x.f2) :
    Calls Tryd.prog 6 #[.int .i64 k, .agg #[.string x.f0, .int .i64 x.f1, .int .i64 x.f2]] w fun e w' => e = .returned (.bool true) ∧ Only [] w w' := by
  by_cases h : k < 16380 ∨ 16390 < k ∨ 100 < x.f0.size
  · exact long_far k x w he h
  · obtain ⟨n, rfl⟩ : ∃ n : Nat, k = (n : Int) := ⟨k.toNat, by omega⟩
    exact long_near n x w he (by omega) (by omega) ⟨by omega, h1.1, h1.2, h2.1, h2.2⟩ (by omega)
end Go.Proofs.YtmebolbjidjajaaDoor
