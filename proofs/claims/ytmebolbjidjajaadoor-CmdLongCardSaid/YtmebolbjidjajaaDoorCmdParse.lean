/-
  punnet/cmd.Parse: the commands of a text.
-/
import Derived.Test.YtmebolbjidjajaaDoorCmdLines
import Derived.Shelf.RegionOpen
import Derived.RangeFuncLeaves
import Derived.IntWalk
set_option linter.unusedSimpArgs false
set_option maxRecDepth 100000
namespace Go.Proofs.YtmebolbjidjajaaDoor
open Go.RowKit Go.Proofs.YtmebolbjidjajaaDoorW.PrintWords
attribute [local go_sem] Oper.semAt_some
/-- The command of a line's pieces. -/
def cmdOf (P : List ByteArray) : CV × Int :=
  match nums (P.getD 0 ByteArray.empty).data.toList with
  | none => (cv0, 13)
  | some n =>
    if P.length = n + 1 then
      if P.any (fun p => p.toList.isEmpty) then (cv0, 11) else
        let r1 := nextR 1 n 0 (P.getD 1 ByteArray.empty)
        let r2 := nextR 2 n r1.2 (P.getD 2 ByteArray.empty)
        if r2.2 = 0 then (⟨P.getD 0 ByteArray.empty, r1.1, r2.1⟩, 0) else (cv0, r2.2)
    else (cv0, 11)
def piecesB (s : ByteArray) : List ByteArray := Lib.splitB ⟨#[32]⟩ 0 (Lib.countB s ⟨#[32]⟩) s
theorem splitB_small (sep : ByteArray) : ∀ (k : Nat) (s : ByteArray) (M : Nat), s.size ≤ M → ∀ p ∈ Lib.splitB sep 0 k s, p.size ≤ M
  | 0, s, M, h, p, hp => by rw [Lib.splitB_zero, List.mem_singleton] at hp; rw [hp]; exact h
  | k + 1, s, M, h, p, hp => by
    unfold Lib.splitB at hp
    split at hp
    · rw [List.mem_singleton] at hp; rw [hp]; exact h
    · rcases List.mem_cons.1 hp with rfl | hp
      · simp [ByteArray.size_extract]; omega
      · exact splitB_small sep k _ M (by simp [ByteArray.size_extract]; omega) p hp
theorem first_true (f : Nat → Bool) : ∀ n, (∃ i, i < n ∧ f i = true) → ∃ j, j < n ∧ f j = true ∧ ∀ i, i < j → f i = false
  | 0, ⟨i, h, _⟩ => by omega
  | n + 1, h => by
    by_cases h2 : ∃ i, i < n ∧ f i = true
    · obtain ⟨j, hj, hf, ha⟩ := first_true f n h2
      exact ⟨j, by omega, hf, ha⟩
    · obtain ⟨i, hi, hf⟩ := h
      have hin : i = n := by
        by_cases h3 : i < n
        · exact absurd ⟨i, h3, hf⟩ h2
        · omega
      exact ⟨n, by omega, hin ▸ hf, fun k hk => by
        by_cases h3 : f k = true
        · exact absurd ⟨k, hk, h3⟩ h2
        · simpa using h3⟩
def cvCells (x : CV) : List Value := [.string x.f0, .int .i64 x.f1, .int .i64 x.f2]
theorem command_any (s : ByteArray) (w : World) (he : Env w) (hs : s.size ≤ 1000000) :
    Calls Tryd.prog 22 #[.string s] w fun e w' => e = .returned (.tuple #[.agg (cvCells (cmdOf (piecesB s)).1).toArray, .int .i64 (cmdOf (piecesB s)).2]) ∧ Only [] w w' := by
  have hl : (piecesB s).length = Lib.countB s ⟨#[32]⟩ + 1 := Lib.splitB_all ⟨#[32]⟩ (by decide) 0 _ s rfl
  obtain ⟨p0, ps, hP⟩ : ∃ p0 ps, piecesB s = p0 :: ps := by
    cases h : piecesB s with
    | nil => rw [h] at hl; simp at hl
    | cons a b => exact ⟨a, b, rfl⟩
  have hz : ∀ i, ((piecesB s).getD i ByteArray.empty).size ≤ 1000000 := fun i => by
    by_cases h : i < (piecesB s).length
    · rw [List.getD_eq_getElem?_getD, List.getElem?_eq_getElem h]
      exact splitB_small _ _ s 1000000 hs _ (List.getElem_mem h)
    · rw [List.getD_eq_getElem?_getD, List.getElem?_eq_none (by omega)]
      decide
  have hd : (piecesB s).getD 0 ByteArray.empty = p0 := by rw [hP]; rfl
  have h0 : (piecesB s)[0]? = some p0 := by rw [hP]; rfl
  unfold cmdOf
  rw [hd]
  cases hn : nums p0.data.toList with
  | none => exact command_bad s w he hs p0 ps hP hn
  | some n =>
    dsimp only
    by_cases hlen : (piecesB s).length = n + 1
    · rw [if_pos hlen]
      by_cases hany : (piecesB s).any (fun p => p.toList.isEmpty) = true
      · rw [if_pos hany]
        obtain ⟨p, hp, hpe⟩ := List.any_eq_true.1 hany
        obtain ⟨i, hi, rfl⟩ := List.getElem_of_mem hp
        obtain ⟨j, hj, hje, hall⟩ := first_true (fun k => ((piecesB s).getD k ByteArray.empty).toList.isEmpty) (piecesB s).length ⟨i, hi, by
          rw [List.getD_eq_getElem?_getD, List.getElem?_eq_getElem hi]; exact hpe⟩
        exact command_empty s w he hs p0 _ rfl h0 n hn hlen j hj hall hje
      · rw [if_neg hany]
        have hall : ∀ i < (piecesB s).length, ((piecesB s).getD i ByteArray.empty).toList.isEmpty = false := fun i hi => by
          rw [List.getD_eq_getElem?_getD, List.getElem?_eq_getElem hi]
          by_cases h3 : (piecesB s)[i].toList.isEmpty = true
          · exact absurd (List.any_eq_true.2 ⟨_, List.getElem_mem hi, h3⟩) hany
          · simpa using h3
        generalize hr1 : nextR 1 n 0 ((piecesB s).getD 1 ByteArray.empty) = r1
        generalize hr2 : nextR 2 n r1.2 ((piecesB s).getD 2 ByteArray.empty) = r2
        refine (command_ok s w he hs p0 _ rfl h0 n hn hlen hall hz r1 r2 hr1 hr2).mono ?_
        rintro e w' ⟨rfl, hO⟩
        refine ⟨?_, hO⟩
        by_cases hb : r2.2 = 0
        · rw [if_pos hb, if_pos hb]; rfl
        · rw [if_neg hb, if_neg hb]; rfl
    · rw [if_neg hlen]
      exact command_len s w he hs p0 _ rfl h0 n hn hlen
/-- What a line (with its feed) is. -/
def lineCmd (l : ByteArray) : CV × Int :=
  if Lib.hasSuffix l.data.toList [10] then cmdOf (piecesB ⟨(Lib.trimSuffix l.data.toList [10]).toArray⟩) else (cv0, 11)
def parseR : List ByteArray → List CV → List CV × Int × Int
  | [], acc => (acc, 0, 0)
  | x :: r, acc => if (lineCmd x).2 = 0 then parseR r (acc ++ [(lineCmd x).1]) else ([], acc.length + 1, (lineCmd x).2)
theorem parseR_ok : ∀ (pre rest : List ByteArray) (acc : List CV), (∀ x ∈ pre, (lineCmd x).2 = 0) → parseR (pre ++ rest) acc = parseR rest (acc ++ pre.map fun x => (lineCmd x).1)
  | [], rest, acc, _ => by simp
  | x :: pre, rest, acc, h => by
    rw [List.cons_append, parseR, if_pos (h x (by simp)), parseR_ok pre rest _ fun y hy => h y (List.mem_cons_of_mem _ hy)]
    simp
def cvRow (xs : List CV) : List Value := (xs.map cvCells).flatten
theorem linesL_len : ∀ l : List UInt8, (linesL l).length ≤ l.length
  | [] => Nat.le_refl _
  | c :: r => by
    have ih := linesL_len r
    rw [linesL]
    split
    · simp; omega
    · split
      · simp
      · rename_i p ps h; rw [h] at ih; simp at ih ⊢; omega
theorem linesL_small : ∀ l : List UInt8, ∀ p ∈ linesL l, p.length ≤ l.length
  | [], p, hp => by simp [linesL] at hp
  | c :: r, p, hp => by
    have ih := linesL_small r
    rw [linesL] at hp
    split at hp
    · rcases List.mem_cons.1 hp with rfl | hp
      · simp
      · have := ih p hp; simp; omega
    · split at hp
      · rw [List.mem_singleton] at hp; subst hp; simp
      · rename_i q ps h
        rcases List.mem_cons.1 hp with rfl | hp
        · have := ih q (by rw [h]; simp); simp; omega
        · have := ih p (by rw [h]; simp [hp]); simp; omega
def parseT (s : ByteArray) : List CV × Int × Int := if 65536 < s.size then ([], 0, 12) else parseR ((linesL s.data.toList).map mkS) []
theorem Blk.new' {w : World} {n : Nat} {t : TypeId} {cs : Array Value} (h : w.heap.size = n) : Blk (w.alloc (.cells cs t)) n t cs := h ▸ Blk.new w t cs
theorem ownsRow_mild {w w' : World} {B base n sz : Nat} {e : TypeId} {fp : List Nat} {v : Value} {xs : List Value} (h : w.ownsRow base e sz v n xs) (hm : Mild B fp w w') (hf : ∀ k ∈ fp, k < base) : w'.ownsRow base e sz v n xs := by
  obtain ⟨hl, h | ⟨g, cap, cur, hv, hb, hg, hr⟩⟩ := h
  · exact ⟨hl, .inl h⟩
  · have hg' : Blk w g e cur := hg
    exact ⟨hl, .inr ⟨g, cap, cur, hv, hb, hg'.mild hm (fun hk => by have := hf g hk; omega), hr⟩⟩
theorem ownsRow_base {w : World} {base base' n sz : Nat} {e : TypeId} {v : Value} {xs : List Value} (h : w.ownsRow base e sz v n xs) (hb : base' ≤ base) : w.ownsRow base' e sz v n xs := by
  obtain ⟨hl, h | ⟨g, cap, cur, hv, hb', hr⟩⟩ := h
  · exact ⟨hl, .inl h⟩
  · exact ⟨hl, .inr ⟨g, cap, cur, hv, Nat.le_trans hb hb', hr⟩⟩
theorem cells_new {w : World} {n : Nat} (t : TypeId) (xs : List Value) (hn : w.heap.size = n) : ∀ j u, xs[j]? = some u → (w.alloc (.cells xs.toArray t)).cell? ((⟨n, 0, none⟩ : Addr).add j) = some u := fun j u h => by
  subst hn
  have h2 := (Blk.new w t xs.toArray).cell j
  rw [List.getElem?_toArray, h] at h2
  rw [show (⟨w.heap.size, 0, none⟩ : Addr).add j = ⟨w.heap.size, j, none⟩ by cases j <;> simp [Addr.add]]
  exact h2
theorem info_cmd : (Tryd.prog.info? 41).map (fun i => (i.zero, i.size, i.bytes)) = some (some (.agg #[.string ⟨#[]⟩, .int .i64 0, .int .i64 0]), 3, 32) := by kernel_rfl
theorem ownsRow_slice {w : World} {base n sz : Nat} {e : TypeId} {v : Value} {xs : List Value} (h : w.ownsRow base e sz v n xs) : ∃ A cap, v = .slice A n cap := by
  obtain ⟨_, ⟨h, rfl⟩ | ⟨g, cap, _, hv, _⟩⟩ := h
  · exact ⟨_, _, h⟩
  · exact ⟨_, _, hv⟩
set_option maxHeartbeats 400000 in
theorem parse_long (s : ByteArray) (w : World) (h : 65536 < s.size) :
    Calls Tryd.prog 12 #[.string s] w fun e w' => e = .returned (.tuple #[.slice none 0 0, .int .i64 0, .int .i64 12]) ∧ Only [] w w' := by
  have h' : (65536 : Int) < s.size := by omega
  go_enter Tryd.func12, Tryd.ntmps12
  go_wp2
  obtain ⟨b0, b1, b2⟩ := three_new w #[.slice none 0 0] #[.int .i64 0] #[.int .i64 12] 22 3 25
  have c0 := b0.cell 0
  have c1 := b1.cell 0
  have c2 := b2.cell 0
  refine bodyPost_ret (v := .tuple #[.slice none 0 0, .int .i64 0, .int .i64 12]) (by simp [results, Tryd.f12, go_sem, c0, c1, c2]) rfl ⟨rfl, ?_⟩
  exact (((Only.refl [] w).alloc _).alloc _).alloc _
set_option maxHeartbeats 4000000 in
theorem parse_in (s : ByteArray) (w : World) (he : Env w) (h : s.size ≤ 65536) (L : List ByteArray) (hL : (linesL s.data.toList).map mkS = L) :
    Calls Tryd.prog 12 #[.string s] w fun e w' => ∃ v, e = .returned (.tuple #[v, .int .i64 (parseR L []).2.1, .int .i64 (parseR L []).2.2]) ∧
      w'.ownsRow w.heap.size 41 3 v (parseR L []).1.length (cvRow (parseR L []).1) ∧ Only [] w w' := by
  have h' : ¬ (65536 : Int) < s.size := by omega
  have hLl : L.length ≤ 65536 := by rw [← hL, List.length_map]; have := linesL_len s.data.toList; rw [Array.length_toList] at this; exact Nat.le_trans this h
  have hLs : ∀ x ∈ L, x.size ≤ 65536 := fun x hx => by
    rw [← hL] at hx
    obtain ⟨p, hp, rfl⟩ := List.mem_map.1 hx
    have := linesL_small s.data.toList p hp
    rw [Array.length_toList] at this
    simp only [mkS, ByteArray.size, List.size_toArray]
    exact Nat.le_trans this h
  refine (callsIn_wide (n := 5)).1 ?_
  refine callsIn_of_wp_marks Tryd.func12 rfl trivial ?_ rfl
  simp only [Tryd.ntmps12, List.size_toArray, List.length_cons, List.length_nil, Nat.reduceAdd, Nat.reduceSub, Array.replicate_succ, Array.replicate_zero, List.push_toArray, List.append_toArray, List.nil_append, List.cons_append]
  gi_wp2_with (refine ⟨trivial, ?_⟩; gi_at_call 20; refine (callsIn_wide.2 (lines_any _ _)).mono ?_; rintro e w1 ⟨rfl, rfl⟩)
  obtain ⟨W0, hW0⟩ : ∃ W0, (((((w.alloc (.cells #[.slice none 0 0] 22)).alloc (.cells #[.int .i64 0] 3)).alloc (.cells #[.int .i64 0] 25)).alloc (.cells #[.slice none 0 0] 22)).alloc (.cells #[.string s] 9)) = W0 := ⟨_, rfl⟩
  have z0 : W0.heap.size = w.heap.size + 5 := by rw [← hW0]; simp
  have b0 : Blk W0 w.heap.size 22 #[.slice none 0 0] := by rw [← hW0]; exact ((((Blk.new w _ _).alloc _).alloc _).alloc _).alloc _
  have b1 : Blk W0 (w.heap.size + 1) 3 #[.int .i64 0] := by rw [← hW0]; exact (((Blk.new' (by simp)).alloc _).alloc _).alloc _
  have b2 : Blk W0 (w.heap.size + 2) 25 #[.int .i64 0] := by rw [← hW0]; exact ((Blk.new' (by simp)).alloc _).alloc _
  have b3 : Blk W0 (w.heap.size + 3) 22 #[.slice none 0 0] := by rw [← hW0]; exact (Blk.new' (by simp)).alloc _
  have b4 : Blk W0 (w.heap.size + 4) 9 #[.string s] := by rw [← hW0]; exact Blk.new' (by simp)
  have hO0 : Only [] w W0 := by rw [← hW0]; exact (((((Only.refl [] w).alloc _).alloc _).alloc _).alloc _).alloc _
  rw [hW0]
  clear hW0
  refine wpIn_rangeFunc_list (by omega) (gf := 27) (lb := #[.pointer (some ⟨w.heap.size + 4, 0, none⟩)]) rfl (enters_of Tryd.func27 (by kernel_rfl) rfl)
    (fp := [w.heap.size + 4]) (kp := (· = w.heap.size + 4)) (xs := L) (hL ▸ lines_yields 4 (by omega) s (w.heap.size + 4) W0 b4 (by omega)) (by simp; omega) (by intro k hk; omega) (fun _ => rfl)
    (fun pre W => (∀ x ∈ pre, (lineCmd x).2 = 0) ∧ (∃ v, Blk W (w.heap.size + 3) 22 #[v] ∧ W.ownsRow W0.heap.size 41 3 v pre.length (cvRow (pre.map fun x => (lineCmd x).1))) ∧
      Blk W w.heap.size 22 #[.slice none 0 0] ∧ Blk W (w.heap.size + 1) 3 #[.int .i64 0] ∧ Blk W (w.heap.size + 2) 25 #[.int .i64 0] ∧ Only [] w W ∧ w.heap.size + 5 ≤ W.heap.size)
    (fun c pre' W => c = .ret ∧ ∃ pre x, pre' = pre ++ [x] ∧ (∀ x ∈ pre, (lineCmd x).2 = 0) ∧ (lineCmd x).2 ≠ 0 ∧
      Blk W w.heap.size 22 #[.slice none 0 0] ∧ Blk W (w.heap.size + 1) 3 #[.int .i64 (pre.length + 1)] ∧ Blk W (w.heap.size + 2) 25 #[.int .i64 (lineCmd x).2] ∧ Only [] w W)
    ?hI ?hIx ?h0 (fun x => { tmps := #[.string s, undef, .pointer (some ⟨w.heap.size, 0, none⟩), .pointer (some ⟨w.heap.size + 1, 0, none⟩), .pointer (some ⟨w.heap.size + 2, 0, none⟩), .pointer (some ⟨w.heap.size + 3, 0, none⟩), .string x, undef, undef, undef, undef, .string s, .int .i64 s.size, .bool false, .string s,
      .func (.func 27) #[] #[.pointer (some ⟨w.heap.size + 4, 0, none⟩)], .string x, undef, undef, undef, undef, undef, undef, undef, undef, undef, undef, undef, undef, undef, undef, undef, undef, undef, undef, undef, undef, undef, undef, undef, undef, undef, undef], defers := [] }) ?assign ?body ?done ?stop
  case hI =>
    rintro pre A B ⟨h1, ⟨v, h2, h3⟩, h4, h5, h6, h7, h8⟩ hm
    exact ⟨h1, ⟨v, h2.mild hm (by simp), ownsRow_mild h3 hm (by intro k hk; simp at hk; omega)⟩, h4.mild hm (by simp), h5.mild hm (by simp), h6.mild hm (by simp), h7.mild hm hO0.size (by simp), Nat.le_trans h8 hm.size⟩
  case hIx =>
    rintro c pre' A B ⟨rfl, pre, x, rfl, h1, h2, h4, h5, h6, h7⟩ hm
    exact ⟨rfl, pre, x, rfl, h1, h2, h4.mild hm (by simp), h5.mild hm (by simp), h6.mild hm (by simp), h7.mild hm hO0.size (by simp)⟩
  case h0 => exact ⟨by simp, ⟨_, b3, World.ownsRow_nil _ _ _ _⟩, b0, b1, b2, hO0, by omega⟩
  case assign =>
    intro l x W K hK
    gi_wp2
    exact hK
  case body =>
    rintro l pre x post W hxs ⟨h1, ⟨v, h2, h3⟩, h4, h5, h6, h7, hz5⟩
    dsimp only
    have hx : x ∈ L := by rw [hxs]; simp
    have hxz := hLs x hx
    have hpl : pre.length < L.length := by rw [hxs]; simp
    have heW : Env W := he.only_nil h7
    have HC := Lib.hid (fun V => Tryd.strings_CutSuffix x ⟨#[10]⟩ V (by omega))
    have hv := h2.cell 0
    have hfv := h2.frozen 0
    have hc0 := h4.cell 0
    have hf0 := h4.frozen 0
    have hc1 := h5.cell 0
    have hf1 := h5.frozen 0
    have hc2 := h6.cell 0
    have hf2 := h6.frozen 0
    obtain ⟨A, cap, rfl⟩ := ownsRow_slice h3
    simp at hv hc0 hc1 hc2
    have hmix : Tryd.prog.follows .mixedOrders = true := by kernel_rfl
    have fin : ∀ (V : World) (e : Int) (a : Act), Blk V w.heap.size 22 #[.slice none 0 0] → Blk V (w.heap.size + 1) 3 #[.int .i64 0] → Blk V (w.heap.size + 2) 25 #[.int .i64 0] → Only [] W V → (lineCmd x).2 = e → e ≠ 0 →
        roundEnd W0.heap.size (fun k => k = w.heap.size + 4) (fun pre W => (∀ x ∈ pre, (lineCmd x).2 = 0) ∧ (∃ v, Blk W (w.heap.size + 3) 22 #[v] ∧ W.ownsRow W0.heap.size 41 3 v pre.length (cvRow (pre.map fun x => (lineCmd x).1))) ∧
            Blk W w.heap.size 22 #[.slice none 0 0] ∧ Blk W (w.heap.size + 1) 3 #[.int .i64 0] ∧ Blk W (w.heap.size + 2) 25 #[.int .i64 0] ∧ Only [] w W ∧ w.heap.size + 5 ≤ W.heap.size)
          (fun c pre' W => c = .ret ∧ ∃ pre x, pre' = pre ++ [x] ∧ (∀ x ∈ pre, (lineCmd x).2 = 0) ∧ (lineCmd x).2 ≠ 0 ∧
            Blk W w.heap.size 22 #[.slice none 0 0] ∧ Blk W (w.heap.size + 1) 3 #[.int .i64 (pre.length + 1)] ∧ Blk W (w.heap.size + 2) 25 #[.int .i64 (lineCmd x).2] ∧ Only [] w W)
          (pre ++ [x]) W .ret a ((((V.setCell ⟨w.heap.size, 0, none⟩ (.slice none 0 0)).setCell ⟨w.heap.size + 1, 0, none⟩ (.int .i64 (IntKind.i64.wrap (pre.length + 1)))).setCell ⟨w.heap.size + 2, 0, none⟩ (.int .i64 e)).drew) := by
      intro V e a k0 k1 k2 hWV he1 he2
      have hw : IntKind.i64.wrap ((pre.length : Int) + 1) = pre.length + 1 := IntWalk.i64_in _ (by omega)
      rw [hw]
      have hOf : Only [w.heap.size, w.heap.size + 1, w.heap.size + 2] W ((((V.setCell ⟨w.heap.size, 0, none⟩ (.slice none 0 0)).setCell ⟨w.heap.size + 1, 0, none⟩ (.int .i64 (pre.length + 1))).setCell ⟨w.heap.size + 2, 0, none⟩ (.int .i64 e)).drew) :=
        (((hWV.nil_mono.setCell (.inl (by simp)) _).setCell (.inl (by simp)) _).setCell (.inl (by simp)) _).drew
      refine ⟨Body.of_only hOf (by simp; omega) (by intro k hk; omega), rfl, pre, x, rfl, h1, by rw [he1]; exact he2, ?_, ?_, ?_, ?_⟩
      · exact (((k0.set_ 0 _).far (by simp) _).far (by simp) _).drew
      · exact (((k1.far (by simp) _).set_ 0 _).far (by simp) _).drew
      · rw [he1]; exact (((k2.far (by simp) _).far (by simp) _).set_ 0 _).drew
      · exact h7.trans hOf (by simp)
    by_cases hsf : Lib.hasSuffix x.data.toList [10] = true
    · have HC2 : ∀ V, Calls Tryd.prog 21 #[.string x, .string ⟨#[10]⟩] V fun e w' => e = .returned (.tuple #[.string ⟨(Lib.trimSuffix x.data.toList [10]).toArray⟩, .bool true]) ∧ V = w' := fun V => (HC.out V).mono (by rintro e w' ⟨rfl, rfl⟩; exact ⟨by rw [show Lib.hasSuffix x.data.toList (⟨#[10]⟩ : ByteArray).data.toList = true from hsf], rfl⟩)
      have hlc : lineCmd x = cmdOf (piecesB ⟨(Lib.trimSuffix x.data.toList [10]).toArray⟩) := by rw [lineCmd, if_pos hsf]
      have htz : (⟨(Lib.trimSuffix x.data.toList [10]).toArray⟩ : ByteArray).size ≤ 1000000 := by
        have hxl : x.data.toList.length ≤ 65536 := by rw [Array.length_toList]; exact hxz
        show (Lib.trimSuffix x.data.toList [10]).toArray.size ≤ 1000000
        rw [List.size_toArray, Lib.trimSuffix, if_pos hsf, List.length_take]
        omega
      generalize (⟨(Lib.trimSuffix x.data.toList [10]).toArray⟩ : ByteArray) = t at HC2 hlc htz
      have HCM := Lib.hid (fun V (hV : Env V) => command_any t V hV htz)
      rw [← hlc] at HCM
      clear hlc
      rcases hr : lineCmd x with ⟨⟨q0, q1, q2⟩, er⟩
      rw [hr] at HCM
      simp only [cvCells] at HCM
      by_cases hee : er = 0
      · subst hee
        have hS : ∀ k ∈ (Value.slice A pre.length cap).ownBlock.toList, W0.heap.size ≤ k ∧ ∃ t cs, Blk W k t cs := by
          intro k hk
          obtain ⟨_, ⟨hn, _⟩ | ⟨g, cap', cur, hn, hb, hg, _⟩⟩ := h3
          · rw [hn] at hk; simp [Value.ownBlock] at hk
          · rw [hn] at hk; simp [Value.ownBlock] at hk; subst hk; exact ⟨hb, _, _, hg⟩
        generalize (Value.slice A pre.length cap) = v at *
        obtain ⟨i0, hi, hz0, hz1, hz2⟩ := info_parts info_cmd
        have hmx : pre.length + 1 ≤ maxLen := Nat.le_trans (show pre.length + 1 ≤ 65536 + 1 by omega) (by decide)
        gi_wp2_with (first
          | (refine ⟨trivial, ?_⟩; gi_at_call 21; refine (CallsIn.inRound l (callsIn_wide.2 (HC2 _))).mono ?_; rintro e w1 ⟨rfl, rfl⟩)
          | (refine ⟨trivial, ?_⟩; gi_at_call 22; refine (CallsIn.inRound l (callsIn_wide.2 (HCM.out _ heW))).mono ?_; rintro e w1 ⟨rfl, hO1⟩; have y3 := h2.only_nil hO1; have cy3 := y3.cell 0; have zy := Nat.le_trans hz5 hO1.size; have zy3 : w.heap.size + 3 < w1.heap.size := by omega
             simp at cy3)
          | (gi_at_builtin
             refine wpListIn_append_own _ rfl _ _ 22 rfl W0.heap.size 41 i0 _ 3 32 Tryd.underlying22 hi hz0 hz1 hz2 rfl (by decide) v pre.length _ rfl (ownsRow_mild (fp := []) (B := 0) h3 (.of_only ((hO1.alloc _).alloc _)) (by simp)) _ 1 1 [.string q0, .int .i64 q1, .int .i64 q2] rfl rfl (cells_new _ _ (by simp)) (by simp [Value.oneCell']) hmx (by omega) (by have := h7.size; simp; omega) ?_
             intro v' wa hown' hgrow _
             obtain ⟨A9, cap9, rfl⟩ := ownsRow_slice hown'
             have hOa : Only v.ownBlock.toList w1 wa := ((Only.refl _ w1).alloc _ |>.alloc _).grown hgrow (fun k hk => .inl (by rw [hk]; simp))
             have hSn : w.heap.size + 3 ∉ v.ownBlock.toList := fun hm => by have := (hS _ hm).1; omega
             have y4 := y3.only hOa hSn
             have cy4 := y4.cell 0
             have fy4 := y4.frozen 0
             have zy4 : w.heap.size + 3 < wa.heap.size := by have := hOa.size; omega
             simp at cy4))
        have hO9 : Only ((w.heap.size + 3) :: v.ownBlock.toList) W (wa.setCell ⟨w.heap.size + 3, 0, none⟩ (.slice A9 (pre.length + 1) cap9)) := ((hO1.nil_mono.trans hOa (fun k hk => .inl (List.mem_cons_of_mem _ hk))).setCell (.inl (by simp)) _)
        have hS9 : ∀ k ∈ (w.heap.size + 3) :: v.ownBlock.toList, w.heap.size ≤ k ∧ k ≠ w.heap.size ∧ k ≠ w.heap.size + 1 ∧ k ≠ w.heap.size + 2 ∧ k ≠ w.heap.size + 4 := by
          intro k hk
          rcases List.mem_cons.1 hk with rfl | hk
          · omega
          · have := (hS k hk).1; omega
        refine ⟨Body.of_only hO9 (fun k hk => ⟨(hS9 k hk).2.2.2.2, ?_⟩) (by intro k hk; omega), ?_, ⟨_, y4.set_ 0 _, ?_⟩, ?_, ?_, ?_, ?_, ?_⟩
        · rcases List.mem_cons.1 hk with rfl | hk
          · exact .inl (by omega)
          · exact .inr (hS k hk).2
        · intro y hy
          rcases List.mem_append.1 hy with hy | hy
          · exact h1 y hy
          · rw [List.mem_singleton.1 hy, hr]
        · have := ownsRow_mild (fp := [w.heap.size + 3]) (B := 0) hown' (.of_only ((Only.refl [w.heap.size + 3] wa).setCell (p := ⟨w.heap.size + 3, 0, none⟩) (.inl (by simp)) (.slice A9 (pre.length + 1) cap9))) (by simp; omega)
          simpa [cvRow, cvCells, hr] using this
        · exact h4.only hO9 (fun hm => (hS9 _ hm).2.1 rfl)
        · exact h5.only hO9 (fun hm => (hS9 _ hm).2.2.1 rfl)
        · exact h6.only hO9 (fun hm => (hS9 _ hm).2.2.2.1 rfl)
        · exact h7.trans hO9 (fun k hk => .inr (hS9 k hk).1)
        · exact Nat.le_trans hz5 hO9.size
      · have hee' : (er != 0) = true := by simpa using hee
        have HE := Lib.hid hee
        clear hee
        gi_wp2_with (first
          | (refine ⟨trivial, ?_⟩; gi_at_call 21; refine (CallsIn.inRound l (callsIn_wide.2 (HC2 _))).mono ?_; rintro e w1 ⟨rfl, rfl⟩)
          | (refine ⟨trivial, ?_⟩; gi_at_call 22; refine (CallsIn.inRound l (callsIn_wide.2 (HCM.out _ heW))).mono ?_; rintro e w1 ⟨rfl, hO1⟩))
        have hOV : Only [] W (w1.alloc (.cells #[.string q0, .int .i64 q1, .int .i64 q2] 41)) := hO1.alloc _
        generalize w1.alloc (.cells #[.string q0, .int .i64 q1, .int .i64 q2] 41) = V at *
        clear hO1
        have y0 := h4.only_nil hOV
        have y1 := h5.only_nil hOV
        have y2 := h6.only_nil hOV
        have y3 := h2.only_nil hOV
        have cy0 := y0.cell 0
        have cy1 := y1.cell 0
        have cy2 := y2.cell 0
        have cy3 := y3.cell 0
        have fy0 := y0.frozen 0
        have fy1 := y1.frozen 0
        have fy2 := y2.frozen 0
        have fy3 := y3.frozen 0
        simp at cy0 cy1 cy2 cy3
        gi_region_with_o (fail)
        all_goals gi_wp2
        all_goals exact fin V er _ y0 y1 y2 hOV (by rw [hr]) HE.out
    · have hsf' : Lib.hasSuffix x.data.toList [10] = false := by simpa using hsf
      have hlc : (lineCmd x).2 = 11 := by rw [lineCmd, if_neg hsf]
      have HC2 : ∀ V, Calls Tryd.prog 21 #[.string x, .string ⟨#[10]⟩] V fun e w' => e = .returned (.tuple #[.string ⟨(Lib.trimSuffix x.data.toList [10]).toArray⟩, .bool false]) ∧ V = w' := fun V => (HC.out V).mono (by rintro e w' ⟨rfl, rfl⟩; exact ⟨by rw [show Lib.hasSuffix x.data.toList (⟨#[10]⟩ : ByteArray).data.toList = false from hsf'], rfl⟩)
      generalize (⟨(Lib.trimSuffix x.data.toList [10]).toArray⟩ : ByteArray) = t at HC2
      gi_wp2_with (refine ⟨trivial, ?_⟩; gi_at_call 21; refine (CallsIn.inRound l (callsIn_wide.2 (HC2 _))).mono ?_; rintro e w1 ⟨rfl, rfl⟩)
      gi_region_with_o (fail)
      all_goals gi_wp2
      all_goals exact fin W 11 _ h4 h5 h6 (Only.refl _ _) hlc (by decide)
  case done =>
    rintro W ⟨h1, ⟨v, h2, h3⟩, h4, h5, h6, h7, h8⟩ hK
    obtain ⟨A, cap, rfl⟩ := ownsRow_slice h3
    have hv := h2.cell 0
    have hc0 := h4.cell 0
    have hf0 := h4.frozen 0
    have hc1 := h5.cell 0
    have hf1 := h5.frozen 0
    have hc2 := h6.cell 0
    have hf2 := h6.frozen 0
    simp at hv hc0 hc1 hc2
    have hR : parseR L [] = (L.map (fun x => (lineCmd x).1), 0, 0) := by
      have := parseR_ok L [] [] h1
      rw [List.append_nil] at this
      rw [this]; simp [parseR]
    gi_wp2
    rw [hR]
    obtain ⟨V, hV⟩ : ∃ V, (((W.setCell ⟨w.heap.size, 0, none⟩ (.slice A L.length cap)).setCell ⟨w.heap.size + 1, 0, none⟩ (.int .i64 0)).setCell ⟨w.heap.size + 2, 0, none⟩ (.int .i64 0)) = V := ⟨_, rfl⟩
    have hO9 : Only [w.heap.size, w.heap.size + 1, w.heap.size + 2] W V := by rw [← hV]; exact (((Only.refl _ W).setCell (.inl (by simp)) _).setCell (.inl (by simp)) _).setCell (.inl (by simp)) _
    have y0 : Blk V w.heap.size 22 #[.slice A L.length cap] := by rw [← hV]; exact ((h4.set_ 0 _).far (by simp) _).far (by simp) _
    have y1 : Blk V (w.heap.size + 1) 3 #[.int .i64 0] := by rw [← hV]; exact ((h5.far (by simp) _).set_ 0 _).far (by simp) _
    have y2 : Blk V (w.heap.size + 2) 25 #[.int .i64 0] := by rw [← hV]; exact ((h6.far (by simp) _).far (by simp) _).set_ 0 _
    have hK' : V.heap[W0.heap.size]? = some (.deferred (some [])) := (hO9.heap (Array.getElem?_eq_some_iff.1 hK).1 (by simp; omega)).trans hK
    have hm : Mild W0.heap.size [] V (V.putObj W0.heap.size (.deferred none)) := Mild.putObj _ (Nat.le_refl _) hK' rfl
    have hr9 := ownsRow_mild (ownsRow_mild (fp := [w.heap.size, w.heap.size + 1, w.heap.size + 2]) (B := 0) h3 (.of_only hO9) (by simp; omega)) hm (by simp)
    have hOw := (h7.trans hO9 (by simp)).mild hm (by omega) (by simp)
    have cy0 := (y0.mild hm (by simp)).cell 0
    have cy1 := (y1.mild hm (by simp)).cell 0
    have cy2 := (y2.mild hm (by simp)).cell 0
    show bodyPostM _ _ _ _ _ _ _ ((((W.setCell ⟨w.heap.size, 0, none⟩ (.slice A L.length cap)).setCell ⟨w.heap.size + 1, 0, none⟩ (.int .i64 0)).setCell ⟨w.heap.size + 2, 0, none⟩ (.int .i64 0)))
    rw [hV]
    refine ⟨by simp, .inl ⟨_, _, rfl, run_takeDeferred hK', ?_⟩⟩
    refine ⟨.tuple #[.slice A L.length cap, .int .i64 0, .int .i64 0], by simp [results, Tryd.f12, go_sem, cy0, cy1, cy2], _, rfl, ?_, hOw⟩
    rw [List.length_map]
    exact ownsRow_base hr9 (by omega)
  case stop =>
    rintro c pre' post W hxs ⟨rfl, pre, x, rfl, h1, h2, h4, h5, h6, h7⟩ hK
    have hR : parseR L [] = ([], (pre.length : Int) + 1, (lineCmd x).2) := by
      rw [hxs, List.append_assoc, parseR_ok pre _ [] h1]
      simp [parseR, h2]
    gi_wp2
    rw [hR]
    refine ⟨by simp, .inl ⟨_, _, rfl, run_takeDeferred hK, ?_⟩⟩
    have hm : Mild W0.heap.size [] W (W.putObj W0.heap.size (.deferred none)) := Mild.putObj _ (Nat.le_refl _) hK rfl
    have cy0 := (h4.mild hm (by simp)).cell 0
    have cy1 := (h5.mild hm (by simp)).cell 0
    have cy2 := (h6.mild hm (by simp)).cell 0
    exact ⟨.tuple #[.slice none 0 0, .int .i64 (pre.length + 1), .int .i64 (lineCmd x).2], by simp [results, Tryd.f12, go_sem, cy0, cy1, cy2], _, rfl, World.ownsRow_nil _ _ _ _, h7.mild hm (by omega) (by simp)⟩
end Go.Proofs.YtmebolbjidjajaaDoor
