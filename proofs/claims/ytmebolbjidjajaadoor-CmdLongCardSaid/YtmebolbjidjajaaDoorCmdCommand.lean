/-
  punnet/cmd.command: the command of a line.
-/
import Derived.Test.YtmebolbjidjajaaDoorCmdNumber
import Derived.Test.YtmebolbjidjajaaDoorKinds
import Derived.Lib.Split
import Derived.Orders
set_option linter.unusedSimpArgs false
set_option maxRecDepth 100000
namespace Go.Proofs.YtmebolbjidjajaaDoor
open Go.RowKit
/-! The closure -/
set_option maxHeartbeats 400000 in
theorem next_skip (i n e : Int) (bn bw bl : Nat) (w : World) (hn : w.cell? ⟨bn, 0, none⟩ = some (.int .i64 n)) (hw : w.cell? ⟨bw, 0, none⟩ = some (.int .i64 e)) (h : n < i ∨ e ≠ 0) :
    Calls Tryd.prog 31 #[.int .i64 i, .pointer (some ⟨bn, 0, none⟩), .pointer (some ⟨bw, 0, none⟩), .pointer (some ⟨bl, 0, none⟩)] w fun e w' => e = .returned (.int .i64 0) ∧ w = w' := by
  by_cases hi : n < i
  · clear h
    go_enter Tryd.func31, Tryd.ntmps31
    go_wp2
    go_ret
    exact ⟨rfl, rfl⟩
  · have he : (e != 0) = true := by simp; omega
    clear h
    go_enter Tryd.func31, Tryd.ntmps31
    go_wp2
    go_ret
    exact ⟨rfl, rfl⟩
set_option maxHeartbeats 400000 in
theorem next_num (i : Nat) (n : Int) (bn bw bl g : Nat) (m c : Nat) (s : ByteArray) (w : World) (he : Env w) (hn : w.cell? ⟨bn, 0, none⟩ = some (.int .i64 n)) (hw : Blk w bw 25 #[.int .i64 0])
    (hl : w.cell? ⟨bl, 0, none⟩ = some (.slice (some ⟨g, 0, none⟩) m c)) (hg : w.cell? ⟨g, i, none⟩ = some (.string s)) (hi : (i : Int) ≤ n) (him : i < m) (hs : s.size ≤ 1000000) :
    Calls Tryd.prog 31 #[.int .i64 i, .pointer (some ⟨bn, 0, none⟩), .pointer (some ⟨bw, 0, none⟩), .pointer (some ⟨bl, 0, none⟩)] w fun e w' =>
      e = .returned (.int .i64 (numR s.data.toList).1) ∧ Only [bw] w w' ∧ Blk w' bw 25 #[.int .i64 (numR s.data.toList).2] := by
  have hw0 := hw.cell 0
  simp at hw0
  have HN := Lib.hid (number_any s w he hs)
  generalize numR s.data.toList = r at *
  obtain ⟨r1, r2⟩ := r
  go_enter Tryd.func31, Tryd.ntmps31
  go_wp2_with (go_at_call 32; refine HN.out.mono ?_; rintro e w1 ⟨rfl, hO⟩; have hB1 := hw.only_nil hO; have f1 := hB1.frozen 0; obtain c1 : w1.cell? ⟨bw, 0, none⟩ = some (.int .i64 0) := hB1.cell 0)
  go_ret
  exact ⟨rfl, (hO.nil_mono (S := [bw])).setCell (.inl (by simp)) _, hB1.set_ 0 _⟩
/-- What the closure answers for the i-th piece. -/
def nextR (i n e : Int) (s : ByteArray) : Int × Int := if n < i ∨ e ≠ 0 then (0, e) else numR s.data.toList
theorem next_any (i : Nat) (n e : Int) (bn bw bl g : Nat) (m c : Nat) (s : ByteArray) (w : World) (he : Env w) (hn : w.cell? ⟨bn, 0, none⟩ = some (.int .i64 n)) (hw : Blk w bw 25 #[.int .i64 e])
    (hl : w.cell? ⟨bl, 0, none⟩ = some (.slice (some ⟨g, 0, none⟩) m c)) (hm : n < m) (hg : (i : Int) ≤ n → w.cell? ⟨g, i, none⟩ = some (.string s)) (hs : s.size ≤ 1000000) :
    Calls Tryd.prog 31 #[.int .i64 i, .pointer (some ⟨bn, 0, none⟩), .pointer (some ⟨bw, 0, none⟩), .pointer (some ⟨bl, 0, none⟩)] w fun r w' =>
      r = .returned (.int .i64 (nextR i n e s).1) ∧ Only [bw] w w' ∧ Blk w' bw 25 #[.int .i64 (nextR i n e s).2] := by
  rw [nextR]
  by_cases h : n < i ∨ e ≠ 0
  · rw [if_pos h]
    refine (next_skip i n e bn bw bl w hn (by simpa using hw.cell 0) h).mono ?_
    rintro r w1 ⟨rfl, rfl⟩
    exact ⟨rfl, .refl _ _, hw⟩
  · rw [if_neg h]
    obtain rfl : e = 0 := by omega
    exact next_num i n bn bw bl g m c s w he hn hw hl (hg (by omega)) (by omega) (by omega) hs
theorem next_one (n : Int) (bn bw bl g : Nat) (m c : Nat) (s : ByteArray) (r : Int × Int) (w : World) (he : Env w) (hn : w.cell? ⟨bn, 0, none⟩ = some (.int .i64 n)) (hw : Blk w bw 25 #[.int .i64 0])
    (hl : w.cell? ⟨bl, 0, none⟩ = some (.slice (some ⟨g, 0, none⟩) m c)) (hm : n < m) (hg : 1 ≤ n → w.cell? ⟨g, 1, none⟩ = some (.string s)) (hs : s.size ≤ 1000000) (hr : nextR 1 n 0 s = r) :
    Calls Tryd.prog 31 #[.int .i64 1, .pointer (some ⟨bn, 0, none⟩), .pointer (some ⟨bw, 0, none⟩), .pointer (some ⟨bl, 0, none⟩)] w fun e w' =>
      e = .returned (.int .i64 r.1) ∧ Only [bw] w w' ∧ Blk w' bw 25 #[.int .i64 r.2] := by
  rw [← hr]
  exact next_any 1 n 0 bn bw bl g m c s w he hn hw hl hm hg hs
theorem next_two (n e : Int) (bn bw bl g : Nat) (m c : Nat) (s : ByteArray) (r : Int × Int) (w : World) (he : Env w) (hn : w.cell? ⟨bn, 0, none⟩ = some (.int .i64 n)) (hw : Blk w bw 25 #[.int .i64 e])
    (hl : w.cell? ⟨bl, 0, none⟩ = some (.slice (some ⟨g, 0, none⟩) m c)) (hm : n < m) (hg : 2 ≤ n → w.cell? ⟨g, 2, none⟩ = some (.string s)) (hs : s.size ≤ 1000000) (hr : nextR 2 n e s = r) :
    Calls Tryd.prog 31 #[.int .i64 2, .pointer (some ⟨bn, 0, none⟩), .pointer (some ⟨bw, 0, none⟩), .pointer (some ⟨bl, 0, none⟩)] w fun e w' =>
      e = .returned (.int .i64 r.1) ∧ Only [bw] w w' ∧ Blk w' bw 25 #[.int .i64 r.2] := by
  rw [← hr]
  exact next_any 2 n e bn bw bl g m c s w he hn hw hl hm hg hs
/-! The pieces of a line -/
theorem split_all (s : ByteArray) (w : World) (he : Env w) (hs : s.size ≤ 1000000) (P : List ByteArray) (hP : Lib.splitB ⟨#[32]⟩ 0 (Lib.countB s ⟨#[32]⟩) s = P) :
    Calls Tryd.prog 30 #[.string s, .string ⟨#[32]⟩] w fun e w' => e = .returned (.slice (some ⟨w.heap.size, 0, none⟩) P.length P.length) ∧ w.alloc (.cells (P.map Value.string).toArray 9) = w' := by
  have hl : P.length = Lib.countB s ⟨#[32]⟩ + 1 := by
    rw [← hP]
    exact (Lib.splitB_all ⟨#[32]⟩ (by decide) 0 _ s rfl)
  subst hP
  rw [hl]
  exact (split_any s ⟨#[32]⟩ w he (by omega) (by decide)).mono fun _ _ ⟨h, h'⟩ => ⟨h, h'.symm⟩
theorem three_blocks {w w1 : World} {ca cb cc : Array Value} {ta tb tc : TypeId} (hO : Only [] (((w.alloc (.cells ca ta)).alloc (.cells cb tb)).alloc (.cells cc tc)) w1) :
    Blk w1 w.heap.size ta ca ∧ Blk w1 (w.heap.size + 1) tb cb ∧ Blk w1 (w.heap.size + 2) tc cc ∧ w.heap.size < w1.heap.size ∧ w.heap.size + 1 < w1.heap.size ∧ w.heap.size + 2 < w1.heap.size ∧ Only [] w w1 := by
  have h0 := (((Blk.new w ta ca).alloc (.cells cb tb)).alloc (.cells cc tc)).only_nil hO
  have h1 := ((Blk.new (w.alloc (.cells ca ta)) tb cb).alloc (.cells cc tc)).only_nil hO
  have h2 := (Blk.new ((w.alloc (.cells ca ta)).alloc (.cells cb tb)) tc cc).only_nil hO
  have hs := hO.size
  simp only [World.size_alloc] at h1 h2 hs
  exact ⟨h0, h1, h2, by omega, by omega, by omega, ((((Only.refl [] w).alloc _).alloc _).alloc _).trans_nil hO⟩
set_option maxHeartbeats 1000000 in
theorem command_bad (s : ByteArray) (w : World) (he : Env w) (hs : s.size ≤ 1000000) (p0 : ByteArray) (ps : List ByteArray) (hP : Lib.splitB ⟨#[32]⟩ 0 (Lib.countB s ⟨#[32]⟩) s = p0 :: ps) (hn : nums p0.data.toList = none) :
    Calls Tryd.prog 22 #[.string s] w fun e w' => e = .returned (.tuple #[.agg #[.string ⟨#[]⟩, .int .i64 0, .int .i64 0], .int .i64 13]) ∧ Only [] w w' := by
  have HS := Lib.hid (fun W (hW : Env W) => split_all s W hW hs _ hP)
  have HN := Lib.hid (fun W => numbers_none p0 hn W)
  clear hP hn
  go_enter Tryd.func22, Tryd.ntmps22
  go_wp2_with (first
    | (go_at_call 30; refine (HS.out _ (he.alloc _)).mono ?_; rintro e w1 ⟨rfl, rfl⟩)
    | (go_at_call 23; refine (HN.out _).mono ?_; rintro e w1 ⟨rfl, hO⟩; obtain ⟨b0, b1, b2, s0, s1, s2, hO1⟩ := three_blocks hO; have c0 := fun i => b0.cell i; have c1 := fun i => b1.cell i; have c2 := fun i => b2.cell i; have f0 := fun i => b0.frozen i; clear hO b1 b2))
  refine bodyPost_ret (results_row_tmp Tryd.results22 _ _ w.heap.size 41 #[.string ⟨#[]⟩, .int .i64 0, .int .i64 0] _ rfl ((((b0.set_ 0 _).set_ 1 _).set_ 2 _).alloc _) Tryd.underlying41 rfl (by kernel_rfl)) rfl ⟨rfl, ?_⟩
  exact (((hO1.setCell (p := ⟨w.heap.size, 0, none⟩) (.inr (Nat.le_refl _)) _).setCell (p := ⟨w.heap.size, 1, none⟩) (.inr (Nat.le_refl _)) _).setCell (p := ⟨w.heap.size, 2, none⟩) (.inr (Nat.le_refl _)) _).alloc _
theorem getD_map_str (P : List ByteArray) (k : Nat) (h : k < P.length) : (P.map Value.string).toArray[k]? = some (.string (P.getD k ByteArray.empty)) := by
  simp [List.getD, h]
set_option maxHeartbeats 1000000 in
theorem command_len (s : ByteArray) (w : World) (he : Env w) (hs : s.size ≤ 1000000) (p0 : ByteArray) (P : List ByteArray) (hP : Lib.splitB ⟨#[32]⟩ 0 (Lib.countB s ⟨#[32]⟩) s = P) (h0 : P[0]? = some p0) (n : Nat) (hn : nums p0.data.toList = some n) (hl : P.length ≠ n + 1) :
    Calls Tryd.prog 22 #[.string s] w fun e w' => e = .returned (.tuple #[.agg #[.string ⟨#[]⟩, .int .i64 0, .int .i64 0], .int .i64 11]) ∧ Only [] w w' := by
  have HS := Lib.hid (fun W (hW : Env W) => split_all s W hW hs _ hP)
  have HN := Lib.hid (fun W => numbers_at p0 n hn W)
  have hn2 := nums_le _ _ hn
  have hpos : 0 < P.length := (List.getElem?_eq_some_iff.1 h0).1
  have hq : (P.map Value.string).toArray[0]? = some (.string p0) := by simp [h0]
  have hne : ((P.length : Int) != (n : Int) + 1) = true := by simp; omega
  generalize (P.map Value.string).toArray = cells at *
  generalize P.length = m at *
  clear hP hn hl
  go_enter Tryd.func22, Tryd.ntmps22
  go_wp2_with (first
    | (go_at_call 30; refine (HS.out _ (he.alloc _)).mono ?_; rintro e w1 ⟨rfl, rfl⟩)
    | (go_at_call 23; refine (HN.out _).mono ?_; rintro e w1 ⟨rfl, hO⟩; obtain ⟨b0, b1, b2, s0, s1, s2, hO1⟩ := three_blocks hO; have c0 := fun i => b0.cell i; have c2 := fun i => b2.cell i; have f0 := fun i => b0.frozen i; clear hO b1 b2))
  refine bodyPost_ret (results_row_tmp Tryd.results22 _ _ w.heap.size 41 #[.string ⟨#[]⟩, .int .i64 0, .int .i64 0] _ rfl ((((b0.set_ 0 _).set_ 1 _).set_ 2 _).alloc _) Tryd.underlying41 rfl (by kernel_rfl)) rfl ⟨rfl, ?_⟩
  exact (((hO1.setCell (p := ⟨w.heap.size, 0, none⟩) (.inr (Nat.le_refl _)) _).setCell (p := ⟨w.heap.size, 1, none⟩) (.inr (Nat.le_refl _)) _).setCell (p := ⟨w.heap.size, 2, none⟩) (.inr (Nat.le_refl _)) _).alloc _
set_option maxHeartbeats 1000000 in
theorem command_empty (s : ByteArray) (w : World) (he : Env w) (hs : s.size ≤ 1000000) (p0 : ByteArray) (P : List ByteArray) (hP : Lib.splitB ⟨#[32]⟩ 0 (Lib.countB s ⟨#[32]⟩) s = P) (h0 : P[0]? = some p0) (n : Nat) (hn : nums p0.data.toList = some n) (hl : P.length = n + 1) (j : Nat) (hj : j < P.length) (hall : ∀ i < j, (P.getD i ByteArray.empty).toList.isEmpty = false) (hje : (P.getD j ByteArray.empty).toList.isEmpty = true) :
    Calls Tryd.prog 22 #[.string s] w fun e w' => e = .returned (.tuple #[.agg #[.string ⟨#[]⟩, .int .i64 0, .int .i64 0], .int .i64 11]) ∧ Only [] w w' := by
  have HS := Lib.hid (fun W (hW : Env W) => split_all s W hW hs _ hP)
  have HN := Lib.hid (fun W => numbers_at p0 n hn W)
  have hn2 := nums_le _ _ hn
  have hpos : 0 < P.length := by omega
  have hq : (P.map Value.string).toArray[0]? = some (.string p0) := by simp [h0]
  have hcs := getD_map_str P
  generalize hxs : (fun k => P.getD k ByteArray.empty) = xs at *
  have hxs' : ∀ k, P.getD k ByteArray.empty = xs k := fun k => by rw [← hxs]
  simp only [hxs'] at hcs hje hall
  clear hxs hxs'
  generalize (P.map Value.string).toArray = cells at *
  have HCS := Lib.hid hcs
  have HJE := Lib.hid hje
  have HA := Lib.hid hall
  have hne : ((P.length : Int) != (n : Int) + 1) = false := by simp; omega
  generalize P.length = m at *
  have HL := Lib.hid hl
  clear hP hn hcs hje hall
  go_enter Tryd.func22, Tryd.ntmps22
  clear hl
  go_wp2_with (first
    | (go_at_call 30; refine (HS.out _ (he.alloc _)).mono ?_; rintro e w1 ⟨rfl, rfl⟩)
    | (go_at_call 23; refine (HN.out _).mono ?_; rintro e w1 ⟨rfl, hO⟩; obtain ⟨b0, b1, b2, s0, s1, s2, hO1⟩ := three_blocks hO; have c0 := fun i => b0.cell i; have c1 := fun i => b1.cell i; have c2 := fun i => b2.cell i; have f0 := fun i => b0.frozen i; clear hO b2))
  go_loopw [34] (fun i wr => ∃ k : Nat, k ≤ j ∧ i = .int .i64 k ∧ wr = w1.alloc (.cells #[.int .i64 n] 3)) (fun i _ => j - (intOf i).toNat)
  case atStart => exact ⟨0, by omega, rfl, rfl⟩
  case round =>
    obtain ⟨k, hk, rfl, rfl⟩ := hrel
    have hm3 : m ≤ 3 := by have := HL.out; omega
    have hkm : k < m := by omega
    have hc1 : (w1.alloc (.cells #[.int .i64 n] 3)).cell? ⟨w.heap.size + 1, k, none⟩ = some (.string (xs k)) := by
      rw [World.cell?_alloc_old _ _ _ (Nat.ne_of_lt s1), c1]; exact HCS.out k hkm
    by_cases hkj : k = j
    · have hke : (xs k).toList.isEmpty = true := by rw [hkj]; exact HJE.out
      clear hkj
      go_wp2_with fail
      refine bodyPost_ret (results_row_tmp Tryd.results22 _ _ w.heap.size 41 #[.string ⟨#[]⟩, .int .i64 0, .int .i64 0] _ rfl ((((b0.set_ 0 _).set_ 1 _).set_ 2 _).alloc _) Tryd.underlying41 rfl (by kernel_rfl)) rfl ⟨rfl, ?_⟩
      exact (((hO1.setCell (p := ⟨w.heap.size, 0, none⟩) (.inr (Nat.le_refl _)) _).setCell (p := ⟨w.heap.size, 1, none⟩) (.inr (Nat.le_refl _)) _).setCell (p := ⟨w.heap.size, 2, none⟩) (.inr (Nat.le_refl _)) _).alloc _
    · have hke : (xs k).toList.isEmpty = false := HA.out k (by omega)
      go_wp2_with fail
      go_roundw
      case rel => exact ⟨k + 1, by omega, by go_num, trivial⟩
      case measure =>
        simp [intOf]; omega
theorem three_new (w : World) (ca cb cc : Array Value) (ta tb tc : TypeId) :
    Blk (((w.alloc (.cells ca ta)).alloc (.cells cb tb)).alloc (.cells cc tc)) w.heap.size ta ca ∧ Blk (((w.alloc (.cells ca ta)).alloc (.cells cb tb)).alloc (.cells cc tc)) (w.heap.size + 1) tb cb ∧
      Blk (((w.alloc (.cells ca ta)).alloc (.cells cb tb)).alloc (.cells cc tc)) (w.heap.size + 1 + 1) tc cc := by
  obtain ⟨h0, h1, h2, _⟩ := three_blocks (Only.refl [] (((w.alloc (.cells ca ta)).alloc (.cells cb tb)).alloc (.cells cc tc)))
  exact ⟨h0, h1, h2⟩
set_option maxHeartbeats 2000000 in
theorem command_ok (s : ByteArray) (w : World) (he : Env w) (hs : s.size ≤ 1000000) (p0 : ByteArray) (P : List ByteArray) (hP : Lib.splitB ⟨#[32]⟩ 0 (Lib.countB s ⟨#[32]⟩) s = P) (h0 : P[0]? = some p0) (n : Nat) (hn : nums p0.data.toList = some n) (hl : P.length = n + 1) (hall : ∀ i < P.length, (P.getD i ByteArray.empty).toList.isEmpty = false)
    (hz : ∀ i, (P.getD i ByteArray.empty).size ≤ 1000000) (r1 r2 : Int × Int) (hr1 : nextR 1 n 0 (P.getD 1 ByteArray.empty) = r1) (hr2 : nextR 2 n r1.2 (P.getD 2 ByteArray.empty) = r2) :
    Calls Tryd.prog 22 #[.string s] w fun e w' => e = .returned (if r2.2 = 0 then .tuple #[.agg #[.string p0, .int .i64 r1.1, .int .i64 r2.1], .int .i64 0] else .tuple #[.agg #[.string ⟨#[]⟩, .int .i64 0, .int .i64 0], .int .i64 r2.2]) ∧ Only [] w w' := by
  have HS := Lib.hid (fun W (hW : Env W) => split_all s W hW hs _ hP)
  have HN := Lib.hid (fun W => numbers_at p0 n hn W)
  have hn2 := nums_le _ _ hn
  have hpos : 0 < P.length := by omega
  have hq : (P.map Value.string).toArray[0]? = some (.string p0) := by simp [h0]
  have hcs := getD_map_str P
  generalize hxs : (fun k => P.getD k ByteArray.empty) = xs at *
  have hxs' : ∀ k, P.getD k ByteArray.empty = xs k := fun k => by rw [← hxs]
  simp only [hxs'] at hcs hall hr1 hr2 hz
  clear hxs hxs'
  generalize (P.map Value.string).toArray = cells at *
  have HCS := Lib.hid hcs
  have HA := Lib.hid hall
  have HR1 := Lib.hid hr1
  have HR2 := Lib.hid hr2
  have HZ := Lib.hid hz
  obtain ⟨r1a, r1b⟩ := r1
  obtain ⟨r2a, r2b⟩ := r2
  have hne : ((P.length : Int) != (n : Int) + 1) = false := by simp; omega
  generalize P.length = m at *
  have HL := Lib.hid hl
  clear hP hn hcs hall hr1 hr2 hz
  go_enter Tryd.func22, Tryd.ntmps22
  clear hl
  go_wp2_with (first
    | (go_at_call 30; refine (HS.out _ (he.alloc _)).mono ?_; rintro e w1 ⟨rfl, rfl⟩)
    | (go_at_call 23; refine (HN.out _).mono ?_; rintro e w1 ⟨rfl, hO⟩; obtain ⟨b0, b1, b2, s0, s1, s2, hO1⟩ := three_blocks hO; have c0 := fun i => b0.cell i; have c1 := fun i => b1.cell i; have c2 := fun i => b2.cell i; have f0 := fun i => b0.frozen i; clear hO))
  go_loopw [34] (fun i wr => ∃ k : Nat, k ≤ m ∧ i = .int .i64 k ∧ wr = w1.alloc (.cells #[.int .i64 n] 3)) (fun i _ => m - (intOf i).toNat)
  case atStart => exact ⟨0, by omega, rfl, rfl⟩
  case round =>
    obtain ⟨k, hk, rfl, rfl⟩ := hrel
    have hm3 : m ≤ 3 := by have := HL.out; omega
    by_cases hkm : k < m
    · have hc1 : (w1.alloc (.cells #[.int .i64 n] 3)).cell? ⟨w.heap.size + 1, k, none⟩ = some (.string (xs k)) := by
        rw [World.cell?_alloc_old _ _ _ (Nat.ne_of_lt s1), c1]; exact HCS.out k hkm
      have hke : (xs k).toList.isEmpty = false := HA.out k hkm
      go_wp2_with fail
      go_roundw
      case rel => exact ⟨k + 1, by omega, by go_num, trivial⟩
      case measure =>
        simp [intOf]; omega
    · have HKM := Lib.hid (show k = m by omega)
      have hkm' : (m : Int) ≤ k := by omega
      have he1 := he.only hO1 (by simp)
      obtain ⟨d0, d1, d2⟩ := three_new w1 #[.int .i64 n] #[.string p0, .int .i64 0, .int .i64 0] #[.int .i64 0] 3 41 25
      have D1 := ((b1.alloc (.cells #[.int .i64 n] 3)).alloc (.cells #[.string p0, .int .i64 0, .int .i64 0] 41)).alloc (.cells #[.int .i64 0] 25)
      have D2 := ((b2.alloc (.cells #[.int .i64 n] 3)).alloc (.cells #[.string p0, .int .i64 0, .int .i64 0] 41)).alloc (.cells #[.int .i64 0] 25)
      have HD := Lib.hid (And.intro d0 (And.intro d1 (And.intro d2 (And.intro D1 D2))))
      clear d0 d1 d2 D1 D2
      go_wp2_with (first
        | (go_at_call 31
           with_reducible show Calls _ _ #[.int .i64 2, _, _, _] _ _
           refine (next_two n r1b (w1.heap.size) (w1.heap.size + 1 + 1) (w.heap.size + 2) (w.heap.size + 1) m m (xs 2) (r2a, r2b) _ (he2.only ((Only.refl [w1.heap.size + 1] w2).setCell (.inl (by simp)) _) (by simp; have := he1.size; omega)) (by simpa using (k0.far (p := ⟨w1.heap.size + 1, 1, none⟩) (by simp) (.int .i64 r1a)).cell 0) (e2.far (by simp) _)
             (by simpa using (k3.far (p := ⟨w1.heap.size + 1, 1, none⟩) (by simp; omega) (.int .i64 r1a)).cell 0) (by have := HL.out; omega) (fun hi => by rw [(k2.far (p := ⟨w1.heap.size + 1, 1, none⟩) (by simp; omega) (.int .i64 r1a)).cell]; exact HCS.out 2 (by have := HL.out; omega)) (HZ.out 2) HR2.out).mono ?_
           rintro r w3 ⟨rfl, hO4, e3⟩
           have hO5 := (hO3.setCell (p := ⟨w1.heap.size + 1, 1, none⟩) (.inr (by simp; omega)) (.int .i64 r1a)).trans hO4 (by simp; omega)
           have y0 := (kb.far (p := ⟨w1.heap.size + 1, 1, none⟩) (by simp; omega) (.int .i64 r1a)).only hO4 (by simp; omega)
           have y1 := (k1.set_ 1 (.int .i64 r1a)).only hO4 (by simp)
           have cy0 := fun i => y0.cell i
           have fy0 := fun i => y0.frozen i
           have cy1 := fun i => y1.cell i
           have fy1 := fun i => y1.frozen i
           have cy3 := fun i => e3.cell i
           have zy3 := e3.lt
           have zy0 := y0.lt
           clear cd1 fd1 c0 c1 c2 f0)
        | (go_at_call 31
           with_reducible show Calls _ _ #[.int .i64 1, _, _, _] _ _
           refine (next_one n _ _ _ (w.heap.size + 1) m m (xs 1) (r1a, r1b) _ (((he1.alloc _).alloc _).alloc _) (by simpa using HD.out.1.cell 0) HD.out.2.2.1 (by simpa using HD.out.2.2.2.2.cell 0) (by have := HL.out; omega) (fun hi => by rw [HD.out.2.2.2.1.cell]; exact HCS.out 1 (by have := HL.out; omega)) (HZ.out 1) HR1.out).mono ?_
           rintro r w2 ⟨rfl, hO2, e2⟩
           have kb := (((b0.alloc (.cells #[.int .i64 n] 3)).alloc (.cells #[.string p0, .int .i64 0, .int .i64 0] 41)).alloc (.cells #[.int .i64 0] 25)).only hO2 (by simp; omega)
           have k0 := HD.out.1.only hO2 (by simp; omega)
           have k1 := HD.out.2.1.only hO2 (by simp)
           have k2 := HD.out.2.2.2.1.only hO2 (by simp; omega)
           have k3 := HD.out.2.2.2.2.only hO2 (by simp; omega)
           have hO3 := (((hO1.alloc _).alloc _).alloc _).trans hO2 (by simp; omega)
           have he2 := he.only hO3 (by simp)
           have z2 := e2.lt
           have cd1 := fun i => k1.cell i
           have fd1 := fun i => k1.frozen i
           simp only [] at e2))
      · go_region
        all_goals go_wp2
        · simp_all
        · refine bodyPost_ret (results_row_tmp Tryd.results22 _ _ w.heap.size 41 #[.string ⟨#[]⟩, .int .i64 0, .int .i64 0] _ rfl ((((y0.far (p := ⟨w1.heap.size + 1, 2, none⟩) (by simp; omega) _).set_ 0 _).set_ 1 _).set_ 2 _).drew Tryd.underlying41 rfl (by kernel_rfl)) rfl ⟨rfl, ?_⟩
          exact ((((hO5.setCell (p := ⟨w1.heap.size + 1, 2, none⟩) (.inr (by simp; omega)) _).setCell (p := ⟨w.heap.size, 0, none⟩) (.inr (Nat.le_refl _)) _).setCell (p := ⟨w.heap.size, 1, none⟩) (.inr (Nat.le_refl _)) _).setCell (p := ⟨w.heap.size, 2, none⟩) (.inr (Nat.le_refl _)) _).drew
      · refine bodyPost_ret (results_row_tmp Tryd.results22 _ _ w.heap.size 41 #[.string p0, .int .i64 r1a, .int .i64 r2a] _ rfl ((((y0.far (p := ⟨w1.heap.size + 1, 2, none⟩) (by simp; omega) _).set_ 0 _).set_ 1 _).set_ 2 _) Tryd.underlying41 rfl (by kernel_rfl)) rfl ⟨rfl, ?_⟩
        exact ((((hO5.setCell (p := ⟨w1.heap.size + 1, 2, none⟩) (.inr (by simp; omega)) _).setCell (p := ⟨w.heap.size, 0, none⟩) (.inr (Nat.le_refl _)) _).setCell (p := ⟨w.heap.size, 1, none⟩) (.inr (Nat.le_refl _)) _).setCell (p := ⟨w.heap.size, 2, none⟩) (.inr (Nat.le_refl _)) _)
      · simp_all
end Go.Proofs.YtmebolbjidjajaaDoor
