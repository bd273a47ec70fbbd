/-
  What the library's own package-level variables hold, said of any world ('Env'); kept by whatever turns no block of theirs.
  The library's contracts that need it, said over 'Env' and 'Only'.
-/
import Derived.Test.YtmebolbjidjajaaDoorMem
import Derived.Test.YtmebolbjidjajaaDoorShelf
import Derived.Shelf.Strings.SlTrimAscii
import Derived.Lib.LaidTab
set_option maxRecDepth 100000
namespace Go.Proofs.YtmebolbjidjajaaDoor
open Go Go.RowKit
/-- How many blocks the package-level variables take. -/
def ng : Nat := 8
structure Env (w : World) : Prop where
  size : ng ≤ w.heap.size
  maxLen : ∃ m, w.cell? ⟨0, 0, none⟩ = some (.int .i64 m)
  pow10 : Lib.TabIs Tryd.prog w "internal/strconv.uint64pow10" .u64 Lib.pow10Tab
  errSyntax : ∃ t p, w.var? Tryd.prog "strconv.ErrSyntax" = some #[.iface t p]
  errRange : ∃ t p, w.var? Tryd.prog "strconv.ErrRange" = some #[.iface t p]
theorem glob_pow10 : Tryd.prog.globalNamed "internal/strconv.uint64pow10" = some 1 := by kernel_rfl
theorem glob_syntax : Tryd.prog.globalNamed "strconv.ErrSyntax" = some 2 := by kernel_rfl
theorem glob_range : Tryd.prog.globalNamed "strconv.ErrRange" = some 3 := by kernel_rfl
theorem var_same {w w' : World} {g : Nat} {n : String} (hn : Tryd.prog.globalNamed n = some g) (h : w'.heap[g]? = w.heap[g]?) : w'.var? Tryd.prog n = w.var? Tryd.prog n := by
  unfold World.var?
  rw [hn]
  simp only [Option.bind_some, h]
theorem Env.same {w w' : World} (he : Env w) (hs : w.heap.size ≤ w'.heap.size) (h : ∀ k, k < ng → w'.heap[k]? = w.heap[k]?) : Env w' := by
  obtain ⟨h0, ⟨m, h1⟩, h2, ⟨t, p, h3⟩, ⟨t', p', h4⟩⟩ := he
  refine ⟨by omega, ⟨m, ?_⟩, ?_, ⟨t, p, ?_⟩, ⟨t', p', ?_⟩⟩
  · exact (World.cell?_of_block (h _ (by decide))).trans h1
  · exact (var_same glob_pow10 (h _ (by decide))).trans h2
  · exact (var_same glob_syntax (h _ (by decide))).trans h3
  · exact (var_same glob_range (h _ (by decide))).trans h4
theorem Env.only {S : List Nat} {w w' : World} (he : Env w) (h : Only S w w') (hs : ∀ k ∈ S, ng ≤ k) : Env w' :=
  he.same h.size fun k hk => h.block k (Nat.lt_of_lt_of_le hk he.size) fun hm => by have := hs k hm; omega
theorem Env.only_nil {w w' : World} (he : Env w) (h : Only [] w w') : Env w' := he.only h (by simp)
theorem Env.alloc {w : World} (he : Env w) (o : Obj) : Env (w.alloc o) := he.only_nil ((Only.refl [] w).alloc o)
theorem Env.drew {w : World} (he : Env w) : Env w.drew := he.only_nil ((Only.refl [] w).drew)
theorem Env.drewN {w : World} (he : Env w) (n : Nat) : Env (w.drewN n) := he.only_nil ((Only.refl [] w).drewN n)
theorem Env.below {w w' : World} {B : Nat} (he : Env w) (h : Below B w w') (hB : ng ≤ B) : Env w' := he.same h.size fun k hk => h.block k (by omega)

theorem itoa_any (n : Int) (h0 : -9223372036854775808 ≤ n) (h1 : n ≤ 9223372036854775807) (w : World) (he : Env w) :
    Calls Tryd.prog 24 #[.int .i64 n] w fun e w' => e = .returned (.string ⟨(Lib.itoa n).toArray⟩) ∧ Only [] w w' :=
  (Tryd.strconv_Itoa n h0 h1 w he.pow10).mono fun _ _ ⟨h, k, os, hw⟩ => ⟨h, by
    rw [hw]
    refine ⟨rfl, rfl, rfl, by simp [Sort.grow, World.drewN], fun i hi _ => ?_⟩
    show (w.heap ++ os)[i]? = _
    rw [Array.getElem?_append, if_pos hi]⟩
/-- What strconv.Atoi's answer comes to, as far as a caller that asks 'err != nil' sees it. -/
def atoiErr : Value → Bool → Prop := fun v b => (b = true ∧ ∃ t a, v = .iface t (.pointer (some a))) ∨ (b = false ∧ v = .nilIface)
theorem split_any (s sep : ByteArray) (w : World) (he : Env w) (hs : s.size < 4294967281) (h1 : 1 ≤ sep.size) :
    Calls Tryd.prog 30 #[.string s, .string sep] w fun e w' =>
      e = .returned (.slice (some ⟨w.heap.size, 0, none⟩) (Lib.countB s sep + 1) (Lib.countB s sep + 1)) ∧ w' = w.alloc (.cells ((Lib.splitB sep 0 (Lib.countB s sep) s).map Value.string).toArray 9) := by
  obtain ⟨m, hm⟩ := he.maxLen
  exact Tryd.strings_Split s sep m w hs hm h1
theorem set_info : (Tryd.prog.info? 90).map (fun i => (i.zero, i.size)) = some (some (.agg (Array.replicate 256 (.bool false))), 256) := by kernel_rfl
theorem trim_any (s cutset : ByteArray) (w : World) (hs : s.size ≤ 9223372036854775807) (hcs : cutset.size < 4294967281) (hascii : cutset.data.toList.all (fun b => decide (b.toNat < 128)) = true) :
    Calls Tryd.prog 40 #[.string s, .string cutset] w fun e w' => e = .returned (.string ⟨(Lib.trimS s.data.toList cutset.data.toList).toArray⟩) ∧ Only [] w w' :=
  (Any.strings_Trim_laid Tryd.laysT160 set_info s cutset w hs hcs (fun _ b hb => of_decide_eq_true (List.all_eq_true.1 hascii b (List.mem_of_getElem? hb)))).mono fun _ _ ⟨h, hw⟩ => ⟨h, Only.of_below hw⟩
end Go.Proofs.YtmebolbjidjajaaDoor
