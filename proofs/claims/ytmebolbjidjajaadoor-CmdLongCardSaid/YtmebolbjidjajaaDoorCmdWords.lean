/-
  punnet/cmd.words: the table of words, by its operations: what it hands back, and that it turns nothing that was there.
-/
import Derived.Test.YtmebolbjidjajaaDoorProg
import Derived.Test.YtmebolbjidjajaaDoorMem
import Derived.WalkKit
import Derived.WalkSpells
import Derived.WalkLawsBesides
import Derived.Handy
import Derived.Great.BuildSlice
import Derived.Deep.WholeRow
set_option linter.unusedSimpArgs false
namespace Go.Proofs.YtmebolbjidjajaaDoor
open Go.RowKit
def bs (l : List UInt8) : Value := .string ⟨l.toArray⟩
def wordList : List (List UInt8 × Nat) := [([105, 110, 115, 101, 114, 116], 1), ([100, 101, 108, 101, 116, 101], 1), ([104, 97, 115], 1), ([108, 101, 110], 0), ([107, 101, 121, 115], 0), ([102, 108, 111, 111, 114], 1), ([99, 101, 105, 108], 1), ([102, 105, 114, 115, 116], 0), ([97, 102, 116, 101, 114], 1), ([97, 104, 101, 97, 100], 1), ([114, 101, 109, 111, 118, 101], 1), ([98, 101, 102, 111, 114, 101], 2), ([108, 97, 98, 101, 108], 1), ([104, 97, 110, 100, 108, 101, 115], 0), ([114, 97, 110, 107], 1), ([115, 101, 108, 101, 99, 116], 1), ([99, 111, 117, 110, 116], 2)]
def wordCells : Array Value := (wordList.flatMap fun x => [bs x.1, Value.int .i64 x.2]).toArray
def wordZero : Array Value := (List.replicate 17 [Value.string ByteArray.empty, .int .i64 0]).flatten.toArray
theorem zw : (Tryd.prog.info? 78).map (fun i => (i.zero, i.size)) = some (some (.agg wordZero), 34) := by kernel_rfl

set_option maxRecDepth 100000
set_option maxHeartbeats 400000 in
theorem words_any (w : World) :
    Calls Tryd.prog 33 #[] w fun e w' => e = .returned (.agg wordCells) ∧ Only [] w w' := by
  refine calls_of_wp Tryd.func33 rfl ?_
  simp only [Tryd.ntmps33, List.size_toArray, List.length_cons, List.length_nil, Nat.reduceAdd, Nat.reduceSub, Array.replicate_succ,
     Array.replicate_zero, List.push_toArray, List.append_toArray, List.nil_append, List.cons_append]
  apply wp_seq_k; intro K hK
  apply wp_region_lit
  go_step
  go_step
  go_step
  go_step
  go_step
  go_step
  have hB := Blk.new w 78 wordZero
  have hO := (Only.refl [] w).alloc (.cells wordZero 78)
  generalize hW : w.alloc (Obj.cells _ 78) = W
  have hW' : w.alloc (.cells wordZero 78) = W := by rw [← hW]; rfl
  rw [hW'] at hB hO
  clear hW hW'
  obtain ⟨g, hgg⟩ : ∃ g, g = w.heap.size := ⟨_, rfl⟩
  have hg : w.heap.size ≤ g := by omega
  rw [← hgg] at hB ⊢
  clear hgg
  apply wp_seq_k; intro K hK
  apply wp_region_lit
  refine wpList_buildTo rfl 77 _ rfl (some 1) rfl #[bs [105, 110, 115, 101, 114, 116], .int .i64 1] (by kernel_rfl) ?_
  refine wpList_buildTo rfl 77 _ rfl (some 2) rfl #[bs [100, 101, 108, 101, 116, 101], .int .i64 1] (by kernel_rfl) ?_
  refine wpList_buildTo rfl 77 _ rfl (some 3) rfl #[bs [104, 97, 115], .int .i64 1] (by kernel_rfl) ?_
  refine wpList_buildTo rfl 77 _ rfl (some 4) rfl #[bs [108, 101, 110], .int .i64 0] (by kernel_rfl) ?_
  refine wpList_buildTo rfl 77 _ rfl (some 5) rfl #[bs [107, 101, 121, 115], .int .i64 0] (by kernel_rfl) ?_
  refine wpList_buildTo rfl 77 _ rfl (some 6) rfl #[bs [102, 108, 111, 111, 114], .int .i64 1] (by kernel_rfl) ?_
  refine wpList_buildTo rfl 77 _ rfl (some 7) rfl #[bs [99, 101, 105, 108], .int .i64 1] (by kernel_rfl) ?_
  refine wpList_buildTo rfl 77 _ rfl (some 8) rfl #[bs [102, 105, 114, 115, 116], .int .i64 0] (by kernel_rfl) ?_
  refine wpList_buildTo rfl 77 _ rfl (some 9) rfl #[bs [97, 102, 116, 101, 114], .int .i64 1] (by kernel_rfl) ?_
  refine wpList_buildTo rfl 77 _ rfl (some 10) rfl #[bs [97, 104, 101, 97, 100], .int .i64 1] (by kernel_rfl) ?_
  refine wpList_buildTo rfl 77 _ rfl (some 11) rfl #[bs [114, 101, 109, 111, 118, 101], .int .i64 1] (by kernel_rfl) ?_
  refine wpList_buildTo rfl 77 _ rfl (some 12) rfl #[bs [98, 101, 102, 111, 114, 101], .int .i64 2] (by kernel_rfl) ?_
  refine wpList_buildTo rfl 77 _ rfl (some 13) rfl #[bs [108, 97, 98, 101, 108], .int .i64 1] (by kernel_rfl) ?_
  refine wpList_buildTo rfl 77 _ rfl (some 14) rfl #[bs [104, 97, 110, 100, 108, 101, 115], .int .i64 0] (by kernel_rfl) ?_
  refine wpList_buildTo rfl 77 _ rfl (some 15) rfl #[bs [114, 97, 110, 107], .int .i64 1] (by kernel_rfl) ?_
  refine wpList_buildTo rfl 77 _ rfl (some 16) rfl #[bs [115, 101, 108, 101, 99, 116], .int .i64 1] (by kernel_rfl) ?_
  refine wpList_buildTo rfl 77 _ rfl (some 17) rfl #[bs [99, 111, 117, 110, 116], .int .i64 2] (by kernel_rfl) ?_
  refine wpList_frame (a' := ⟨#[Value.pointer (some ⟨g, 0, none⟩), (.agg #[bs [105, 110, 115, 101, 114, 116], .int .i64 1]), (.agg #[bs [100, 101, 108, 101, 116, 101], .int .i64 1]), (.agg #[bs [104, 97, 115], .int .i64 1]), (.agg #[bs [108, 101, 110], .int .i64 0]), (.agg #[bs [107, 101, 121, 115], .int .i64 0]), (.agg #[bs [102, 108, 111, 111, 114], .int .i64 1]), (.agg #[bs [99, 101, 105, 108], .int .i64 1]), (.agg #[bs [102, 105, 114, 115, 116], .int .i64 0]), (.agg #[bs [97, 102, 116, 101, 114], .int .i64 1]), (.agg #[bs [97, 104, 101, 97, 100], .int .i64 1]), (.agg #[bs [114, 101, 109, 111, 118, 101], .int .i64 1]), (.agg #[bs [98, 101, 102, 111, 114, 101], .int .i64 2]), (.agg #[bs [108, 97, 98, 101, 108], .int .i64 1]), (.agg #[bs [104, 97, 110, 100, 108, 101, 115], .int .i64 0]), (.agg #[bs [114, 97, 110, 107], .int .i64 1]), (.agg #[bs [115, 101, 108, 101, 99, 116], .int .i64 1]), (.agg #[bs [99, 111, 117, 110, 116], .int .i64 2]), undef], []⟩) (by kernel_rfl) ?_
  refine wpList_buildTo rfl 78 _ rfl (some 18) rfl wordCells (by kernel_rfl) ?_
  refine wpList_frame (a' := ⟨#[Value.pointer (some ⟨g, 0, none⟩), (.agg #[bs [105, 110, 115, 101, 114, 116], .int .i64 1]), (.agg #[bs [100, 101, 108, 101, 116, 101], .int .i64 1]), (.agg #[bs [104, 97, 115], .int .i64 1]), (.agg #[bs [108, 101, 110], .int .i64 0]), (.agg #[bs [107, 101, 121, 115], .int .i64 0]), (.agg #[bs [102, 108, 111, 111, 114], .int .i64 1]), (.agg #[bs [99, 101, 105, 108], .int .i64 1]), (.agg #[bs [102, 105, 114, 115, 116], .int .i64 0]), (.agg #[bs [97, 102, 116, 101, 114], .int .i64 1]), (.agg #[bs [97, 104, 101, 97, 100], .int .i64 1]), (.agg #[bs [114, 101, 109, 111, 118, 101], .int .i64 1]), (.agg #[bs [98, 101, 102, 111, 114, 101], .int .i64 2]), (.agg #[bs [108, 97, 98, 101, 108], .int .i64 1]), (.agg #[bs [104, 97, 110, 100, 108, 101, 115], .int .i64 0]), (.agg #[bs [114, 97, 110, 107], .int .i64 1]), (.agg #[bs [115, 101, 108, 101, 99, 116], .int .i64 1]), (.agg #[bs [99, 111, 117, 110, 116], .int .i64 2]), (.agg wordCells)], []⟩) (by kernel_rfl) ?_
  refine wpList_store_rowTo rfl 78 _ _ rfl rfl g wordCells rfl rfl 78 wordZero hB (by kernel_rfl) (by kernel_rfl) (by kernel_rfl) ?_
  apply wpList_nil
  apply hK
  apply wp_ret
  refine bodyPost_ret (results_cell_row Tryd.results33 _ _ g 78 wordCells (0, 0) (TypeDesc.array 17 77) rfl (hB.setRow _) Tryd.underlying78 rfl (by kernel_rfl)) rfl ⟨rfl, ?_⟩
  exact hO.setRow (.inr hg) _
end Go.Proofs.YtmebolbjidjajaaDoor
