/-
  What a row's list and the world's shape give: the library's package-level variables hold what 'Env' asks.
-/
import Derived.Test.YtmebolbjidjajaaDoorEnv
import Derived.Test.YtmebolbjidjajaaDoorRows
import Derived.Stop.LaidErr
import Derived.Lib.LaidU8
import Derived.Shelf.Vars
import Derived.MakeChecks
set_option maxRecDepth 100000
namespace Go.Proofs.YtmebolbjidjajaaDoor
open Go Go.RowKit Go.ChangeShapes
theorem gPow : (Tryd.prog.globals[1]?).map (·.type) = some 112 := by kernel_rfl
theorem gSyn : (Tryd.prog.globals[2]?).map (·.type) = some 49 := by kernel_rfl
theorem gRan : (Tryd.prog.globals[3]?).map (·.type) = some 49 := by kernel_rfl
theorem cellsPow : Tryd.prog.cellsOf 112 = 20 := by kernel_rfl
theorem cellsU64 : Tryd.prog.cellsOf 68 = 1 := by kernel_rfl
theorem cellsErr : Tryd.prog.cellsOf 136 = 1 := by kernel_rfl
theorem cellsStr : Tryd.prog.cellsOf 9 = 1 := by kernel_rfl
theorem star : "*" ++ "errors.errorString" = "*errors.errorString" := by decide
theorem rowErr (u : TypeId) (h : Tryd.prog.typeName? 3 u = some "*errors.errorString") : u = 134 :=
  typeName_ptr_named (nm := "errors.errorString") (by rw [star]; kernel_rfl) (by kernel_rfl) (by decide) u (by rw [star]; exact h)
/-- The rows' list. -/
noncomputable def laidList : List (String × DataW Unit) := Rows.cmdPrintsRow.laid
theorem env_laid {W : World} (h : laidMetH Tryd.prog laidList W) (hsh : W.ShapedOpen Tryd.prog) : Env W := by
  rw [Go.MakeChecks.laidMetH_plain _ _ _ (by kernel_rfl)] at h
  have h1 : laidMet Tryd.prog (("math/bits.deBruijn32tab", Rows.laid_math_bits_deBruijn32tab) :: ("math/bits.deBruijn64tab", Rows.laid_math_bits_deBruijn64tab) :: ("internal/strconv.uint64pow10", Lib.tabData .u64 Lib.pow10Tab) :: ("unicode/utf8.acceptRanges", Rows.laid_unicode_utf8_acceptRanges) :: ("strconv.ErrRange", Rows.laid_strconv_ErrRange) :: ("strconv.ErrSyntax", Rows.laid_strconv_ErrSyntax) :: ("unicode/utf8.first", Rows.laid_unicode_utf8_first) :: []) W := h
  obtain ⟨a0, s0, e0, _⟩ := laid_sentinel h1.tail.tail.tail.tail glob_range gRan Tryd.underlying49 rowErr Tryd.underlying134 Tryd.underlying136 rfl rfl Tryd.underlying9 cellsErr cellsStr
  obtain ⟨a1, s1, e1, _⟩ := laid_sentinel h1.tail.tail.tail.tail.tail glob_syntax gSyn Tryd.underlying49 rowErr Tryd.underlying134 Tryd.underlying136 rfl rfl Tryd.underlying9 cellsErr cellsStr
  refine ⟨?_, ?_, Lib.tabIs_of_head glob_pow10 gPow Tryd.underlying112 Tryd.underlying68 cellsU64 cellsPow h1.tail.tail, ⟨_, _, e1⟩, ⟨_, _, e0⟩⟩
  · obtain ⟨o, _, ho, _⟩ := hsh.2 8 (of_decide_eq_true (by kernel_rfl)) (of_decide_eq_true (by kernel_rfl))
    have := (Array.getElem?_eq_some_iff.1 ho).1
    unfold ng at this ⊢
    omega
  · exact Go.Proofs.cell_of_shapedOpen_int (zero := #[.int .i64 0]) (t := 3) hsh (of_decide_eq_true (by kernel_rfl)) (by kernel_rfl) rfl (by kernel_rfl) (by kernel_rfl) Tryd.underlying3
end Go.Proofs.YtmebolbjidjajaaDoor
