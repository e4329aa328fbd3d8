/- The row's tie, fact by fact (in one theorem they need more than 10 GB). -/
import Derived.Test.YtchkdidpnjakeaaGreatDoorRows
import Derived.LaidByTextLater
import Derived.SevenTiedAt
namespace Go.Proofs.YtchkdidpnjakeaaGreatDoor
open Go
def tLaid : List (String × DataW Unit) := [("math/bits.deBruijn32tab", Rows.laid_math_bits_deBruijn32tab), ("math/bits.deBruijn64tab", Rows.laid_math_bits_deBruijn64tab), ("internal/strconv.uint64pow10", Rows.laid_internal_strconv_uint64pow10), ("strconv.ErrRange", Rows.laid_strconv_ErrRange), ("strconv.ErrSyntax", Rows.laid_strconv_ErrSyntax), ("supercargo/field.kinds", Rows.laid_supercargo_field_kinds), ("supercargo/post.kinds", Rows.laid_supercargo_post_kinds)]
theorem t1 : Tryz.prog.worded (varsWordLater true) = true := by kernel_rfl
theorem t2 : Tryz.prog.worded (varsWordLater !true) = false := by kernel_rfl
theorem t3 : Tryz.prog.worded rootWordLater = true := by kernel_rfl
theorem t4 : tLaid.map (fun x => Tryz.prog.kindOfLater x.1) = ([.data, .data, .data, .sentinel, .sentinel, .data, .data] : List LaidKind).map some := by kernel_rfl
theorem t5 : (Tryz.prog.funcNamed "gosem.cut.vars").isSome = true := by kernel_rfl
theorem t6 : varsNamedLaterB Tryz.prog (varsId Tryz.prog) tLaid = true := by kernel_rfl
theorem t7 : ∀ os tape, varsDone Tryz.prog 400 (varsId Tryz.prog) os tape = true := fun _ _ => by kernel_rfl
theorem t10 : (tLaid.all fun x => x.2.handleName?.isNone) = true := by kernel_rfl
end Go.Proofs.YtchkdidpnjakeaaGreatDoor
