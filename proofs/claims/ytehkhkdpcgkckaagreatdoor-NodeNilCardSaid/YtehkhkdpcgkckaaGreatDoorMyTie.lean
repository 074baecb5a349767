/- The program's tie, part by part. By an AI agent. -/
import Derived.Test.YtehkhkdpcgkckaaGreatDoorRows
import Derived.LaidByTextLater
import Derived.SevenTiedAt
namespace Go.Proofs.YtehkhkdpcgkckaaGreatDoor
open Go
theorem myNoOwnUnsafe : Tryz.pinned.checked.prog.headLifts.contains "ownunsafe" = false := by kernel_rfl
def myLaid : List (String × DataW Unit) := [("errors.errorType", Rows.laid_errors_errorType), ("redoubt/pmtu.heads", Rows.laid_redoubt_pmtu_heads), ("redoubt/digest.constants", Rows.laid_redoubt_digest_constants), ("internal/strconv.uint64pow10", Rows.laid_internal_strconv_uint64pow10), ("math/bits.deBruijn32tab", Rows.laid_math_bits_deBruijn32tab), ("math/bits.deBruijn64tab", Rows.laid_math_bits_deBruijn64tab)]
theorem t1 : Tryz.prog.worded (varsWordLater true) = true := by kernel_rfl
theorem t2 : Tryz.prog.worded (varsWordLater !true) = false := by kernel_rfl
theorem t3 : Tryz.prog.worded rootWordLater = true := by kernel_rfl
theorem t4 : myLaid.map (fun x => Tryz.prog.kindOfLater x.1) = ([.handle, .data, .data, .data, .data, .data] : List LaidKind).map some := by kernel_rfl
theorem t5 : (Tryz.prog.funcNamed "gosem.cut.vars").isSome = true := by kernel_rfl
theorem t6 : varsNamedLaterB Tryz.prog (varsId Tryz.prog) myLaid = true := by kernel_rfl
theorem t7 (os tape) : varsDone Tryz.prog 400 (varsId Tryz.prog) os tape = true := by kernel_rfl
theorem t8 (os tape) : (DataW.laidRun Tryz.prog (varsWorld Tryz.prog 400 (varsId Tryz.prog) os tape).memory 8 ((myLaid.filter fun x => x.2.handleName?.isNone).map (·.1))).map (·.1) = some (myLaid.filter fun x => x.2.handleName?.isNone) := by kernel_rfl
theorem t9 (os tape) : (DataW.laidRun Tryz.prog (varsWorld Tryz.prog 400 (varsId Tryz.prog) os tape).memory 8 ((myLaid.filter fun x => x.2.handleName?.isNone).map (·.1))).map (fun x => decide x.2.Nodup && laidRowsB Tryz.prog (varsWorld Tryz.prog 400 (varsId Tryz.prog) os tape).memory x.2) = some true := by kernel_rfl
theorem t10 (os tape) : (myLaid.filter fun x => x.2.handleName?.isSome).all (handleAtB Tryz.prog (varsWorld Tryz.prog 400 (varsId Tryz.prog) os tape).memory) = true := by kernel_rfl
theorem myTie : Tryz.prog.laidByTextLater myLaid [.handle, .data, .data, .data, .data, .data] true :=
  Program.laidByTextLater_by_run_h 400 8 t1 t2 t3 t4 t5 t6 t7 t8 t9 t10
theorem myRowTie : Rows.nodeNilRow.laidByTextAt .later Tryz.pinned [.handle, .data, .data, .data, .data, .data] true :=
  OpenClaim.laidByTextAt_later rfl rfl myTie myNoOwnUnsafe
end Go.Proofs.YtehkhkdpcgkckaaGreatDoor
