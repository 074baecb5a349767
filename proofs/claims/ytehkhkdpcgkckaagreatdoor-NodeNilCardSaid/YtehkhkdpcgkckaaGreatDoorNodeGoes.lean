/- No body of the whole translation starts a goroutine. By an AI agent. -/
import Derived.Test.YtehkhkdpcgkckaaGreatDoorRows
import GoSem.ClaimSeven
import Derived.KernelRfl
namespace Go.Proofs.YtehkhkdpcgkckaaGreatDoor
open Go
theorem go1 : ((Tryz.prog.funcs.toList.take 120).all fun fn => !fn.goes) = true := by kernel_rfl
theorem go2 : (((Tryz.prog.funcs.toList.drop 120).take 120).all fun fn => !fn.goes) = true := by kernel_rfl
theorem go3 : (((Tryz.prog.funcs.toList.drop 120).drop 120).all fun fn => !fn.goes) = true := by kernel_rfl
theorem all_parts {α : Type} (p : α → Bool) (l : List α) (n : Nat) (h1 : (l.take n).all p = true) (h2 : (l.drop n).all p = true) : l.all p = true := by
  rw [← List.take_append_drop n l, List.all_append, h1, h2]; rfl
theorem goAll : (Tryz.prog.funcs.toList.all fun fn => !fn.goes) = true := all_parts _ _ 120 go1 (all_parts _ _ 120 go2 go3)
theorem goes_none {P : Program} (h : (P.funcs.toList.all fun fn => !fn.goes) = true) (f : FuncId) : P.goes f = false := by
  have h1 : ∀ fn ∈ P.funcs, fn.goes = false := fun fn hf => by
    have := List.all_eq_true.1 h fn (Array.mem_toList_iff.2 hf)
    simpa using this
  unfold Program.goes
  rw [Bool.or_eq_false_iff]
  constructor
  · rw [Bool.eq_false_iff]
    intro hc
    simp only [List.any_eq_true] at hc
    obtain ⟨g, _, hg⟩ := hc
    cases hfn : P.funcs[g]? with
    | none => rw [hfn] at hg; simp at hg
    | some fn =>
      rw [hfn] at hg
      simp only [Option.any_some] at hg
      rw [h1 fn (Array.mem_of_getElem? hfn)] at hg
      cases hg
  · have : P.funcs.any Func.goes = false := by
      rw [Bool.eq_false_iff]
      intro hc
      rw [Array.any_eq_true'] at hc
      obtain ⟨fn, hm, hg⟩ := hc
      rw [h1 fn hm] at hg
      cases hg
    rw [this, Bool.and_false]
theorem goesB : false = Rows.nodeNilRow.goesBy Tryz.prog := by
  have hs : Rows.nodeNilRow.start = .entering := rfl
  unfold OpenClaim.goesBy Program.goesAt Program.goesFrom
  rw [hs]
  cases Tryz.prog.funcNamed Rows.nodeNilRow.func with
  | none => rfl
  | some f => simp [goes_none goAll f]
end Go.Proofs.YtehkhkdpcgkckaaGreatDoor
