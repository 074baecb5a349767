/- Nil connections answer ErrNil, and the layer is awake: whatever the numbers and the segment. By an AI agent. -/
import Derived.Test.YtgionicpjjjonaaEvE
import Derived.Test.YtgionicpjjjonaaRows
import Derived.KernelRfl
namespace Go.Proofs.Ytgionicpjjjonaa
open Go Go.Eng

noncomputable def nilCtx : Ctx := { P := Try.prog, sums := fun _ => none }
theorem nil_run : isTrue (ev nilCtx 1000 (.call 3 ((#[3, 3, 24] : Array Nat).toList.map (junkOf Try.prog)) Heap.empty)) = true := by kernel_rfl
theorem nil_good (W : World) : Eng.Good (Base.mk nilCtx W (fun _ => False)) := good_plain (by kernel_rfl) (by kernel_rfl) (fun _ => rfl)
theorem nil_own : ownKnob Try.prog.godebug = none := by kernel_rfl
theorem nil_laidOut : laidOutB Try.prog = true := by kernel_rfl

set_option maxRecDepth 100000 in
theorem nil_lifted (os : Os) (started : os.Started) (H : Type) (enc : TypeId × Value → H) :
    ReturnsInHanded {} Try.checked os 3 .any (Rows.tcpNilSpec.pre6 enc Try.prog Try.f3 Rows.tcpNilRow.domain false) (Rows.tcpNilSpec.post enc Try.prog Try.f3 false true false false) := by
  refine lifted (C := Try.checked) (t := 4) nil_own started (by kernel_rfl) Try.func3
    (ChangeSpec.witness6 (enc := enc) (C := Try.checked) false ⟨#[], #[.int .i64 0, .int .i64 0, .agg #[.int .i64 0, .int .i64 0, .int .i64 0, .int .i64 0, .int .i64 0, .int .i64 0, .int .i64 0, .string .empty, .slice none 0 0]], []⟩ 8 (by kernel_rfl) (by kernel_rfl) (by kernel_rfl) (by kernel_rfl))
    nil_laidOut (by kernel_rfl) (by kernel_rfl) (by kernel_rfl) Try.underlying4 ?_ ?_
  · intro ds gs hd hg
    have hd3 : ds.length = 3 := hd
    have hg0 : gs.length = 0 := hg
    match ds, gs, hd3, hg0 with
    | [a, b, c], [], _, _ => rfl
  · intro W base args ds gs before hval hW hc hk
    exact calls_closed (c := nilCtx) (nil_good W) Try.func3 (by kernel_rfl) hk hval nil_run

theorem tcpNil : Rows.TcpNilSaid :=
  OpenClaim.holds_of_wide 3 Try.f3 rfl rfl rfl rfl rfl rfl rfl ⟨rfl, rfl, rfl, rfl, rfl⟩ rfl rfl rfl rfl rfl (by kernel_rfl) Try.func3 (by kernel_rfl)
    (of_decide_eq_true (by kernel_rfl)) (by unfold Func.isWrapper; first | (rw [if_pos (by decide +kernel)]; kernel_rfl) | (rw [if_neg (by decide +kernel)]; exact ⟨rfl, rfl⟩))
    (fun os started H enc _ => nil_lifted os started H enc)
#print axioms tcpNil
end Go.Proofs.Ytgionicpjjjonaa
