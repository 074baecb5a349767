/- A node that is nil answers ErrNil, and the layer is awake: whatever the numbers and the text. By an AI agent. -/
import Derived.Test.YtehkhkdpcgkckaaGreatDoorNodeRun
import Derived.Test.YtehkhkdpcgkckaaGreatDoorNodeDoor
import Derived.Test.YtehkhkdpcgkckaaGreatDoorNodeFacts
import Derived.Test.YtehkhkdpcgkckaaGreatDoorNodeGoes
import Derived.Test.YtehkhkdpcgkckaaGreatDoorCards
import Derived.SevenTiedAt
import Derived.KernelRfl
namespace Go.Proofs.YtehkhkdpcgkckaaGreatDoor
open Go Go.Eng

set_option maxRecDepth 100000 in
theorem nil_lifted (os : Os) (started : os.Started) (H : Type) (enc : TypeId × Value → H) :
    ReturnsInHanded {} Tryz.checked os 3 .any (fun w args => (Rows.nodeNilSpec.pre enc Tryz.prog Tryz.f3 Rows.nodeNilRow.domain false w args ∧ laidMetH Tryz.prog myLaid w) ∧ sizedMet enc Tryz.prog Tryz.f3 (OpenSpec.ofChange Rows.nodeNilSpec) false w args)
      (Rows.nodeNilSpec.post enc Tryz.prog Tryz.f3 false true false false) := by
  refine liftedLaid (C := Tryz.checked) (t := 4) nil_own started nil_noInit Tryz.func3
    (ChangeSpec.witness_shaped (enc := enc) (C := Tryz.checked) (os := os) (X := fun w _ => laidMetH Tryz.prog myLaid w) false (World.doorLaid Tryz.prog 400 os) wArgs 8 rfl (shaped1 os) (okw os) (preb os H enc) (szb os H enc) (door_met os))
    nil_laidOut (by kernel_rfl) (by kernel_rfl) (by kernel_rfl) Tryz.underlying4 ?_ ?_
  · intro ds gs hd hg
    have hd3 : ds.length = 3 := hd
    have hg0 : gs.length = 0 := hg
    match ds, gs, hd3, hg0 with
    | [a, b, c], [], _, _ => rfl
  · intro W base args hval hk _
    have hk3 : args.size = 3 := hk
    obtain ⟨l⟩ := args
    match l, hk3 with
    | [a, b, c], _ =>
      obtain ⟨x, rfl, _⟩ := okWide_int u3 (hval 0 3 a rfl rfl)
      obtain ⟨y, rfl, _⟩ := okWide_int u3 (hval 1 3 b rfl rfl)
      obtain ⟨z, rfl, _⟩ := okWide_string u9 (hval 2 9 c rfl rfl)
      obtain ⟨h', hr⟩ := isTrue_ok (law_run x y z)
      have := calls_of_run (law_good W) Tryz.func3 (by kernel_rfl) hr (start_empty lawCtx W) (args' := [.int .i64 x, .int .i64 y, .string z]) (.cons (.int _ _) (.cons (.int _ _) (.cons (.string _) .nil)))
      refine Calls.mono this fun e w' ⟨v', e', hx, _, hv, hs⟩ => ?_
      cases hv
      exact ⟨hx, hs.below (fun _ => id)⟩

set_option maxRecDepth 100000 in
theorem closedFacts : joinedFacts Tryz.prog 3 Tryz.f3 Rows.nodeNilSpec Rows.nodeNilRow = true := by
  unfold joinedFacts
  exact (Bool.and_eq_true _ _).mpr ⟨(Bool.and_eq_true _ _).mpr ⟨(Bool.and_eq_true _ _).mpr ⟨(Bool.and_eq_true _ _).mpr ⟨(Bool.and_eq_true _ _).mpr ⟨(Bool.and_eq_true _ _).mpr ⟨(Bool.and_eq_true _ _).mpr ⟨(Bool.and_eq_true _ _).mpr ⟨(Bool.and_eq_true _ _).mpr ⟨(Bool.and_eq_true _ _).mpr ⟨(Bool.and_eq_true _ _).mpr ⟨(Bool.and_eq_true _ _).mpr ⟨(Bool.and_eq_true _ _).mpr ⟨(Bool.and_eq_true _ _).mpr ⟨(Bool.and_eq_true _ _).mpr ⟨(Bool.and_eq_true _ _).mpr ⟨(Bool.and_eq_true _ _).mpr ⟨(Bool.and_eq_true _ _).mpr ⟨(Bool.and_eq_true _ _).mpr ⟨(Bool.and_eq_true _ _).mpr ⟨(Bool.and_eq_true _ _).mpr ⟨(Bool.and_eq_true _ _).mpr ⟨(Bool.and_eq_true _ _).mpr ⟨(Bool.and_eq_true _ _).mpr ⟨(Bool.and_eq_true _ _).mpr ⟨(Bool.and_eq_true _ _).mpr ⟨(Bool.and_eq_true _ _).mpr ⟨(Bool.and_eq_true _ _).mpr ⟨(Bool.and_eq_true _ _).mpr ⟨(Bool.and_eq_true _ _).mpr ⟨(Bool.and_eq_true _ _).mpr ⟨jf0, jf1⟩, jf2⟩, jf3⟩, jf4⟩, jf5⟩, jf6⟩, jf7⟩, jf8⟩, jf9⟩, jf10⟩, jf11⟩, jf12⟩, jf13⟩, jf14⟩, jf15⟩, jf16⟩, jf17⟩, jf18⟩, jf19⟩, jf20⟩, jf21⟩, jf22⟩, jf23⟩, jf24⟩, jf25⟩, jf26⟩, jf27⟩, jf28⟩, jf29⟩, jf30⟩, jf31⟩
theorem named3 : Tryz.prog.funcNamed "redoubt/redoubtlaw27.NodeNil" = some 3 := by kernel_rfl
theorem instB : decide (Tryz.f3.isInstance Tryz.prog Rows.nodeNilRow.origin Rows.nodeNilRow.targs) = true := by kernel_rfl
theorem wrapB : Tryz.f3.isWrapper Tryz.prog Rows.nodeNilRow.wrapper Rows.nodeNilRow.mainSum := by unfold Func.isWrapper; first | (rw [if_pos (by decide +kernel)]; kernel_rfl) | (rw [if_neg (by decide +kernel)]; exact ⟨rfl, rfl⟩)
theorem nodeNil_row : Rows.NodeNilSaid :=
  OpenClaim.holds_of_wide 3 Tryz.f3 rfl rfl rfl rfl rfl rfl rfl ⟨rfl, rfl, rfl, rfl, rfl⟩ rfl rfl rfl rfl rfl named3 Tryz.func3 closedFacts
    (of_decide_eq_true instB) wrapB
    (fun os started H enc _ => nil_lifted os started H enc)

theorem wfB : Rows.nodeNilRow.wfByText (OpenSpec.ofChange Rows.nodeNilSpec) = true := by kernel_rfl
theorem mainB : Tryz.prog.mainIs = some (true, "1bad31b04f6c27224c5e04fbfdb5b58c579dc4252c057583a06957708f389cf8".toList) := by kernel_rfl
theorem looksB : true = Tryz.prog.looks [] := by kernel_rfl
theorem standB : ([3, 3, 9].all fun u => !Tryz.prog.wantsStandIn u) = true := by kernel_rfl
theorem nodeNil : Rows.NodeNilCardSaid :=
  Claim7.holds_tied_plain_at .later [] [.handle, .data, .data, .data, .data, .data] true (true, "1bad31b04f6c27224c5e04fbfdb5b58c579dc4252c057583a06957708f389cf8") true
    nodeNil_row (fun _ h => by cases h) wfB (fun _ h => by cases h) myRowTie rfl ⟨rfl, rfl⟩ mainB rfl
    (fun f fn hf hfn => by
      obtain rfl : f = 3 := Option.some.inj (named3.symm.trans hf) |>.symm
      obtain rfl : fn = Tryz.f3 := (Option.some.inj (Tryz.func3.symm.trans hfn)).symm
      exact ⟨looksB, fun j t ht => by
        rw [Tryz.params3] at ht
        have hm : t ∈ [3, 3, 9] := by simpa using Array.mem_of_getElem? ht
        exact (show Tryz.prog.wantsStandIn t = false by simpa using List.all_eq_true.1 standB t hm)⟩)
    goesB
#print axioms nodeNil
end Go.Proofs.YtehkhkdpcgkckaaGreatDoor
