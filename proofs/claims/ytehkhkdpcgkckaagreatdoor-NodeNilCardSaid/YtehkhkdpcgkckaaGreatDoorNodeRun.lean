/- The run of the statement over a node that is nil. By an AI agent. -/
import Derived.Test.YtehkhkdpcgkckaaGreatDoorNodeAwake
import Derived.KernelRfl
namespace Go.Proofs.YtehkhkdpcgkckaaGreatDoor
open Go Go.Eng

theorem nil_mixed : Tryz.prog.follows .mixedOrders = true := by kernel_rfl
theorem nil_names : namesB Tryz.prog = true := by kernel_rfl
theorem nil_own : ownKnob Tryz.prog.godebug = none := by kernel_rfl
theorem nil_laidOut : laidOutB Tryz.prog = true := by kernel_rfl
theorem nil_noInit : Tryz.prog.inits.idxOf? 3 = none := by kernel_rfl
theorem f349 : externB Tryz.prog 349 = true := by kernel_rfl
theorem f350 : externB Tryz.prog 350 = true := by kernel_rfl
theorem x349 : ExternIs Tryz.prog 349 (fun _ => Extern.AbiNoEscape.same) := by unfold ExternIs; kernel_rfl
theorem x350 : ExternIs Tryz.prog 350 (fun fn => Extern.BytealgMakeNoZero.makeNoZero fn.params fn.resultTypes) := by unfold ExternIs; kernel_rfl
theorem r350 : (Tryz.prog.funcs[350]?).map (fun fn => fn.resultTypes) = some #[30] := by kernel_rfl
theorem u30 : Tryz.prog.underlying 30 = some (.slice 5) := by kernel_rfl
theorem s5 (sm : Nat → Option (List Value → Heap → Option (Value × Heap))) : szOf ⟨Tryz.prog, sm⟩ 5 = some 1 := by kernel_rfl
theorem u3 : Tryz.prog.underlying 3 = some (.int .i64) := by kernel_rfl
theorem u9 : Tryz.prog.underlying 9 = some .string := by kernel_rfl
theorem cmp_roads : CmpRoads Tryz.prog 61 := fun x y => ⟨by kernel_rfl, by kernel_rfl, by kernel_rfl⟩
theorem addr_roads : AddrCmpRoads Tryz.prog 312 := fun a b x y => by cases x <;> cases y <;> kernel_rfl
theorem mask_road : MaskRoad Tryz.prog 217 := fun b0 b1 b2 b3 bits => by kernel_rfl
theorem plain_good (W : World) : Eng.Good (Base.mk (plainC Tryz.prog) W (fun _ => False)) := good_plain nil_mixed nil_names (fun _ => rfl)
theorem awake_run : ∃ hs', ev nilCtx 1000 (.call 15 [] (Eng.startHeap [])) = some (.ret (.bool true) hs') := by
  have h := awake_runS
  rw [evFast_eq] at h
  exact isTrue_ok h
/-- .. and with the call of the layer's example as one step -/
noncomputable def lawSums (f : Nat) : Option (List Value → Heap → Option (Value × Heap)) := match Nat.beq f 15 with
  | true => some (sumClosed [] (.bool true))
  | false => nilSums f
noncomputable def lawCtx : Ctx := { P := Tryz.prog, sums := lawSums }
theorem law_run (id k : Int) (dst : ByteArray) : isTrue (ev lawCtx 1000 (.call 3 [.int .i64 id, .int .i64 k, .string dst] Heap.empty)) = true := by kernel_rfl
theorem extern_sums {c : Ctx} (hP : c.P = Tryz.prog) {W : World} {F : Nat → Prop} : ∀ f s, nilSums f = some s → ∀ args h v h', s args h = some (v, h') → ∀ e w args', HS ⟨c, W, F⟩ e h w → VRs e args args' →
    Invokes c.P f args'.toArray w fun v' w' => ∃ e', e.le e' ∧ VR e' v v' ∧ HS ⟨c, W, F⟩ e' h' w' := by
  intro f s h args h0 v h' ha e w args' hs hx
  obtain ⟨P, sm⟩ := c
  have hP : P = Tryz.prog := hP
  subst hP
  unfold nilSums at h
  split at h
  · cases h
    exact sum_of_ev (c := ⟨Tryz.prog, sm⟩) (c2 := plainC Tryz.prog) rfl (sumCmp_runs cmp_roads) plain_good ha hs hx
  · cases h
    exact sum_of_ev (c := ⟨Tryz.prog, sm⟩) (c2 := plainC Tryz.prog) rfl (sumMask4_runs mask_road) plain_good ha hs hx
  · cases h
    exact sum_of_ev (c := ⟨Tryz.prog, sm⟩) (c2 := plainC Tryz.prog) rfl (sumAddrCmp_runs addr_roads) plain_good ha hs hx
  · cases h
    obtain ⟨fn, h1, h2, h3, h4⟩ := externB_ok f349
    exact sumSame_ok (B := Base.mk ⟨Tryz.prog, sm⟩ W F) h1 h2 h3 h4 (x349.find h1) ha hs hx
  · cases h
    obtain ⟨fn, h1, h2, h3, h4⟩ := externB_ok f350
    have hr := r350
    rw [h1] at hr
    exact sumMake_ok (B := Base.mk ⟨Tryz.prog, sm⟩ W F) h1 h2 h3 h4 (x350.find h1) (by simpa using hr) u30 (s5 sm) ha hs hx
  · cases h
theorem nilCtx_sums : nilCtx.sums = nilSums := by kernel_rfl
theorem nilCtx_prog : nilCtx.P = Tryz.prog := by kernel_rfl
theorem nil_goodF (W : World) (F : Nat → Prop) : Eng.Good (Base.mk nilCtx W F) := by
  refine good_of (by rw [nilCtx_prog]; exact nil_mixed) (by rw [nilCtx_prog]; exact nil_names) ?_
  intro f s h
  rw [nilCtx_sums] at h
  exact extern_sums nilCtx_prog f s h
theorem law_good (W : World) : Eng.Good (Base.mk lawCtx W (fun _ => False)) := good_of nil_mixed nil_names fun f s h args hp v h' ha e w args' hs hx => by
  have h : lawSums f = some s := h
  unfold lawSums at h
  split at h
  · rename_i hf
    have := Nat.eq_of_beq_eq_true hf
    subst this
    cases h
    obtain ⟨hs', hr⟩ := awake_run
    exact sumClosed_ok (c := lawCtx) (c2 := nilCtx) (ts := []) rfl (fun x hx => by cases hx) hr (fun x hx => by cases hx) rfl (fun w => nil_goodF w _) ha hs hx
  · exact extern_sums (c := lawCtx) rfl f s h args hp v h' ha e w args' hs hx
end Go.Proofs.YtehkhkdpcgkckaaGreatDoor
