/- Operations on values, on: append, copy. By an AI agent. -/
import Derived.Test.YtehkhkdpcgkckaaGreatDoorEvC
namespace Go.Eng
open Go
noncomputable section

section
variable {B : Base} {e : Env} {h : Heap} {w : World}

theorem run_lenOf {x x' : Value} {n : Nat} (ha : lenOf x = some n) (hx : VR e x x') (w : World) : (Builtin.lenOf x').run B.P w = .ok n w := by
  unfold lenOf at ha
  split at ha
  · cases ha; cases hx <;> rfl
  · cases ha; cases hx; rfl
  · cases ha

theorem VRs.refl_plain {l : List Value} (h : l.all plain1 = true) : VRs e l l := VRs.plain h

theorem cellsOfBytes_plain (s : ByteArray) : (cellsOfBytes s).all plain1 = true := by
  simp only [cellsOfBytes, List.all_map, List.all_eq_true]
  intro _ _
  rfl

theorem run_source (s : HS B e h w) {x x' : Value} {size n : Nat} {l : List Value} (ha : source h size n x = some l) (hn : lenOf x = some n ∨ ∃ m, lenOf x = some m ∧ n ≤ m) (hx : VR e x x') :
    ∃ l', VRs e l l' ∧ (Builtin.firstCells size n x').run B.P w = .ok l'.toArray w ∧ l.length = n * size := by
  unfold source at ha
  split at ha
  · split at ha
    · cases ha; cases hx; exact ⟨[], .nil, rfl, by simp⟩
    · cases ha
  · rename_i b off _ _
    cases hx with
    | @slice _ b1 base κ _ _ _ hat hc hl =>
      obtain ⟨b2, base2, κ2, l', ha', hv, hlen, hrun⟩ := run_read s ha (at_some hat)
      obtain ⟨rfl, rfl, rfl⟩ : b1 = b2 ∧ base = base2 ∧ κ = κ2 := by simpa using at_inj hat ha'
      exact ⟨l', hv, hrun, hlen⟩
  · split at ha
    · cases ha
      cases hx with
      | sliceE x c => exact ⟨[], .nil, by simp [Builtin.firstCells, loadCells, loadCellsFrom], by simp⟩
    · cases ha
  · rename_i str
    cases hx
    split at ha
    · cases ha
      have hle : n ≤ str.size := by
        rcases hn with hn | ⟨m, hn, hm⟩
        · simp [lenOf] at hn; omega
        · simp [lenOf] at hn; omega
      have hlc : (cellsOfBytes str).length = str.size := by unfold cellsOfBytes; rw [List.length_map, Array.length_toList]; rfl
      refine ⟨(cellsOfBytes str).take n, ?_, ?_, by simp [hlc]; omega⟩
      · exact (VRs.plain (cellsOfBytes_plain str)).take n
      · simp only [Builtin.firstCells, Sem.run_pure]
        congr 1
        apply Array.ext'
        simp [cellsOfBytes, List.map_take]
    · cases ha
  · cases ha

theorem zeroCells_size (Z : Array Value) (n : Nat) : (Builtin.zeroCells Z n).size = n * Z.size := by simp [Builtin.zeroCells]

/-- a grown row -/
theorem run_grow (s : HS B e h w) {el : TypeId} {i : TypeInfo} (hi : B.c.P.info? el = some i) {old new old' new' : List Value} (ho : VRs e old old') (hn : VRs e new new') (need sc : Nat) (hpos : need ≤ 2 ^ 60)
    (hlen : old.length + new.length = need * i.size) {Z : Array Value} (hZ : Z.size = i.size) :
    ∃ e' w', e.le e' ∧ (do
        let newCap ← choose (.appendCap need sc el)
        pure (Value.slice (some (← newRow el (old'.toArray ++ new'.toArray ++ Builtin.zeroCells Z (newCap - need)))) need newCap) : Sem Value).run B.P w =
          .ok (.slice (some ⟨w.heap.size, 0, none⟩) need ((Question.appendCap need sc el).cut (w.tape w.drawn (.appendCap need sc el)))) w' ∧
      VR e' (.slice (some ⟨h.fresh, 0, none⟩) need BIG2) (.slice (some ⟨w.heap.size, 0, none⟩) need ((Question.appendCap need sc el).cut (w.tape w.drawn (.appendCap need sc el)))) ∧
      HS B e' (h.new (.grown (old ++ new) el)) w' := by
  generalize hcap : (Question.appendCap need sc el).cut (w.tape w.drawn (.appendCap need sc el)) = cap
  have h1 : need ≤ cap := by rw [← hcap]; exact cut_append _ _ _ _
  have h2 : cap ≤ 2 ^ 64 := by rw [← hcap]; exact cut_append_lt hpos
  have hsz : szOf B.c el = some i.size := by unfold szOf; rw [hi]
  generalize hC : old'.toArray ++ new'.toArray ++ Builtin.zeroCells Z (cap - need) = C
  have hCl : C.toList = (old' ++ new') ++ (Builtin.zeroCells Z (cap - need)).toList := by rw [← hC]; simp
  have hol := ho.length
  have hnl := hn.length
  have hCs : C.size = cap * i.size := by
    have h0 := congrArg List.length hCl
    simp only [Array.length_toList, List.length_append, zeroCells_size, hZ] at h0
    rw [h0, ← hol, ← hnl, hlen, ← Nat.add_mul]
    congr 1; omega
  let w1 : World := { w with drawn := w.drawn + 1, heap := w.heap.push (.cells C el) }
  refine ⟨e ++ [.made (w.heap.size, 0, cap)], w1, Env.le_snoc _ _, ?_, ?_, ?_⟩
  · simp only [Sem.run_bind, run_choose, Question.forced, Bool.false_eq_true, if_false, hcap, Result.andThen_ok, hC, newRow, run_newObj, Sem.run_pure, w1]
  · have hBIG := BIG2_eq
    have hk := k64
    have hr : rcap cap BIG2 = cap := by unfold rcap; rw [if_neg (by omega)]; omega
    have := VR.slice (e := e ++ [.made (w.heap.size, 0, cap)]) 0 need BIG2 (new_name s _) (.inr ⟨by omega, by omega, h2⟩) (by rw [hr]; exact h1)
    rwa [hr] at this
  · refine s.new 0 cap (OR.grown el (0, 0) ?_ ?_ ?_ h2) rfl rfl rfl rfl
    · rw [List.drop_zero, hCl, List.length_append, hol, hnl, ← List.length_append, List.take_left]
      exact (ho.append hn).mono (Env.le_snoc _ _)
    · rw [cellsOf_sz hsz]; omega
    · exact .inl rfl

section
variable (st xt ty : TypeId) (el : TypeId) (i : TypeInfo) (d : TypeDesc) (hu : B.P.underlying st = some (.slice el)) (hi : B.P.info? el = some i) (hx : B.P.underlying xt = some d) (hd : ∀ k, d ≠ .int k)
    (base : Option Addr) (sl sc n : Nat) (x' : Value) (hn : ∀ w, (Builtin.lenOf x').run B.P w = .ok n w) (w : World)
include hu hi hx hd hn
theorem append_fits (hle : sl + n ≤ sc) {new : Array Value} (hnew : (Builtin.firstCells i.size n x').run B.P w = .ok new w) :
    (Builtin.append_ #[st, xt] ty #[.slice base sl sc, x']).run B.P w =
      (match base with
        | some a => do
          storeCells (a.add (sl * i.size)) new.toList
          pure (.slice base (sl + n) sc)
        | none => pure (.slice base (sl + n) sc) : Sem Value).run B.P w := by
  have hsz : szOf B.c el = some i.size := by unfold szOf; rw [hi]
  have hz : (match d with | .int _ => true | _ => false) = false := by
    cases d <;> first | rfl | exact absurd rfl (hd _)
  have hx' : (underlying xt).run B.P w = .ok d w := run_underlying' hx w
  have hi' : B.c.P.info? el = some i := hi
  have e0 : (#[st, xt] : Array TypeId)[0]? = some st := rfl
  have e1 : (#[st, xt] : Array TypeId)[1]? = some xt := rfl
  have e2 : (#[Value.slice base sl sc, x'] : Array Value)[0]? = some (.slice base sl sc) := rfl
  have e3 : (#[Value.slice base sl sc, x'] : Array Value)[1]? = some x' := rfl
  unfold Builtin.append_
  simp only [e0, e1, e2, e3, Sem.run_bind, run_underlying' hu, Result.andThen_ok, run_sizeOf' hsz, hx', Sem.run_pure, hz, Bool.false_eq_true, if_false, hn, Bool.not_false, if_true, if_pos hle, hnew]
  cases base <;> rfl

theorem append_grows (hle : ¬ sl + n ≤ sc) (hb : i.bytes ≠ 0) (hcap : ¬ Builtin.nextslicecap (sl + n) sc * i.bytes > 2 ^ 48) {old new : Array Value} {Z : Value}
    (hold : (Builtin.firstCells i.size sl (.slice base sl sc)).run B.P { w with drawn := w.drawn + 1 } = .ok old { w with drawn := w.drawn + 1 })
    (hnew : (Builtin.firstCells i.size n x').run B.P { w with drawn := w.drawn + 1 } = .ok new { w with drawn := w.drawn + 1 })
    (hZ : (zeroValue el).run B.P { w with drawn := w.drawn + 1 } = .ok Z { w with drawn := w.drawn + 1 }) :
    (Builtin.append_ #[st, xt] ty #[.slice base sl sc, x']).run B.P w =
      (do
        let newCap ← choose (.appendCap (sl + n) sc el)
        pure (Value.slice (some (← newRow el (old ++ new ++ Builtin.zeroCells Z.cells (newCap - (sl + n))))) (sl + n) newCap) : Sem Value).run B.P w := by
  have hsz : szOf B.c el = some i.size := by unfold szOf; rw [hi]
  have hz : (match d with | .int _ => true | _ => false) = false := by
    cases d <;> first | rfl | exact absurd rfl (hd _)
  have hx' : (underlying xt).run B.P w = .ok d w := run_underlying' hx w
  have hi' : B.c.P.info? el = some i := hi
  have e0 : (#[st, xt] : Array TypeId)[0]? = some st := rfl
  have e1 : (#[st, xt] : Array TypeId)[1]? = some xt := rfl
  have e2 : (#[Value.slice base sl sc, x'] : Array Value)[0]? = some (.slice base sl sc) := rfl
  have e3 : (#[Value.slice base sl sc, x'] : Array Value)[1]? = some x' := rfl
  unfold Builtin.append_
  simp only [e0, e1, e2, e3, Sem.run_bind, run_underlying' hu, Result.andThen_ok, run_sizeOf' hsz, hx', Sem.run_pure, hz, Bool.false_eq_true, if_false, hn, Bool.not_false, if_true, if_neg hle, run_info hi', false_or, hb, and_false,
    if_neg hcap, run_choose, Question.forced, run_askRoom, hold, hnew, hZ]
end

theorem run_aappend (s : HS B e h w) {ts : List TypeId} {ty : TypeId} {a a' x x' v : Value} {h' : Heap} (ha : aappend B.c ts a x h = some (v, h')) (hx : VR e a a') (hy : VR e x x') :
    ∃ e' w' v', e.le e' ∧ (Builtin.append_ ts.toArray ty #[a', x']).run B.P w = .ok v' w' ∧ VR e' v v' ∧ HS B e' h' w' := by
  unfold aappend at ha
  split at ha
  · rename_i st xt
    split at ha
    · cases ha
    · rename_i el d hno hu hud
      split at ha
      · rename_i i z n hi hz hn
        split at ha
        · cases ha
        · rename_i new hsrc
          split at ha
          · cases ha
          · rename_i hcond
            have hsz0 : i.size ≠ 0 := fun x => hcond (.inl x)
            have hb0 : i.bytes ≠ 0 := fun x => hcond (.inr (.inl x))
            have hzl : z.length = i.size := Classical.byContradiction fun x => hcond (.inr (.inr (.inl x)))
            have hone : new.all oneCell = true := by
              cases hc : new.all oneCell with
              | true => rfl
              | false => exact absurd (.inr (.inr (.inr hc))) hcond
            have hd : ∀ k, d ≠ .int k := fun k hk => hno k hk
            have hln : ∀ w, (Builtin.lenOf x').run B.P w = .ok n w := fun w => run_lenOf (B := B) hn hy w
            obtain ⟨new', hnv, hnr, hnl⟩ := run_source s hsrc (.inl hn) hy
            let w1 : World := { w with drawn := w.drawn + 1 }
            have s1 : HS B e h w1 := s.congr rfl rfl rfl rfl
            obtain ⟨new1, hnv1, hnr1, _⟩ := run_source s1 hsrc (.inl hn) hy
            obtain ⟨Z, hZr, hZc⟩ := run_zero (B := B) hz w1
            have hZs : Z.cells.size = i.size := by rw [← hzl, ← hZc]; simp
            have hbn : 1 ≤ i.bytes := by omega
            split at ha
            · -- onto the nil slice
              split at ha
              · split at ha
                · rename_i hn0
                  cases ha
                  cases hx
                  subst hn0
                  refine ⟨e, w, _, Env.le_refl _, ?_, .slice0 0 0, s⟩
                  rw [append_fits st xt ty el i d hu hi hud hd none 0 0 0 x' hln w (by omega) hnr]
                  rfl
                · rename_i hn0
                  split at ha
                  · cases ha
                  · rename_i hbig
                    cases ha
                    cases hx
                    have hn60 : n ≤ 2 ^ 60 := by
                      have : n * 1 ≤ n * i.bytes := Nat.mul_le_mul_left _ hbn
                      omega
                    have hg := append_grows st xt ty el i d hu hi hud hd none 0 0 n x' hln w (by omega) hb0 (by rw [Nat.zero_add, nextslicecap_zero (by omega)]; omega) (old := #[]) (new := new1.toArray) (Z := Z) rfl hnr1 hZr
                    obtain ⟨e', w', hle, hr, hv, hs⟩ := run_grow s hi (old := []) (old' := []) .nil hnv1 n 0 hn60 (by simpa using hnl) hZs
                    refine ⟨e', w', _, hle, ?_, hv, hs⟩
                    rw [Nat.zero_add] at hg
                    exact hg.trans hr
              · cases ha
            · rename_i b off sl sc
              cases hx with
              | @slice _ b1 base κ _ _ _ hat hc hl =>
              split at ha
              · -- its capacity is known
                rename_i hbig
                have hcb : sc < BIG := Nat.le_of_ble_eq_true hbig
                rw [rcap_small hcb] at hl ⊢
                split at ha
                · rename_i hle
                  split at ha
                  · rename_i h2 hwr
                    cases ha
                    obtain ⟨b2, base2, κ2, w', ha', hrun, hs'⟩ := run_write s hwr hnv (at_some hat)
                    obtain ⟨rfl, rfl, rfl⟩ : b1 = b2 ∧ base = base2 ∧ κ = κ2 := by simpa using at_inj hat ha'
                    refine ⟨e, w', _, Env.le_refl _, ?_, VR.sliceSmall hat hcb hle, hs'⟩
                    rw [append_fits st xt ty el i d hu hi hud hd _ sl sc n x' hln w hle hnr]
                    simp only [Sem.run_bind, add_mid, Nat.add_assoc, hrun, Result.andThen_ok, Sem.run_pure]
                  · cases ha
                · rename_i hle
                  split at ha
                  · cases ha
                  · rename_i hbd
                    split at ha
                    · rename_i old hold
                      cases ha
                      obtain ⟨b2, base2, κ2, old', ha', hov, hol, hor⟩ := run_read s1 hold (at_some hat)
                      obtain ⟨rfl, rfl, rfl⟩ : b1 = b2 ∧ base = base2 ∧ κ = κ2 := by simpa using at_inj hat ha'
                      have hcap : ¬ Builtin.nextslicecap (sl + n) sc * i.bytes > 2 ^ 48 := by
                        have h1 := nextslicecap_le (need := sl + n) (old := sc) (by omega)
                        have h2 := Nat.mul_le_mul_right i.bytes h1
                        have h3 : 2 * (sl + n) * i.bytes ≤ (2 * (sl + n) + 1000) * i.bytes := Nat.mul_le_mul_right _ (by omega)
                        omega
                      have hn60 : sl + n ≤ 2 ^ 60 := by
                        have : (2 * (sl + n) + 1000) * 1 ≤ (2 * (sl + n) + 1000) * i.bytes := Nat.mul_le_mul_left _ hbn
                        omega
                      have hg := append_grows st xt ty el i d hu hi hud hd (some ⟨b1, base + off, none⟩) sl sc n x' hln w hle hb0 hcap (old := old'.toArray) (new := new1.toArray) (Z := Z) hor hnr1 hZr
                      obtain ⟨e', w', hle', hr, hv, hs⟩ := run_grow s hi (old := old) (old' := old') hov hnv1 (sl + n) sc hn60 (by rw [hol, hnl, ← Nat.add_mul]) hZs
                      exact ⟨e', w', _, hle', hg.trans hr, hv, hs⟩
                    · cases ha
              · -- a grown row
                rename_i hbig
                have hcb : ¬ sc < BIG := fun hlt => by
                  have : Nat.blt sc BIG = true := Nat.ble_eq_true_of_le hlt
                  rw [this] at hbig; cases hbig
                obtain ⟨hc1, hc2, hc3⟩ := hc.resolve_left hcb
                have hrc : rcap κ sc = κ - (BIG2 - sc) := by unfold rcap; rw [if_neg hcb]
                split at ha
                · rename_i hn0
                  cases ha
                  subst hn0
                  refine ⟨e, w, _, Env.le_refl _, ?_, .slice _ _ _ hat hc hl, s⟩
                  rw [append_fits st xt ty el i d hu hi hud hd _ sl (rcap κ sc) 0 x' hln w (by omega) hnr]
                  have hnil : new' = [] := by
                    have h1 := hnv.length
                    have : new'.length = 0 := by omega
                    simpa using this
                  subst hnil
                  rfl
                · rename_i hn0
                  split at ha
                  · rename_i hkn
                    split at ha
                    · rename_i h2 hwr
                      cases ha
                      have hK := known_le (size := i.size) s hat hcb hl
                      have hle : sl + n ≤ rcap κ sc := by omega
                      obtain ⟨b2, base2, κ2, w', ha', hrun, hs'⟩ := run_write s hwr hnv (at_some hat)
                      obtain ⟨rfl, rfl, rfl⟩ : b1 = b2 ∧ base = base2 ∧ κ = κ2 := by simpa using at_inj hat ha'
                      refine ⟨e, w', _, Env.le_refl _, ?_, .slice _ _ _ hat hc hle, hs'⟩
                      rw [append_fits st xt ty el i d hu hi hud hd _ sl (rcap κ sc) n x' hln w hle hnr]
                      simp only [Sem.run_bind, add_mid, Nat.add_assoc, hrun, Result.andThen_ok, Sem.run_pure]
                    · cases ha
                  rename_i hkn
                  split at ha
                  · cases ha
                  · rename_i hbd
                    split at ha
                    · rename_i c e2 hg
                      split at ha
                      · rename_i hoff
                        obtain ⟨rfl, hoff⟩ := hoff
                        split at ha
                        · rename_i old hold
                          cases ha
                          obtain ⟨b2, base2, κ2, old', ha', hov, hol, hor⟩ := run_read s1 hold (at_some hat)
                          obtain ⟨rfl, rfl, rfl⟩ : b1 = b2 ∧ base = base2 ∧ κ = κ2 := by simpa using at_inj hat ha'
                          have hn60 : sl + n ≤ 2 ^ 60 := by
                            have : (2 * (sl + n) + 1000) * 1 ≤ (2 * (sl + n) + 1000) * i.bytes := Nat.mul_le_mul_left _ hbn
                            omega
                          by_cases hle : sl + n ≤ rcap κ sc
                          · -- there is room
                            obtain ⟨b3, base3, κ3, ob, ha3, hw, ho, _⟩ := s.live _ _ hg (at_some hat)
                            obtain ⟨rfl, rfl, rfl⟩ : b1 = b3 ∧ base = base3 ∧ κ = κ3 := by simpa using at_inj hat ha3
                            cases ho with
                            | @grown _ C _ fz hcv hs hz hk =>
                              have hi2 : B.c.P.info? e2 = some i := hi
                              have hsz2 : szOf B.c e2 = some i.size := by unfold szOf; rw [hi2]
                              have hszc := cellsOf_sz hsz2
                              have hold' := hold
                              unfold readCells at hold'
                              rw [hg] at hold'
                              simp only at hold'
                              split at hold'
                              · rename_i hble
                                have hble := Nat.le_of_ble_eq_true hble
                                cases hold'
                                obtain ⟨lo, hlo⟩ : ∃ lo, lo = BIG2 - sc := ⟨_, rfl⟩
                                rw [← hlo] at hoff hrc hc2
                                have hnv' := hnv.length
                                have hm1 : (lo + sl + n) * i.size ≤ κ * i.size := Nat.mul_le_mul_right _ (by omega)
                                rw [Nat.add_mul, Nat.add_mul] at hm1
                                rw [hszc] at hs
                                have hlC := hcv.length
                                simp at hlC
                                have hbnd : base + off + sl * i.size + new'.length ≤ C.size := by omega
                                obtain ⟨C', hC', u⟩ := setCells_block b1 new' (base + off + sl * i.size) w C e2 fz hw hbnd
                                have hC's : C'.size = C.size := by
                                  have := congrArg List.length hC'
                                  rw [splice_length _ _ _ (by simpa using hbnd)] at this
                                  simpa using this
                                have hst := run_storeCells_cells (P := B.P) b1 (base + off + sl * i.size) new' 0 w (fun j hj => by
                                  simp only [World.cell?, hw]
                                  simp; omega) (fun j hj => by
                                  simp only [World.frozen?, hw]
                                  simp; omega) (oneCells hone hnv)
                                have hk' := k64
                                have hBB := BIG2_eq
                                have hr2 : rcap (κ - lo) BIG2 = κ - lo := by unfold rcap; rw [if_neg (by omega)]; omega
                                refine ⟨e ++ [.made (b1, base + off, κ - lo)], w.setCells b1 (base + off + sl * i.size) new', .slice (some ⟨b1, base + off, none⟩) (sl + n) (rcap κ sc), Env.le_snoc _ _, ?_, ?_, s.move hg hat (OR.grown e2 fz ?_ ?_ ?_ ?_) u⟩
                                · rw [append_fits st xt ty e2 i d hu hi hud hd _ sl (rcap κ sc) n x' hln w hle hnr]
                                  simp only [Sem.run_bind, add_mid]
                                  simp only [Nat.add_zero] at hst
                                  rw [hst]
                                  rfl
                                · have := VR.slice (e := e ++ [.made (b1, base + off, κ - lo)]) 0 (sl + n) BIG2 (new_name s _) (.inr ⟨by omega, by omega, by omega⟩) (by rw [hr2]; omega)
                                  rw [hr2] at this
                                  rw [hrc]
                                  exact this
                                · have h1 : VRs e ((c.drop off).take (sl * i.size)) ((C.toList.drop (base + off)).take (sl * i.size)) := by
                                    have h0 := (hcv.drop off).take (sl * i.size)
                                    rw [List.drop_take, List.take_take, Nat.min_eq_left (by omega), List.drop_drop] at h0
                                    exact h0
                                  have h2 : (C'.toList.drop (base + off)).take ((c.drop off).take (sl * i.size) ++ new).length = (C.toList.drop (base + off)).take (sl * i.size) ++ new' := by
                                    rw [hC', drop_splice _ _ _ _ (by simpa using hbnd)]
                                    unfold splice
                                    rw [List.length_append, hol, hnv', ← List.append_assoc]
                                    rw [List.take_append_of_le_length (by simp; omega)]
                                    exact List.take_of_length_le (by simp; omega)
                                  rw [h2]
                                  exact (h1.append hnv).mono (Env.le_snoc _ _)
                                · rw [hszc, hC's, Nat.sub_mul]
                                  have : lo * i.size ≤ κ * i.size := Nat.mul_le_mul_right _ hc2
                                  omega
                                · rw [hC's]; exact hz
                                · omega
                              · cases hold'
                          · have hcap : ¬ Builtin.nextslicecap (sl + n) (rcap κ sc) * i.bytes > 2 ^ 48 := by
                              have h1 := nextslicecap_le (need := sl + n) (old := rcap κ sc) (by omega)
                              have h2 := Nat.mul_le_mul_right i.bytes h1
                              have h3 : 2 * (sl + n) * i.bytes ≤ (2 * (sl + n) + 1000) * i.bytes := Nat.mul_le_mul_right _ (by omega)
                              omega
                            have hg' := append_grows st xt ty e2 i d hu hi hud hd (some ⟨b1, base + off, none⟩) sl (rcap κ sc) n x' hln w hle hb0 hcap (old := old'.toArray) (new := new1.toArray) (Z := Z) hor hnr1 hZr
                            obtain ⟨e', w', hle', hr, hv, hs⟩ := run_grow (s.drop (at_some hat)) hi (old := old) (old' := old') hov hnv1 (sl + n) (rcap κ sc) hn60 (by rw [hol, hnl, ← Nat.add_mul]) hZs
                            exact ⟨e', w', _, hle', hg'.trans hr, hv, hs⟩
                        · cases ha
                      · cases ha
                    · cases ha
            · cases ha
      · cases ha
    · cases ha
  · cases ha

theorem run_acopy (s : HS B e h w) {ts : List TypeId} {ty : TypeId} {a a' x x' v : Value} {h' : Heap} (ha : acopy B.c ts a x h = some (v, h')) (hx : VR e a a') (hy : VR e x x') :
    ∃ w' v', (Builtin.copy_ ts.toArray ty #[a', x']).run B.P w = .ok v' w' ∧ VR e v v' ∧ HS B e h' w' := by
  unfold acopy at ha
  split at ha
  · rename_i dt rest
    split at ha
    · rename_i el hu
      split at ha
      · rename_i sz m ad dl dc hsz hm
        simp only at ha
        split at ha
        · cases ha
        · rename_i cs hsrc
          obtain ⟨cs', hcv, hcr, hcl⟩ := run_source s hsrc (.inr ⟨m, hm, Nat.min_le_left _ _⟩) hy
          have hln := run_lenOf (B := B) hm hy w
          have e0 : (dt :: rest).toArray[0]? = some dt := by simp
          have e2 : (#[a', x'] : Array Value)[0]? = some a' := rfl
          have e3 : (#[a', x'] : Array Value)[1]? = some x' := rfl
          split at ha
          · split at ha
            · rename_i hn0
              cases ha
              cases hx
              have hnil : cs' = [] := by
                have h1 := hcv.length
                have h2 : Nat.min m dl = 0 := hn0
                rw [h2] at hcl
                have : cs'.length = 0 := by omega
                simpa using this
              subst hnil
              have h2 : Nat.min m dl = 0 := hn0
              refine ⟨w, _, ?_, .int _ _, s⟩
              rw [h2] at hcr
              simp only [Builtin.copy_, e0, e2, e3, Sem.run_bind, run_underlying' hu, Result.andThen_ok, hln, run_sizeOf' hsz, h2, hcr, Sem.run_pure, goInt]
              rfl
            · cases ha
          · rename_i b off
            cases hx with
            | @slice _ b1 base κ _ _ _ hat hc hl =>
            split at ha
            · rename_i h2 hwr
              cases ha
              obtain ⟨b2, base2, κ2, w', ha', hrun, hs'⟩ := run_write s hwr hcv (at_some hat)
              obtain ⟨rfl, rfl, rfl⟩ : b1 = b2 ∧ base = base2 ∧ κ = κ2 := by simpa using at_inj hat ha'
              refine ⟨w', _, ?_, .int _ _, hs'⟩
              simp only [Builtin.copy_, e0, e2, e3, Sem.run_bind, run_underlying' hu, Result.andThen_ok, hln, run_sizeOf' hsz, hcr, hrun, Sem.run_pure, goInt]
            · split at ha
              · cases ha
                have hnil : cs' = [] := by
                  have h1 := hcv.length
                  have : cs'.length = 0 := by simpa using h1.symm
                  simpa using this
                subst hnil
                refine ⟨w, _, ?_, .int _ _, s⟩
                simp only [Builtin.copy_, e0, e2, e3, Sem.run_bind, run_underlying' hu, Result.andThen_ok, hln, run_sizeOf' hsz, hcr, Sem.run_pure, goInt]
                rfl
              · cases ha
          · split at ha
            · rename_i hn0
              cases ha
              cases hx with
              | sliceE x c =>
                have hnil : cs' = [] := by
                  have h1 := hcv.length
                  have h2 : Nat.min m 0 = 0 := hn0
                  rw [h2] at hcl
                  have : cs'.length = 0 := by omega
                  simpa using this
                subst hnil
                have h2 : Nat.min m 0 = 0 := hn0
                refine ⟨w, _, ?_, .int _ _, s⟩
                rw [h2] at hcr
                simp only [Builtin.copy_, e0, e2, e3, Sem.run_bind, run_underlying' hu, Result.andThen_ok, hln, run_sizeOf' hsz, h2, hcr, Sem.run_pure, goInt]
                rfl
            · cases ha
      · cases ha
    · cases ha
  · cases ha
end
end
end Go.Eng

namespace Go.Eng
open Go
noncomputable section

section
variable {B : Base} {e : Env} {h : Heap} {w : World}

theorem run_arange (s : HS B e h w) {t : TypeId} {x x' v : Value} {h' : Heap} (ha : arange B.c t x h = some (v, h')) (hx : VR e x x') :
    ∃ e' w' v', e.le e' ∧ (Instr.range t x').run B.P w = .ok v' w' ∧ VR e' v v' ∧ HS B e' h' w' := by
  unfold arange at ha
  split at ha
  · rename_i str hu
    cases hx; cases ha
    refine ⟨e ++ [.made (w.heap.size, 0, 0)], { w with heap := w.heap.push (.stringIter str 0) }, _, Env.le_snoc _ _, ?_, .ptr 0 (new_name s _), by exact s.new 0 0 (.siter str 0 rfl) rfl rfl rfl rfl⟩
    simp only [Instr.range, Sem.run_bind, run_underlying' hu, Result.andThen_ok, Sem.run_pure, run_newObj, Nat.add_zero]
  · cases ha

theorem Upd.of_set {w : World} {b : Nat} {ob ob' : Obj} (hw : w.heap[b]? = some ob) : Upd w b ob' { w with heap := w.heap.setIfInBounds b ob' } where
  same := by simp [(Array.getElem?_eq_some_iff.1 hw).1]
  other := fun j hj => by simp only; rw [Array.getElem?_setIfInBounds_ne (fun x => hj x.symm)]
  size := by simp
  tape := rfl
  os := rfl
  output := rfl

theorem run_getObj {b : Nat} {ob : Obj} (hw : w.heap[b]? = some ob) (hn : ∀ c t f, ob ≠ .cells c t f) : (getObj b).run B.P w = .ok ob w := by
  simp only [getObj, Sem.run, hw]
theorem run_setObj {b : Nat} {ob : Obj} (o : Obj) (hw : w.heap[b]? = some ob) (hn : ∀ c t f, ob ≠ .cells c t f) : (setObj b o).run B.P w = .ok () { w with heap := w.heap.setIfInBounds b o } := by
  simp only [setObj, Sem.run, hw]

theorem run_anext (s : HS B e h w) {it it' v : Value} {st : Bool} {ty : TypeId} {h' : Heap} (ha : anext it st h = some (v, h')) (hx : VR e it it') :
    ∃ w' v', (Instr.next it' st ty).run B.P w = .ok v' w' ∧ VR e v v' ∧ HS B e h' w' := by
  unfold anext at ha
  split at ha
  · rename_i n
    cases hx with
    | @ptr _ b base κ _ hat =>
      split at ha
      · rename_i str pos hg
        obtain ⟨b2, base2, κ2, ob, ha', hw, ho, _⟩ := s.live _ _ hg (at_some hat)
        obtain ⟨rfl, rfl, rfl⟩ : b = b2 ∧ base = base2 ∧ κ = κ2 := by simpa using at_inj hat ha'
        cases ho with
        | siter _ _ hb0 =>
          subst hb0
          have hno : ∀ c t f, Obj.stringIter str pos ≠ .cells c t f := fun _ _ _ x => by cases x
          split at ha
          · rename_i hlt
            cases ha
            refine ⟨{ w with heap := w.heap.setIfInBounds b (.stringIter str (pos + (Utf8.decode str pos).2)) }, .tuple #[.bool true, .int .i64 pos, .int .i32 (Utf8.decode str pos).1], ?_, ?_, s.upd hg hat (.siter _ _ rfl) (Upd.of_set hw)⟩
            · simp only [Instr.next, Nat.zero_add, Sem.run_bind, run_getObj hw hno, Result.andThen_ok, if_pos hlt, run_setObj _ hw hno, Sem.run_pure, goInt]
            · exact .tuple (.cons (.bool _) (.cons (.int _ _) (.cons (.int _ _) .nil)))
          · rename_i hlt
            cases ha
            refine ⟨w, .tuple #[.bool false], ?_, .tuple (.cons (.bool _) .nil), s⟩
            simp only [Instr.next, Nat.zero_add, Sem.run_bind, run_getObj hw hno, Result.andThen_ok, if_neg hlt, Sem.run_pure]
      · cases ha
  · cases ha

theorem rowAt_at {P : Program} {e u : TypeId} (hc : P.cellsOf e = 1) (hu : P.underlyingId e = P.underlyingId u) (count off n : Nat) (hn : off + n ≤ count) : liesAt P P.depth e count off u n = true := by
  have hd : P.depth = (2 * (P.types.size + Made.depth) + 1) + 1 := rfl
  rw [hd]
  simp only [liesAt, Bool.or_eq_true]
  left
  rw [hd]
  simp [rowAt, hc, hn, sameLayout, hu, Nat.mod_one]

theorem bytes_cells : ∀ {l l' : List Value} {bs : List UInt8}, bytesOfCells l = some bs → VRs e l l' → ∃ ns : List Int, l' = ns.map (Value.int .u8) ∧ bs = ns.map fun n => UInt8.ofNat n.toNat := bytes_nums

theorem run_loadBytes' : ∀ (ns : List Int) (a : Addr) (acc : ByteArray), (∀ j x, ns[j]? = some x → w.cell? (a.add j) = some (.int .u8 x)) →
    (loadBytes a acc ns.length).run B.P w = .ok ⟨acc.data ++ (ns.map fun n => UInt8.ofNat n.toNat).toArray⟩ w
  | [], a, acc, _ => by simp [loadBytes]
  | x :: l, a, acc, h => by
    have h0 : w.cell? a = some (.int .u8 x) := by
      have := h 0 x rfl
      simpa [Addr.add] using this
    have ih := run_loadBytes' l (a.add 1) (acc.push x.toNat.toUInt8) (fun j y hy => by
      have := h (j + 1) y (by simpa using hy)
      have e : (a.add 1).add j = a.add (j + 1) := by
        unfold Addr.add
        by_cases hj : j = 0
        · subst hj; simp
        · simp [hj]; omega
      rw [e]; exact this)
    simp only [List.length_cons, loadBytes, Sem.run_bind, run_load, h0, Result.andThen_ok, ih]
    have hp : (acc.push x.toNat.toUInt8).data ++ (l.map fun n => UInt8.ofNat n.toNat).toArray = acc.data ++ ((x :: l).map fun n => UInt8.ofNat n.toNat).toArray := by
      show acc.data.push (UInt8.ofNat x.toNat) ++ _ = _
      apply Array.ext'
      simp
    rw [hp]

theorem freeze_heap (w : World) (b off n : Nat) (C : Array Value) (t : TypeId) (fz : Nat × Nat) (hw : w.heap[b]? = some (.cells C t fz)) :
    (∀ j, j ≠ b → (w.freeze ⟨b, off, none⟩ n).heap[j]? = w.heap[j]?) ∧ (w.freeze ⟨b, off, none⟩ n).heap.size = w.heap.size ∧ (w.freeze ⟨b, off, none⟩ n).tape = w.tape ∧ (w.freeze ⟨b, off, none⟩ n).os = w.os ∧ (w.freeze ⟨b, off, none⟩ n).output = w.output := by
  unfold World.freeze
  split
  · exact ⟨fun _ _ => rfl, rfl, rfl, rfl, rfl⟩
  · refine ⟨fun j hj => ?_, by simp, rfl, rfl, rfl⟩
    simp only
    rw [Array.getElem?_modify, if_neg (fun x => hj x.symm)]

/-- a live name given up, its block turned -/
theorem HS.spoil {w' : World} (s : HS B e h w) {n b base κ : Nat} {o : AObj} (g : h.get n = some o) (ha : e.at n = some (b, base, κ))
    (ho : ∀ j, j ≠ b → w'.heap[j]? = w.heap[j]?) (hs : w'.heap.size = w.heap.size) (ht : w'.tape = w.tape) (hos : w'.os = w.os) (hp : w'.output = w.output) : HS B e (h.drop n) w' := by
  obtain ⟨b0, p0, q0, ob0, ha0, hb0, _, hF0⟩ := s.live n o g (at_some ha)
  have h3 := at_inj ha ha0
  cases h3
  refine { live := fun m o2 g2 hx => ?_, known := (s.drop (at_some ha)).known, pend := (s.drop (at_some ha)).pend, inj := (s.drop (at_some ha)).inj, nx := s.nx, blk := by rw [hs]; exact s.blk, size := by rw [hs]; exact s.size, frame := fun j hj hF => ?_, world := by rw [ht, hos, hp]; exact s.world }
  · rw [Heap.get_drop] at g2
    split at g2
    · cases g2
    · rename_i en
      obtain ⟨b', p, q, ob, ha', hb, hr, hF⟩ := s.live m o2 g2 hx
      refine ⟨b', p, q, ob, ha', ?_, hr, hF⟩
      rw [ho]
      · exact hb
      · intro e'; subst e'; exact en (s.inj m n o2 o b' p q base κ g2 g ha' ha)
  · by_cases e' : j = b
    · subst e'; exact absurd (hF0 hj) hF
    · rw [ho j e']; exact s.frame j hj hF

theorem run_aunsafeString (s : HS B e h w) {ts : List TypeId} {ty : TypeId} {p p' n n' v : Value} {h' : Heap} (ha : aunsafeString B.c ts p n h = some (v, h')) (hx : VR e p p') (hy : VR e n n') (hts : ts ≠ []) :
    ∃ w' v', (Builtin.unsafeString_ ts.toArray ty #[p', n']).run B.P w = .ok v' w' ∧ VR e v v' ∧ HS B e h' w' := by
  obtain ⟨pt, rest, rfl⟩ : ∃ a l, ts = a :: l := by cases ts with | nil => exact absurd rfl hts | cons a l => exact ⟨a, l, rfl⟩
  have e0 : (pt :: rest).toArray[0]? = some pt := by simp
  have hmax : ¬ (0 : Int) > IntKind.i64.max := by decide
  unfold aunsafeString at ha
  split at ha
  · cases ha; cases hx; cases hy
    refine ⟨w, _, ?_, .string _, s⟩
    change Sem.run B.P (asInt _ >>= _) w = _
    simp only [asInt, asIntOf, Sem.run_bind, Sem.run_pure, Result.andThen_ok, hmax, if_false, if_true]
    rfl
  · cases ha; cases hy
    refine ⟨w, .string .empty, ?_, .string _, s⟩
    cases hx
    change Sem.run B.P (asInt _ >>= _) w = _
    simp only [asInt, asIntOf, Sem.run_bind, Sem.run_pure, Result.andThen_ok, hmax, if_false, if_true]
    rfl
  · rename_i b off k n hne
    cases hy
    cases hx with
    | @ptr _ b1 base κ _ hat =>
    split at ha
    · rename_i hn
      simp only at ha
      split at ha
      · rename_i el hu
        split at ha
        · rename_i c e' hu2 hg
          split at ha
          · rename_i hcond
            split at ha
            · rename_i l hrd
              split at ha
              · rename_i bs hbs
                cases ha
                obtain ⟨b2, base2, κ2, ob, ha2, hw, ho, _⟩ := s.live _ _ hg (at_some hat)
                obtain ⟨rfl, rfl, rfl⟩ : b1 = b2 ∧ base = base2 ∧ κ = κ2 := by simpa using at_inj hat ha2
                obtain ⟨b3, base3, κ3, l', ha3, hv, hlen, hcell⟩ := read_cells s hrd (at_some hat)
                obtain ⟨rfl, rfl, rfl⟩ : b1 = b3 ∧ base = base3 ∧ κ = κ3 := by simpa using at_inj hat ha3
                obtain ⟨ns, rfl, rfl⟩ := bytes_nums hbs hv
                cases ho with
                | @grown _ C _ fz hcv hs hz hk =>
                  have hnl : ns.length = n.toNat := by have := hv.length; simp at this; omega
                  have hble : off + n.toNat ≤ c.length := by
                    unfold readCells at hrd
                    rw [hg] at hrd
                    simp only at hrd
                    split at hrd
                    · rename_i hb; exact Nat.le_of_ble_eq_true hb
                    · cases hrd
                  have hlC := hcv.length
                  simp at hlC
                  have hlb := run_loadBytes' (B := B) (w := w) ns ⟨b1, base + off, none⟩ .empty (fun j x hj => by rw [add_mid]; exact hcell j _ (by simp [hj]))
                  obtain ⟨f1, f2, f3, f4, f5⟩ := freeze_heap w b1 (base + off) n.toNat C e' fz hw
                  refine ⟨w.freeze ⟨b1, base + off, none⟩ n.toNat, .string ⟨(ns.map fun n => UInt8.ofNat n.toNat).toArray⟩, ?_, .string _, s.spoil hg hat f1 f2 f3 f4 f5⟩
                  have hc1 := cellsOf_sz hcond.2
                  have hlies := rowAt_at (P := B.P) hc1 hcond.1 C.size (base + off) n.toNat (by omega)
                  have hvar : (variablesAt ⟨b1, base + off, none⟩ el n.toNat).run B.P w = .ok true w := by
                    have hsh : w.shape? b1 = some (e', C.size) := by simp [World.shape?, hw]
                    simp only [variablesAt, Sem.run_bind, run_program, run_shape, Result.andThen_ok, hsh, Sem.run_pure]
                    have : C.size / B.P.cellsOf e' = C.size := by rw [hc1, Nat.div_one]
                    rw [this, hlies]
                  have hel : (elemOf pt).run B.P w = .ok el w := by simp only [elemOf, Sem.run_bind, run_underlying' hu, Result.andThen_ok, Sem.run_pure]
                  have e1 : ¬ n < 0 := by omega
                  have e2 : ¬ n > IntKind.i64.max := by omega
                  have e3 : ¬ n = 0 := by omega
                  rw [hnl] at hlb
                  change Sem.run B.P (asInt (.int k n) >>= _) w = _
                  simp only [asInt, asIntOf, Sem.run_bind, Sem.run_pure, Result.andThen_ok, e1, e2, e3, if_false, hel, hvar, if_true, hlb, run_freeze]
                  simp [hel, hvar, hlb, run_freeze]
              · cases ha
            · cases ha
          · cases ha
        · cases ha
      · cases ha
    · cases ha
  · cases ha
end
end
end Go.Eng

namespace Go.Eng
open Go
noncomputable section

section
variable {B : Base} {e : Env} {h : Heap} {w : World}

theorem run_amakeMap (s : HS B e h w) {t : TypeId} {r r' : Option Value} (hr : ∀ v, r = some v → ∃ k n, v = .int k n ∧ r' = some (.int k n) ∧ ∃ a b, B.c.P.underlying t = some (.map a b)) (hn : r = none → r' = none) :
    ∃ e' w' v', e.le e' ∧ (Instr.makeMap t r').run B.P w = .ok v' w' ∧ VR e' (.map (some h.fresh)) v' ∧ HS B e' (h.new (.map [] 0)) w' := by
  refine ⟨e ++ [.made (w.heap.size, 0, 0)], { w with heap := w.heap.push (.map #[] 0) }, .map (some w.heap.size), Env.le_snoc _ _, ?_, .map (new_name s _), by exact s.new 0 0 (.map 0 rfl .nil) rfl rfl rfl rfl⟩
  cases r with
  | none =>
    rw [hn rfl]
    rfl
  | some v =>
    obtain ⟨k, n, rfl, hr', a, b, hu⟩ := hr v rfl
    rw [hr']
    simp only [Instr.makeMap, Sem.run_bind, run_underlying' hu, Result.andThen_ok, asInt, asIntOf, Sem.run_pure, run_newObj]

theorem run_aarrayAt {t : TypeId} {x x' v : Value} (ha : aarrayAt B.c t x = some v) (hx : VR e x x') (w : World) :
    ∃ v', (Instr.arrayAt t x').run B.P w = .ok v' w ∧ VR e v v' := by
  unfold aarrayAt at ha
  split at ha
  · rename_i n el b off len cp hu
    split at ha
    · rename_i hle
      cases ha
      cases hx with
      | slice _ _ _ hat hc hl =>
        refine ⟨_, ?_, .ptr off hat⟩
        have := Nat.le_of_ble_eq_true hle
        simp only [Instr.arrayAt, Sem.run_bind, run_underlying' hu, Result.andThen_ok, if_neg (Nat.not_lt.2 this), Sem.run_pure]
    · cases ha
  · cases ha

theorem run_zeroVal {t : TypeId} {z : Value} (hz : zeroVal B.c t = some z) (w : World) : (zeroValue t).run B.P w = .ok z w ∧ VR e z z := by
  unfold zeroVal at hz
  split at hz
  · rename_i i hi
    split at hz
    · rename_i z' hz'
      split at hz
      · rename_i hp
        cases hz
        exact ⟨by simp only [zeroValue, Sem.run_bind, run_info hi, Result.andThen_ok, hz', Sem.run_pure], VR.plain hp⟩
      · cases hz
    · cases hz
  · cases hz

theorem run_atypeAssert {x x' v : Value} {xt t : TypeId} {ok : Bool} (ha : atypeAssert B.c x t ok = some v) (hx : VR e x x') (w : World) :
    ∃ v', (Instr.typeAssert x' xt t ok).run B.P w = .ok v' w ∧ VR e v v' := by
  unfold atypeAssert at ha
  split at ha
  · rename_i hu
    cases hx
    split at ha
    · rename_i z hz
      cases ha
      obtain ⟨h1, h2⟩ := run_zeroVal (e := e) hz w
      exact ⟨_, by simp only [Instr.typeAssert, Sem.run_bind, run_underlying' hu, Result.andThen_ok, if_true, h1, Sem.run_pure], .tuple (.cons h2 (.cons (.bool _) .nil))⟩
    · cases ha
  · rename_i want u v1 hu
    cases hx with
    | @iface _ _ vr hv =>
      split at ha
      · rename_i i hi
        have hi' : B.c.P.info? u = some i := hi
        split at ha
        · rename_i hm
          cases ha
          cases ok with
          | false => exact ⟨.iface u vr, by simp only [Instr.typeAssert, Sem.run_bind, run_underlying' hu, Result.andThen_ok, run_info hi', hm, Sem.run_pure]; rfl, .iface u hv⟩
          | true => exact ⟨.tuple #[.iface u vr, .bool true], by simp only [Instr.typeAssert, Sem.run_bind, run_underlying' hu, Result.andThen_ok, run_info hi', hm, Sem.run_pure]; rfl, .tuple (.cons (.iface u hv) (.cons (.bool _) .nil))⟩
        · rename_i hm
          split at ha
          · rename_i z hz
            cases ha
            obtain ⟨h1, h2⟩ := run_zeroVal (e := e) hz w
            exact ⟨_, by simp only [Instr.typeAssert, Sem.run_bind, run_underlying' hu, Result.andThen_ok, run_info hi', hm, if_true, h1, Sem.run_pure], .tuple (.cons h2 (.cons (.bool _) .nil))⟩
          · cases ha
      · cases ha
  · rename_i d hd hu
    cases hx
    split at ha
    · rename_i z hz
      cases ha
      obtain ⟨h1, h2⟩ := run_zeroVal (e := e) hz w
      refine ⟨_, ?_, .tuple (.cons h2 (.cons (.bool _) .nil))⟩
      simp only [Instr.typeAssert, Sem.run_bind, run_underlying' hu, Result.andThen_ok]
      cases d <;> first | exact absurd rfl (hd _) | simp [h1]
    · cases ha
  · rename_i d u v1 hd hu
    cases hx with
    | @iface _ _ vr hv =>
      split at ha
      · rename_i hb
        cases ha
        have := Nat.eq_of_beq_eq_true hb
        subst this
        have key : (Instr.typeAssert (.iface u vr) xt u ok).run B.P w = .ok (if ok = true then .tuple #[vr, .bool true] else vr) w := by
          simp only [Instr.typeAssert, Sem.run_bind, run_underlying' hu, Result.andThen_ok]
          cases d <;> first | exact absurd rfl (hd _) | (cases ok <;> simp)
        cases ok with
        | false => exact ⟨vr, key, hv⟩
        | true => exact ⟨.tuple #[vr, .bool true], key, .tuple (.cons hv (.cons (.bool _) .nil))⟩
      · rename_i hb
        split at ha
        · rename_i z hz
          cases ha
          obtain ⟨h1, h2⟩ := run_zeroVal (e := e) hz w
          have hne : u ≠ t := fun x => by rw [x, Nat.beq_refl] at hb; cases hb
          refine ⟨_, ?_, .tuple (.cons h2 (.cons (.bool _) .nil))⟩
          simp only [Instr.typeAssert, Sem.run_bind, run_underlying' hu, Result.andThen_ok]
          cases d <;> first | exact absurd rfl (hd _) | simp [h1, hne]
        · cases ha
  · cases ha
end
end
end Go.Eng

namespace Go.Eng
open Go
noncomputable section

section
variable {B : Base} {e : Env} {h : Heap} {w : World}

/-- what is found in a map -/
def FR (e : Env) : Option (Nat × Value) → Option (Nat × Value) → Prop
  | none, none => True
  | some (i, v), some (j, v') => i = j ∧ VR e v v'
  | _, _ => False
theorem run_findAsking {kt : TypeId} {k k' : Value} (hk : VR e k k') (w : World) : ∀ {es es' : List MapEntry} {i : Nat} {r : Option (Nat × Value)}, afind B.c kt k es i = some r → ERs e es es' →
    ∃ r', (Instr.findAsking kt k' es' i).run B.P w = .ok r' w ∧ FR e r r'
  | [], _, i, r, ha, .nil => by
    simp only [afind] at ha
    cases ha
    exact ⟨none, by simp only [Instr.findAsking, Sem.run_pure], trivial⟩
  | x :: es, _, i, r, ha, .cons hkk hv hb t => by
    simp only [afind] at ha
    split at ha
    · rename_i he
      cases ha
      have := run_aequal he hk hkk w
      exact ⟨some (i, _), by simp only [Instr.findAsking, Sem.run_bind, this, Result.andThen_ok, if_true, Sem.run_pure], rfl, hv⟩
    · rename_i he
      have := run_aequal he hk hkk w
      obtain ⟨r', h1, h2⟩ := run_findAsking hk w ha t
      exact ⟨r', by simp only [Instr.findAsking, Sem.run_bind, this, Result.andThen_ok, Bool.false_eq_true, if_false, h1], h2⟩
    · cases ha
theorem eqIn_int {kt : TypeId} {kk : IntKind} (hu : B.c.P.underlying kt = some (.int kk)) (k : IntKind) (a b : Int) (n : Nat) : (Op.equalIn (n + 1) kt (.int k a) (.int k b)).run B.P w = .ok (a == b) w := by
  simp [Op.equalIn, run_underlying' hu]
theorem eqIn_string {kt : TypeId} (hu : B.c.P.underlying kt = some .string) (a b : ByteArray) (n : Nat) : (Op.equalIn (n + 1) kt (.string a) (.string b)).run B.P w = .ok (a == b) w := by
  simp [Op.equalIn, run_underlying' hu]
theorem eqIn_bool {kt : TypeId} (hu : B.c.P.underlying kt = some .bool) (a b : Bool) (n : Nat) : (Op.equalIn (n + 1) kt (.bool a) (.bool b)).run B.P w = .ok (a == b) w := by
  simp [Op.equalIn, run_underlying' hu]
theorem sameNow_eq {kt : TypeId} {d : TypeDesc} (hu : B.c.P.underlying kt = some d) {k k' x x' : Value} {b b' : Bool} (he : aequal B.c kt k x = some b) (hk : VR e k k') (hx : VR e x x') (hs : Instr.sameNow d k' x' = some b') : b = b' := by
  have hr := run_aequal he hk hx default
  have fin : ∀ c : Bool, (Op.equal kt k' x').run B.P default = .ok c default → b = c := fun c h => by
    rw [h] at hr; cases hr; rfl
  unfold Instr.sameNow at hs
  split at hs
  · split at hs
    · rename_i kk
      cases hs
      subst kk
      exact fin _ (eqIn_int hu _ _ _ 9999)
    · cases hs
  · cases hs
    exact fin _ (eqIn_string hu _ _ 9999)
  · cases hs
    exact fin _ (eqIn_bool hu _ _ 9999)
  · cases hs
theorem findNow_eq {kt : TypeId} {d : TypeDesc} (hu : B.c.P.underlying kt = some d) {k k' : Value} (hk : VR e k k') : ∀ {es es' : List MapEntry} {i : Nat} {r r' : Option (Nat × Value)}, afind B.c kt k es i = some r → ERs e es es' →
    Instr.findNow d k' es' i = some r' → FR e r r'
  | [], _, i, r, r', ha, .nil, hf => by
    simp only [afind] at ha
    simp only [Instr.findNow] at hf
    cases ha; cases hf; trivial
  | x :: es, _, i, r, r', ha, .cons hkk hv hb t, hf => by
    simp only [afind] at ha
    simp only [Instr.findNow] at hf
    split at ha
    · rename_i he
      cases ha
      split at hf
      · cases hf; exact ⟨rfl, hv⟩
      · rename_i hs; have := sameNow_eq hu he hk hkk hs; cases this
      · cases hf
    · rename_i he
      split at hf
      · rename_i hs; have := sameNow_eq hu he hk hkk hs; cases this
      · exact findNow_eq hu hk ha t hf
      · cases hf
    · cases ha
theorem run_findKey {kt : TypeId} {d : TypeDesc} (hu : B.c.P.underlying kt = some d) {k k' : Value} (hk : VR e k k') {es es' : List MapEntry} {r : Option (Nat × Value)} (ha : afind B.c kt k es 0 = some r) (he : ERs e es es') (w : World) :
    ∃ r', (Instr.findKey kt k' es').run B.P w = .ok r' w ∧ FR e r r' := by
  cases hf : Instr.findNow d k' es' 0 with
  | some r' =>
    exact ⟨r', by simp only [Instr.findKey, Sem.run_bind, run_underlying' hu, Result.andThen_ok, hf, Sem.run_pure], findNow_eq hu hk ha he hf⟩
  | none =>
    obtain ⟨r', h1, h2⟩ := run_findAsking hk w ha he
    exact ⟨r', by simp only [Instr.findKey, Sem.run_bind, run_underlying' hu, Result.andThen_ok, hf, h1], h2⟩

/-- a key that may be asked for -/
theorem run_akeyOk {b : Bool} : ∀ (d n : Nat) (t : TypeId) (v v' : Value), akeyOk B.c d t v = true → d ≤ n → VR e v v' → ∀ w, (Instr.checkKey b n t v').run B.P w = .ok () w
  | 0, n, t, v, v', ha, hd, hv, w => by simp [akeyOk] at ha
  | d + 1, 0, t, v, v', ha, hd, hv, w => by omega
  | d + 1, n + 1, t, v, v', ha, hd, hv, w => by
    unfold akeyOk at ha
    split at ha
    · rename_i fs cs hu
      cases hv with
      | @agg _ cs' hl =>
        simp only [Instr.checkKey, Sem.run_bind, run_underlying' hu, Result.andThen_ok]
        have key : ∀ (l : List Field), l.all (fun f => f.name = "_" || match apart B.c f.type cs f.offset with | some x => akeyOk B.c d f.type x | none => false) = true →
            ∀ (u : PUnit), (forIn (m := Sem) l u fun f _ => do
              if f.name ≠ "_" then Instr.checkKey b n f.type (← part f.type cs' f.offset)
              pure (ForInStep.yield PUnit.unit)).run B.P w = .ok PUnit.unit w := by
          intro l
          induction l with
          | nil => intro _ u; simp
          | cons f l ih =>
            intro hl' u
            rw [List.all_cons, Bool.and_eq_true] at hl'
            obtain ⟨h1, h2⟩ := hl'
            simp only [List.forIn_cons, Sem.run_bind]
            by_cases hf : f.name = "_"
            · simp only [hf, ne_eq, not_true_eq_false, if_false, Sem.run_pure, Result.andThen_ok]
              exact ih h2 _
            · rw [Bool.or_eq_true] at h1
              rcases h1 with h1 | h1
              · exact absurd (of_decide_eq_true h1) hf
              · split at h1
                · rename_i x hx
                  obtain ⟨x', hpr, hpv⟩ := run_apart hx hl w
                  have hck := run_akeyOk (b := b) d n f.type x x' h1 (by omega) hpv w
                  simp only [ne_eq, hf, not_false_eq_true, if_true, Sem.run_bind, hpr, Result.andThen_ok, hck, Sem.run_pure]
                  exact ih h2 _
                · cases h1
        have h3 := key fs.toList ha PUnit.unit
        simp at h3
        simp [h3]
    · cases ha
    · cases ha
    · cases ha
    · rename_i d1 hA hB hC hu hD
      simp only [Instr.checkKey, Sem.run_bind, run_underlying' hu, Result.andThen_ok]
      cases d1 <;> first | exact (hA _ rfl).elim | exact (hA _ _ rfl).elim | exact (hB _ rfl).elim | exact (hB _ _ rfl).elim | exact (hC _ rfl).elim | exact (hC _ _ rfl).elim | simp
    · cases ha
end
end
end Go.Eng

namespace Go.Eng
open Go
noncomputable section

section
variable {B : Base} {e : Env} {h : Heap} {w : World}

theorem HS.map_at (s : HS B e h w) {r : Nat} {es : List MapEntry} {clock : Nat} (g : h.get r = some (.map es clock)) (hx : (e.at r).isSome = true) :
    ∃ R κ L, e.at r = some (R, 0, κ) ∧ w.heap[R]? = some (.map L clock) ∧ ERs e es L.toList := by
  obtain ⟨b, base, κ, ob, ha, hw, ho, _⟩ := s.live _ _ g hx
  cases ho with
  | map _ hb he => subst hb; exact ⟨b, κ, _, ha, hw, he⟩

theorem run_alookup (s : HS B e h w) {t : TypeId} {x x' k k' v : Value} {ok : Bool} (ha : alookup B.c t x k ok h = some v) (hx : VR e x x') (hk : VR e k k') :
    ∃ v', (Instr.lookup t x' k' ok).run B.P w = .ok v' w ∧ VR e v v' := by
  unfold alookup at ha
  split at ha
  · rename_i kt el es hu hm
    have hes : ∃ L : Array MapEntry, ERs e es L.toList ∧ ((x' = .map none ∧ L = #[]) ∨ ∃ R clock, x' = .map (some R) ∧ w.heap[R]? = some (.map L clock)) := by
      unfold amapOf at hm
      split at hm
      · cases hm; cases hx; exact ⟨#[], .nil, .inl ⟨rfl, rfl⟩⟩
      · rename_i r
        split at hm
        · rename_i es' clock hg
          cases hm
          cases hx with
          | map hat =>
            obtain ⟨R, κ, L, ha', hw, he⟩ := s.map_at hg (at_some hat)
            rw [hat] at ha'; cases ha'
            exact ⟨L, he, .inr ⟨_, _, rfl, hw⟩⟩
        · cases hm
      · cases hm
    obtain ⟨L, hE, hsh⟩ := hes
    have run : ∀ (r : Option (Nat × Value)) (z : Value), akeyOk B.c 10 kt k = true → afind B.c kt k es 0 = some r → zeroVal B.c el = some z →
        ∃ v', (Instr.lookup t x' k' ok).run B.P w = .ok v' w ∧ VR e (match r with
          | some (_, v) => if ok then .tuple #[v, .bool true] else v
          | none => if ok then .tuple #[z, .bool false] else z) v' := by
      intro r z hko hf hz
      have hck := run_akeyOk (b := L.isEmpty) 10 10000 kt k k' hko (by omega) hk w
      obtain ⟨kd, hkd⟩ : ∃ kd, B.c.P.underlying kt = some kd := by
        unfold akeyOk at hko
        cases hq : B.c.P.underlying kt with
        | none => rw [hq] at hko; simp at hko
        | some kd => exact ⟨kd, rfl⟩
      obtain ⟨r', hfr, hFR⟩ := run_findKey hkd hk hf hE w
      obtain ⟨hzr, hzv⟩ := run_zeroVal (e := e) hz w
      cases r with
      | none =>
        cases r' with
        | some q => exact hFR.elim
        | none =>
          refine ⟨if ok then .tuple #[z, .bool false] else z, ?_, ?_⟩
          · rcases hsh with ⟨rfl, rfl⟩ | ⟨R, clock, rfl, hw⟩
            · simp only [Instr.lookup, Sem.run_bind, run_underlying' hu, Result.andThen_ok, Sem.run_pure, hck, hfr, hzr]
            · simp only [Instr.lookup, Sem.run_bind, run_underlying' hu, Result.andThen_ok, Sem.run_pure, run_getObj hw (fun _ _ _ x => by cases x), hck, hfr, hzr]
          · cases ok
            · exact hzv
            · exact .tuple (.cons hzv (.cons (.bool _) .nil))
      | some q =>
        obtain ⟨i, v0⟩ := q
        cases r' with
        | none => exact hFR.elim
        | some q' =>
          obtain ⟨j, v1⟩ := q'
          obtain ⟨_, hv⟩ := hFR
          refine ⟨if ok then .tuple #[v1, .bool true] else v1, ?_, ?_⟩
          · rcases hsh with ⟨rfl, rfl⟩ | ⟨R, clock, rfl, hw⟩
            · simp only [Instr.lookup, Sem.run_bind, run_underlying' hu, Result.andThen_ok, Sem.run_pure, hck, hfr]
            · simp only [Instr.lookup, Sem.run_bind, run_underlying' hu, Result.andThen_ok, Sem.run_pure, run_getObj hw (fun _ _ _ x => by cases x), hck, hfr]
          · cases ok
            · exact hv
            · exact .tuple (.cons hv (.cons (.bool _) .nil))
    split at ha
    · rename_i i v0 z hko hf hz
      cases ha
      exact run _ z hko hf hz
    · rename_i z hko hf hz
      cases ha
      exact run _ z hko hf hz
    · cases ha
  · cases ha

theorem ERs.get {e : Env} : ∀ {l m : List MapEntry}, ERs e l m → ∀ (i : Nat) (x : MapEntry), l[i]? = some x → ∃ y, m[i]? = some y ∧ VR e x.key y.key ∧ VR e x.val y.val ∧ x.born = y.born
  | _, _, .nil, i, x, h => by simp at h
  | _, _, .cons hk hv hb t, 0, x, h => by simp at h; subst h; exact ⟨_, rfl, hk, hv, hb⟩
  | _, _, .cons hk hv hb t, i + 1, x, h => by simp at h ⊢; exact t.get i x h
theorem ERs.modify {e : Env} {k k' v v' : Value} (hk : VR e k k') (hv : VR e v v') : ∀ {l m : List MapEntry}, ERs e l m → ∀ i, ERs e (l.modify i fun e => { e with key := k, val := v }) (m.modify i fun e => { e with key := k', val := v' })
  | _, _, .nil, i => by simp; exact .nil
  | _, _, .cons _ _ hb t, 0 => by simp; exact .cons hk hv hb t
  | _, _, .cons h1 h2 hb t, i + 1 => by simp; exact .cons h1 h2 hb (t.modify hk hv i)
theorem ERs.erase {e : Env} : ∀ {l m : List MapEntry}, ERs e l m → ∀ i, ERs e (l.eraseIdx i) (m.eraseIdx i)
  | _, _, .nil, i => by simp; exact .nil
  | _, _, .cons _ _ _ t, 0 => by simp; exact t
  | _, _, .cons h1 h2 hb t, i + 1 => by simp; exact .cons h1 h2 hb (t.erase i)
theorem ERs.snoc {e : Env} {k k' v v' : Value} {n : Nat} (hk : VR e k k') (hv : VR e v v') : ∀ {l m : List MapEntry}, ERs e l m → ERs e (l ++ [{ key := k, val := v, born := n }]) (m ++ [{ key := k', val := v', born := n }])
  | _, _, .nil => .cons hk hv rfl .nil
  | _, _, .cons h1 h2 hb t => .cons h1 h2 hb (t.snoc hk hv)

theorem VR.plain1_eq {e : Env} {v v' : Value} (hp : Eng.plain1 v = true) (hv : VR e v v') : v' = v := by
  unfold Eng.plain1 at hp
  split at hp <;> first | (cases hv; rfl) | cases hp
theorem VRs.plain1_eq {e : Env} : ∀ {l m : List Value}, l.all Eng.plain1 = true → VRs e l m → m = l
  | _, _, _, .nil => rfl
  | _, _, hp, .cons hv ht => by
    rw [List.all_cons, Bool.and_eq_true] at hp
    rw [VR.plain1_eq hp.1 hv, VRs.plain1_eq hp.2 ht]
theorem VR.plain_eq {e : Env} {v v' : Value} (hp : Eng.plain v = true) (hv : VR e v v') : v' = v := by
  unfold Eng.plain at hp
  split at hp
  · cases hv with
    | agg hl => rw [Array.toList_inj.1 (VRs.plain1_eq hp hl)]
  · cases hv with
    | tuple hl => rw [Array.toList_inj.1 (VRs.plain1_eq hp hl)]
  · exact VR.plain1_eq hp hv

theorem run_amapUpdate (s : HS B e h w) {t : TypeId} {m m' k k' v v' : Value} {h' : Heap} (ha : amapUpdate B.c t m k v h = some h') (hm : VR e m m') (hk : VR e k k') (hv : VR e v v') :
    ∃ w', (Instr.mapUpdate t m' k' v').run B.P w = .ok () w' ∧ HS B e h' w' := by
  unfold amapUpdate at ha
  split at ha
  · rename_i kt el r hu
    split at ha
    · rename_i es clock hg
      cases hm with
      | @map _ R κ hat =>
        obtain ⟨R', κ', L, ha', hw, hE⟩ := s.map_at hg (at_some hat)
        rw [hat] at ha'; cases ha'
        have hget := run_getObj (B := B) hw (fun _ _ _ x => by cases x)
        have hset : ∀ o, (setObj R o).run B.P w = .ok () { w with heap := w.heap.setIfInBounds R o } := fun o => run_setObj o hw (fun _ _ _ x => by cases x)
        have hkd : akeyOk B.c 10 kt k = true → ∃ kd, B.c.P.underlying kt = some kd := by
          intro hko
          unfold akeyOk at hko
          cases hq : B.c.P.underlying kt with
          | none => rw [hq] at hko; simp at hko
          | some kd => exact ⟨kd, rfl⟩
        split at ha
        · rename_i i v0 hko hpk hf
          split at ha
          · rename_i old hold
            split at ha
            · rename_i hcond
              cases ha
              rw [Bool.and_eq_true] at hcond
              have hck := run_akeyOk (b := false) 10 10000 kt k k' hko (by omega) hk w
              obtain ⟨kd, hkd⟩ := hkd hko
              obtain ⟨r', hfr, hFR⟩ := run_findKey hkd hk hf hE w
              cases r' with
              | none => exact hFR.elim
              | some q =>
                obtain ⟨j, v1⟩ := q
                obtain ⟨rfl, _⟩ := hFR
                obtain ⟨y, hy, hky, _, _⟩ := hE.get _ _ hold
                have e1 : y.key = old.key := VR.plain_eq hcond.1 hky
                have e2 : k' = k := VR.plain_eq hpk hk
                have hy' : L[i]? = some y := by simpa using hy
                have hstay : (Instr.keyThatStays (((L[i]?).map (·.key)).getD k') k').run B.P w = .ok k' w := by
                  rw [hy']
                  simp only [Option.map_some, Option.getD_some, Instr.keyThatStays, e1, e2, hcond.2, if_true, Sem.run_pure]
                refine ⟨_, ?_, s.upd hg hat (.map (L := L.modify i fun e => { e with key := k', val := v' }) clock rfl ?_) (Upd.of_set hw)⟩
                · simp only [Instr.mapUpdate, Sem.run_bind, run_underlying' hu, Result.andThen_ok, hget, hck, hfr, hstay, hset]
                · rw [Array.toList_modify]; exact hE.modify hk hv i
            · cases ha
          · cases ha
        · rename_i hko hpk hf
          cases ha
          have hck := run_akeyOk (b := false) 10 10000 kt k k' hko (by omega) hk w
          obtain ⟨kd, hkd⟩ := hkd hko
          obtain ⟨r', hfr, hFR⟩ := run_findKey hkd hk hf hE w
          cases r' with
          | some q => exact hFR.elim
          | none =>
            refine ⟨_, ?_, s.upd hg hat (.map (L := L.push { key := k', val := v', born := clock }) (clock + 1) rfl ?_) (Upd.of_set hw)⟩
            · simp only [Instr.mapUpdate, Sem.run_bind, run_underlying' hu, Result.andThen_ok, hget, hck, hfr, hset]
            · rw [Array.toList_push]; exact hE.snoc hk hv
        · cases ha
    · cases ha
  · cases ha

theorem run_adelete (s : HS B e h w) {t : TypeId} {ts : List TypeId} {ty : TypeId} {m m' k k' v : Value} {h' : Heap} (ha : adelete B.c t m k h = some (v, h')) (hm : VR e m m') (hk : VR e k k') :
    ∃ w' v', (Builtin.delete_ (t :: ts).toArray ty #[m', k']).run B.P w = .ok v' w' ∧ VR e v v' ∧ HS B e h' w' := by
  have e0 : (t :: ts).toArray[0]? = some t := by simp
  have e1 : (#[m', k'] : Array Value)[0]? = some m' := rfl
  have e2 : (#[m', k'] : Array Value)[1]? = some k' := rfl
  unfold adelete at ha
  split at ha
  · rename_i kt el hu
    split at ha
    · rename_i hko
      cases ha; cases hm
      have hck := run_akeyOk (b := true) 10 10000 kt k k' hko (by omega) hk w
      exact ⟨w, _, by simp only [Builtin.delete_, e0, e1, e2, Sem.run_bind, run_underlying' hu, Result.andThen_ok, hck, Sem.run_pure]; rfl, VR.undef, s⟩
    · cases ha
  · rename_i kt el r hu
    split at ha
    · rename_i es clock hg
      cases hm with
      | @map _ R κ hat =>
        obtain ⟨R', κ', L, ha', hw, hE⟩ := s.map_at hg (at_some hat)
        rw [hat] at ha'; cases ha'
        have hget := run_getObj (B := B) hw (fun _ _ _ x => by cases x)
        have hset : ∀ o, (setObj R o).run B.P w = .ok () { w with heap := w.heap.setIfInBounds R o } := fun o => run_setObj o hw (fun _ _ _ x => by cases x)
        have hkd : akeyOk B.c 10 kt k = true → ∃ kd, B.c.P.underlying kt = some kd := by
          intro hko
          unfold akeyOk at hko
          cases hq : B.c.P.underlying kt with
          | none => rw [hq] at hko; simp at hko
          | some kd => exact ⟨kd, rfl⟩
        split at ha
        · rename_i i v0 hko hf
          cases ha
          have hck := run_akeyOk (b := L.isEmpty) 10 10000 kt k k' hko (by omega) hk w
          obtain ⟨kd, hkd⟩ := hkd hko
          obtain ⟨r', hfr, hFR⟩ := run_findKey hkd hk hf hE w
          cases r' with
          | none => exact hFR.elim
          | some q =>
            obtain ⟨j, v1⟩ := q
            obtain ⟨rfl, _⟩ := hFR
            refine ⟨_, _, ?_, VR.undef, s.upd hg hat (.map (L := L.eraseIdxIfInBounds i) clock rfl ?_) (Upd.of_set hw)⟩
            · simp only [Builtin.delete_, e0, e1, e2, Sem.run_bind, run_underlying' hu, Result.andThen_ok, hget, hck, hfr, hset, Sem.run_pure]
              rfl
            · rw [Array.toList_eraseIdxIfInBounds]; exact hE.erase i
        · rename_i hko hf
          cases ha
          have hck := run_akeyOk (b := L.isEmpty) 10 10000 kt k k' hko (by omega) hk w
          obtain ⟨kd, hkd⟩ := hkd hko
          obtain ⟨r', hfr, hFR⟩ := run_findKey hkd hk hf hE w
          cases r' with
          | some q => exact hFR.elim
          | none =>
            refine ⟨_, _, ?_, VR.undef, s.touch hg hat (.map (L := L) clock rfl hE) (Upd.of_set hw)⟩
            simp only [Builtin.delete_, e0, e1, e2, Sem.run_bind, run_underlying' hu, Result.andThen_ok, hget, hck, hfr, hset, Sem.run_pure]
            rfl
        · cases ha
    · cases ha
  · cases ha
end
end
end Go.Eng

namespace Go.Eng
open Go
noncomputable section

section
variable {B : Base} {e : Env} {h : Heap} {w : World}

theorem VRs.two {a b : Value} {m : List Value} (hv : VRs e [a, b] m) : ∃ a' b', m = [a', b'] ∧ VR e a a' ∧ VR e b b' := by
  cases hv with
  | cons ha t => cases t with
    | cons hb t => cases t; exact ⟨_, _, rfl, ha, hb⟩
theorem VRs.one {a : Value} {m : List Value} (hv : VRs e [a] m) : ∃ a', m = [a'] ∧ VR e a a' := by
  cases hv with
  | cons ha t => cases t; exact ⟨_, rfl, ha⟩

theorem run_aclear (s : HS B e h w) {t : TypeId} {ts : List TypeId} {ty : TypeId} {x x' v : Value} {h' : Heap} (ha : aclear B.c t x h = some (v, h')) (hx : VR e x x') :
    ∃ w' v', (Builtin.clear_ (t :: ts).toArray ty #[x']).run B.P w = .ok v' w' ∧ VR e v v' ∧ HS B e h' w' := by
  have e0 : (t :: ts).toArray[0]? = some t := by simp
  have e1 : (#[x'] : Array Value)[0]? = some x' := rfl
  unfold aclear at ha
  split at ha
  · rename_i hu
    cases ha; cases hx
    exact ⟨w, _, by simp only [Builtin.clear_, e0, e1, Sem.run_bind, run_underlying' hu, Result.andThen_ok, Sem.run_pure]; rfl, VR.undef, s⟩
  · rename_i hu
    cases ha
    cases hx with
    | slice off l c hat hc hl => exact ⟨w, _, by simp only [Builtin.clear_, e0, e1, Sem.run_bind, run_underlying' hu, Result.andThen_ok, Sem.run_pure]; rfl, VR.undef, s⟩
    | sliceE x c => exact ⟨w, _, by simp only [Builtin.clear_, e0, e1, Sem.run_bind, run_underlying' hu, Result.andThen_ok, Sem.run_pure]; rfl, VR.undef, s⟩
  · rename_i el b off n cp hne hu
    split at ha
    · rename_i sz z hsz hz
      split at ha
      · rename_i h1 hzl hwr
        cases ha
        have hzl := Nat.eq_of_beq_eq_true hzl
        obtain ⟨zv, hzr, hzc⟩ := run_zero (B := B) hz w
        obtain ⟨_, _, _, _, _, hpz⟩ := zero_info hz
        cases hx with
        | @slice _ b1 base κ _ _ _ hat hc hl =>
          have hrep : VRs e (rep z (n * sz)) (Builtin.zeroCells zv.cells n).toList := by
            have := rep_VRs (e := e) hpz hzc (n * sz)
            rw [← hzl, ← hzc, Array.length_toList] at this ⊢
            exact this
          obtain ⟨b2, base2, κ2, w', ha', hrun, hs'⟩ := run_write s hwr hrep (at_some hat)
          obtain ⟨rfl, rfl, rfl⟩ : b1 = b2 ∧ base = base2 ∧ κ = κ2 := by simpa using at_inj hat ha'
          refine ⟨w', _, ?_, VR.undef, hs'⟩
          cases n with
          | zero => exact (hne (by first | rfl | assumption)).elim
          | succ n' =>
            simp only [Builtin.clear_, e0, e1, Sem.run_bind, run_underlying' hu, Result.andThen_ok, hzr, hrun, Sem.run_pure]
            rfl
      · cases ha
    · cases ha
  · rename_i hu
    cases ha; cases hx
    exact ⟨w, _, by simp only [Builtin.clear_, e0, e1, Sem.run_bind, run_underlying' hu, Result.andThen_ok, Sem.run_pure]; rfl, VR.undef, s⟩
  · rename_i kt el r hu
    split at ha
    · rename_i es clock hg
      cases ha
      cases hx with
      | @map _ R κ hat =>
        obtain ⟨R', κ', L, ha', hw, hE⟩ := s.map_at hg (at_some hat)
        rw [hat] at ha'; cases ha'
        have hget := run_getObj (B := B) hw (fun _ _ _ x => by cases x)
        have hset : ∀ o, (setObj R o).run B.P w = .ok () { w with heap := w.heap.setIfInBounds R o } := fun o => run_setObj o hw (fun _ _ _ x => by cases x)
        refine ⟨_, _, ?_, VR.undef, s.upd hg hat (.map (L := #[]) clock rfl .nil) (Upd.of_set hw)⟩
        simp only [Builtin.clear_, e0, e1, Sem.run_bind, run_underlying' hu, Result.andThen_ok, hget, hset, Sem.run_pure]
        rfl
    · cases ha
  · cases ha

theorem run_abuiltin (s : HS B e h w) {b : Builtin} {ts : Array TypeId} {ty : TypeId} {cs : Array Bool} {args : List Value} {args' : Array Value} {v : Value} {h' : Heap}
    (ha : abuiltin B.c b ts.toList args h = some (v, h')) (hx : VRs e args args'.toList) :
    ∃ e' w' v', e.le e' ∧ (builtin b ts ty cs args').run B.P w = .ok (.value v') w' ∧ VR e' v v' ∧ HS B e' h' w' := by
  have hts : ts.toList.toArray = ts := by simp
  unfold abuiltin at ha
  split at ha
  · obtain ⟨a', b', hl, h1, h2⟩ := hx.two
    have : args' = #[a', b'] := by apply Array.ext'; rw [hl]
    subst this
    obtain ⟨e', w', v', hle, hr, hv, hs⟩ := run_aappend (ty := ty) s ha h1 h2
    rw [hts] at hr
    exact ⟨e', w', v', hle, by simp only [builtin, Sem.run_bind, hr, Result.andThen_ok, Sem.run_pure], hv, hs⟩
  · obtain ⟨a', b', hl, h1, h2⟩ := hx.two
    have : args' = #[a', b'] := by apply Array.ext'; rw [hl]
    subst this
    obtain ⟨w', v', hr, hv, hs⟩ := run_acopy (ty := ty) s ha h1 h2
    rw [hts] at hr
    exact ⟨e, w', v', Env.le_refl _, by simp only [builtin, Sem.run_bind, hr, Result.andThen_ok, Sem.run_pure], hv, hs⟩
  · obtain ⟨a', hl, h1⟩ := hx.one
    have : args' = #[a'] := by apply Array.ext'; rw [hl]
    subst this
    split at ha
    · rename_i t rest hte
      split at ha
      · rename_i v1 hv1
        cases ha
        obtain ⟨hr, hv⟩ := run_alen (ts := rest) (ty := ty) s hv1 h1
        rw [← hte, hts] at hr
        exact ⟨e, w, v, Env.le_refl _, by simp only [builtin, Sem.run_bind, hr, Result.andThen_ok, Sem.run_pure], hv, s⟩
      · cases ha
    · cases ha
  · obtain ⟨a', hl, h1⟩ := hx.one
    have : args' = #[a'] := by apply Array.ext'; rw [hl]
    subst this
    split at ha
    · rename_i t rest hte
      split at ha
      · rename_i v1 hv1
        cases ha
        obtain ⟨hr, hv⟩ := run_acap (ts := rest) (ty := ty) hv1 h1 w
        rw [← hte, hts] at hr
        exact ⟨e, w, v, Env.le_refl _, by simp only [builtin, Sem.run_bind, hr, Result.andThen_ok, Sem.run_pure], hv, s⟩
      · cases ha
    · cases ha
  · split at ha
    · rename_i v1 hv1
      cases ha
      generalize hl : args'.toList = l at hx
      cases hx with
      | cons hx ht =>
        obtain ⟨v', hr, hv⟩ := run_fold2 (fun x y x' y' v ha hx hy => run_min2 (e := e) ha hx hy w) _ _ _ _ _ hv1 hx ht
        refine ⟨e, w, v', Env.le_refl _, ?_, hv, s⟩
        have hd : (builtin .min ts ty cs args').run B.P w = ((Builtin.min_ ts ty args').run B.P w).andThen fun a w' => .ok (.value a) w' := by simp only [builtin, Sem.run_bind, Sem.run_pure]
        rw [hd]
        unfold Builtin.min_
        rw [hl]
        simp only
        rw [hr]
        rfl
    · cases ha
  · split at ha
    · rename_i v1 hv1
      cases ha
      generalize hl : args'.toList = l at hx
      cases hx with
      | cons hx ht =>
        obtain ⟨v', hr, hv⟩ := run_fold2 (fun x y x' y' v ha hx hy => run_max2 (e := e) ha hx hy w) _ _ _ _ _ hv1 hx ht
        refine ⟨e, w, v', Env.le_refl _, ?_, hv, s⟩
        have hd : (builtin .max ts ty cs args').run B.P w = ((Builtin.max_ ts ty args').run B.P w).andThen fun a w' => .ok (.value a) w' := by simp only [builtin, Sem.run_bind, Sem.run_pure]
        rw [hd]
        unfold Builtin.max_
        rw [hl]
        simp only
        rw [hr]
        rfl
    · cases ha
  · obtain ⟨a', b', hl, h1, h2⟩ := hx.two
    have : args' = #[a', b'] := by apply Array.ext'; rw [hl]
    subst this
    split at ha
    · rename_i t rest hte
      obtain ⟨w', v', hr, hv, hs⟩ := run_adelete (ts := rest) (ty := ty) s ha h1 h2
      rw [← hte, hts] at hr
      exact ⟨e, w', v', Env.le_refl _, by simp only [builtin, Sem.run_bind, hr, Result.andThen_ok, Sem.run_pure], hv, hs⟩
    · cases ha
  · obtain ⟨a', hl, h1⟩ := hx.one
    have : args' = #[a'] := by apply Array.ext'; rw [hl]
    subst this
    split at ha
    · rename_i t rest hte
      obtain ⟨w', v', hr, hv, hs⟩ := run_aclear (ts := rest) (ty := ty) s ha h1
      rw [← hte, hts] at hr
      exact ⟨e, w', v', Env.le_refl _, by simp only [builtin, Sem.run_bind, hr, Result.andThen_ok, Sem.run_pure], hv, hs⟩
    · cases ha
  · obtain ⟨a', b', hl, h1, h2⟩ := hx.two
    have : args' = #[a', b'] := by apply Array.ext'; rw [hl]
    subst this
    split at ha
    · cases ha
    · rename_i t rest hte
      obtain ⟨w', v', hr, hv, hs⟩ := run_aunsafeString (ty := ty) s ha h1 h2 (by rw [hte]; simp)
      rw [hts] at hr
      exact ⟨e, w', v', Env.le_refl _, by simp only [builtin, Sem.run_bind, hr, Result.andThen_ok, Sem.run_pure], hv, hs⟩
  · obtain ⟨a', hl, h1⟩ := hx.one
    have : args' = #[a'] := by apply Array.ext'; rw [hl]
    subst this
    cases ha
    cases h1
    exact ⟨e, w, _, Env.le_refl _, rfl, .ptr0, s⟩
  · rename_i aa nn cc
    obtain ⟨a', hl, h1⟩ := hx.one
    have : args' = #[a'] := by apply Array.ext'; rw [hl]
    subst this
    cases ha
    obtain ⟨a2, l2, c2, rfl, hc0, hv⟩ : ∃ a2 l2 c2, a' = .slice (some a2) l2 c2 ∧ c2 ≠ 0 ∧ VR e (.pointer (some aa)) (.pointer (some a2)) := by
      cases h1 with
      | slice off l c hat hc hlen => exact ⟨_, _, _, rfl, by omega, .ptr _ hat⟩
    refine ⟨e, w, _, Env.le_refl _, ?_, hv, s⟩
    change Sem.run B.P ((if c2 ≠ 0 then pure (.pointer (some a2)) else _ : Sem Value) >>= _) w = _
    rw [if_pos hc0]
    rfl
  · cases ha

theorem run_amethod (s : HS B e h w) {t : TypeId} {v v' r : Value} {name : String} {f : FuncId} (ha : amethod B.c h t v name = some (f, r)) (hv : VR e v v') (n : Nat) :
    ∃ r', (method (n + 1) t v' name).run B.P w = .ok (f, r') w ∧ VR e r r' := by
  unfold amethod at ha
  split at ha
  · rename_i i hi
    have hi' : B.c.P.info? t = some i := hi
    split at ha
    · rename_i m hm
      rw [Array.find?_toList] at hm
      split at ha
      · rename_i f1 hp hf
        split at ha
        · rename_i el hu
          cases ha
          refine ⟨v', ?_, hv⟩
          simp only [method, Sem.run_bind, run_info hi', Result.andThen_ok, hm, hp, follow, Sem.run_pure, hf, receiverAt, run_underlying' hu, Place.get]
        · cases ha
      · rename_i f1 hp hf
        split at ha
        · rename_i el hu
          split at ha
          · rename_i r1 hl
            cases ha
            obtain ⟨r', hr, hvr⟩ := run_aload s hl hv
            refine ⟨r', ?_, hvr⟩
            obtain ⟨a, rfl⟩ : ∃ a, v' = .pointer (some a) := by
              unfold aload at hl
              split at hl
              · cases hv; exact ⟨_, rfl⟩
              · cases hl
            have hpe : m.path.isEmpty = true := by simpa using hp
            simp only [Instr.loadAt, Instr.sureAddr, Sem.run_bind, Sem.run_pure, Result.andThen_ok] at hr
            simp only [method, Sem.run_bind, run_info hi', Result.andThen_ok, hm, hp, follow, Sem.run_pure, hf, receiverAt, run_underlying' hu, Place.get, hpe, if_true]
            have hw : ∀ nm, (Builtin.ssaWrapNilChk_ #[t] t #[.pointer (some a), strVal "", strVal nm]).run B.P w = .ok (.pointer (some a)) w := fun _ => rfl
            rw [hw]
            simp only [Result.andThen_ok, asAddr, Sem.run_pure, hr]
          · cases ha
        · rename_i d hu hno
          cases ha
          refine ⟨v', ?_, hv⟩
          simp only [method, Sem.run_bind, run_info hi', Result.andThen_ok, hm, hp, follow, Sem.run_pure, hf, receiverAt, run_underlying' hno]
          cases d <;> first | (exact absurd hno (by simpa using hu _)) | rfl
        · cases ha
      · rename_i st f1 hp hf
        split at ha
        · rename_i fs n1 off hd hu
          split at ha
          · rename_i fd hfd
            split at ha
            · rename_i sz fs2 hsz hu2
              cases ha
              cases hv with
              | ptr _ hat =>
                refine ⟨_, ?_, .ptr _ hat⟩
                simp only [method, Sem.run_bind, run_info hi', Result.andThen_ok, hm, hp, follow, Sem.run_pure, hf, receiverAt, run_underlying' hu, hfd, hd, if_true, Place.get, asAddr, fieldPlace, run_sizeOf' hsz, Nat.succ_ne_zero, if_false, run_underlying' hu2, add_mid, Nat.add_assoc]
            · cases ha
          · cases ha
        · cases ha
      · cases ha
    · cases ha
  · cases ha
end
end
end Go.Eng

namespace Go.Eng
open Go
noncomputable section

section
variable {B : Base} {e : Env} {h : Heap} {w : World}

/-- what an operation comes to -/
def OutOK (B : Base) (e : Env) (w : World) (s : Sem Next) : Out → Prop
  | .val v h' => ∃ e' w' v', e.le e' ∧ s.run B.P w = .ok (.value v') w' ∧ VR e' v v' ∧ HS B e' h' w'
  | .skip h' => ∃ e' w', e.le e' ∧ s.run B.P w = .ok .skip w' ∧ HS B e' h' w'
  | .call f args h' => ∃ e' w' args', e.le e' ∧ VRs e' args args' ∧ HS B e' h' w' ∧ s.run B.P w = (callFunc f args'.toArray).run B.P w'
  | .round l args h' => ∃ e' w' args' L k, e.le e' ∧ VRs e' args args' ∧ HS B e' h' w' ∧ e'.at l = some (L, 0, k) ∧ s.run B.P w = (Instr.yield L args'.toArray).run B.P w'

theorem run_acallMethod (s : HS B e h w) {recv recv' : Value} {name : String} {args args' : List Value} {out : Out} (ha : acallMethod B.c recv name args h = some out) (hr : VR e recv recv') (hx : VRs e args args') :
    OutOK B e w (callMethod recv' name args'.toArray) out := by
  unfold acallMethod at ha
  split at ha
  · rename_i t v
    split at ha
    · rename_i f r hm
      cases ha
      cases hr with
      | iface _ hv =>
        obtain ⟨r', hrun, hvr⟩ := run_amethod s hm hv (B.P.types.size + 99)
        refine ⟨e, w, r' :: args', Env.le_refl _, .cons hvr hx, s, ?_⟩
        have hfuel : B.P.types.size + Made.depth = B.P.types.size + 99 + 1 := rfl
        simp only [callMethod, Sem.run_bind, run_program, Result.andThen_ok, hfuel, hrun]
        congr 1
        congr 1
        apply Array.ext'
        simp
    · cases ha
  · cases ha

theorem run_acallValue (s : HS B e h w) {f f' : Value} {args args' : List Value} {out : Out} (ha : acallValue B.c f args h = some out) (hf : VR e f f') (hx : VRs e args args') :
    OutOK B e w (do let d ← Deferred.ofValue f' args'.toArray; invoke d.target d.args) out := by
  unfold acallValue at ha
  split at ha
  · cases ha
    cases hf with
    | func hfn hfi hca =>
      cases hfn
      rename_i b d
      refine ⟨e, w, b.toList ++ args' ++ d.toList, Env.le_refl _, (hfi.append hx).append hca, s, ?_⟩
      simp only [Deferred.ofValue, pure_bind, invoke]
      congr 2
      apply Array.ext'
      simp
  · cases ha
    cases hf with
    | func hfn hfi hca =>
      cases hfn with
      | yield hat =>
        rename_i b d _ _
        refine ⟨e, w, b.toList ++ args', _, _, Env.le_refl _, hfi.append hx, s, hat, ?_⟩
        simp only [Deferred.ofValue, pure_bind, invoke]
        congr 2
        apply Array.ext'
        simp
  · rename_i name first cap
    split at ha
    · rename_i recv rest hl
      cases hf with
      | func hfn hfi hca =>
        cases hfn
        rename_i b d
        have h1 := hfi.append hx
        rw [hl] at h1
        generalize hm : b.toList ++ args' = m at h1
        cases h1 with
        | cons hrv hrest =>
          rename_i recv' rest'
          have hok := run_acallMethod s ha hrv hrest
          have hrun : (do let d ← Deferred.ofValue (.func (.method name) b d) args'.toArray; invoke d.target d.args : Sem Next) = callMethod recv' name rest'.toArray := by
            have he : b ++ args'.toArray = (recv' :: rest').toArray := by apply Array.ext'; simpa using hm
            simp only [Deferred.ofValue, pure_bind, invoke, he]
            simp
          rw [hrun]
          exact hok
    · cases ha
  · rename_i t name first cap
    split at ha
    · rename_i recv rest hl
      cases hf with
      | func hfn hfi hca =>
        cases hfn
        rename_i b d
        have h1 := hfi.append hx
        rw [hl] at h1
        generalize hm : b.toList ++ args' = m at h1
        cases h1 with
        | cons hrv hrest =>
          rename_i recv' rest'
          have he : b ++ args'.toArray = (recv' :: rest').toArray := by apply Array.ext'; simpa using hm
          split at ha
          · rename_i ms hu
            have hok := run_acallMethod s ha hrv hrest
            have hrun : (do let d ← Deferred.ofValue (.func (.methodOf t name) b d) args'.toArray; invoke d.target d.args : Sem Next).run B.P w = (callMethod recv' name rest'.toArray).run B.P w := by
              simp only [Deferred.ofValue, pure_bind, invoke, he]
              simp [run_underlying' hu]
            cases out <;> simp only [OutOK] at hok ⊢ <;> rw [hrun] <;> exact hok
          · rename_i td hu hno
            split at ha
            · cases ha
            · have hok := run_acallMethod s ha (.iface t hrv) hrest
              have hrun : (do let d ← Deferred.ofValue (.func (.methodOf t name) b d) args'.toArray; invoke d.target d.args : Sem Next).run B.P w = (callMethod (.iface t recv') name rest'.toArray).run B.P w := by
                simp only [Deferred.ofValue, pure_bind, invoke, he]
                simp [run_underlying' hno]
              cases out <;> simp only [OutOK] at hok ⊢ <;> rw [hrun] <;> exact hok
          · cases ha
    · cases ha
  · cases ha

theorem map_eval {r : Regs} {t : Array Value} (g : RR e r t) : ∀ (l : List Operand), VRs e (l.map (aeval r)) (l.map (reval t))
  | [] => .nil
  | x :: l => .cons (g.eval x) (map_eval g l)

theorem run_acall (s : HS B e h w) {r : Regs} {t : Array Value} (g : RR e r t) {cl : Call} {ty : TypeId} {out : Out} (ha : acall B.c (aeval r) cl h = some out) :
    OutOK B e w (do let d ← resolve (reval t) cl ty; invoke d.target d.args) out := by
  have hargs := map_eval g cl.args.toList
  have hmap : cl.args.map (reval t) = (cl.args.toList.map (reval t)).toArray := by apply Array.ext'; simp
  unfold acall at ha
  simp only at ha
  split at ha
  · rename_i b hc
    split at ha
    · rename_i v h' hb
      cases ha
      obtain ⟨e', w', v', hle, hr, hv, hs⟩ := run_abuiltin (ty := ty) (cs := cl.args.map fun | .const _ => true | _ => false) (args' := cl.args.map (reval t)) s hb (by rw [hmap]; exact hargs)
      refine ⟨e', w', v', hle, ?_, hv, hs⟩
      simp only [resolve, hc, pure_bind, invoke]
      exact hr
    · cases ha
  · rename_i recv name hc
    have hok := run_acallMethod s ha (g.eval recv) hargs
    have hrun : (do let d ← resolve (reval t) cl ty; invoke d.target d.args : Sem Next) = callMethod (reval t recv) name (cl.args.toList.map (reval t)).toArray := by
      simp only [resolve, hc, pure_bind, invoke, hmap]
      simp
      rw [List.take_of_length_le (by simp)]
    rw [hrun]
    exact hok
  · rename_i f hc
    have hok := run_acallValue s ha (g.eval f) hargs
    have hrun : (do let d ← resolve (reval t) cl ty; invoke d.target d.args : Sem Next) = (do let d ← Deferred.ofValue (reval t f) (cl.args.toList.map (reval t)).toArray; invoke d.target d.args) := by
      simp only [resolve, hc, hmap]
    rw [hrun]
    exact hok

theorem VRs.map_opt {r : Regs} {t : Array Value} (g : RR e r t) (x : Option Operand) : OptR e (x.map (aeval r)) (x.map (reval t)) := by
  cases x with
  | none => exact ⟨(fun v hv => by cases hv), fun _ => rfl⟩
  | some x => exact ⟨(fun v hv => by cases hv; exact ⟨_, rfl, g.eval x⟩), fun h => by cases h⟩

theorem parts_eval {r : Regs} {t : Array Value} (g : RR e r t) : ∀ (l : List (Nat × Operand)), PRs e (l.map fun (i, x) => (i, aeval r x)) (l.map fun (i, x) => (i, reval t x))
  | [] => .nil
  | (i, x) :: l => .cons i (g.eval x) (parts_eval g l)

/-- every operation -/
theorem aop_ok (s : HS B e h w) {r : Regs} {t : Array Value} (g : RR e r t) {o : Oper} {out : Out} (ha : aop B.c (aeval r) o.op h = some out) : OutOK B e w (execOp (reval t) o) out := by
  have one : ∀ {sem : Sem Value} {v : Value}, (∃ v', sem.run B.P w = .ok v' w ∧ VR e v v') → OutOK B e w (do pure (.value (← sem))) (.val v h) := by
    rintro sem v ⟨v', h1, h2⟩
    exact ⟨e, w, v', Env.le_refl _, by simp only [Sem.run_bind, h1, Result.andThen_ok, Sem.run_pure], h2, s⟩
  have two : ∀ {sem : Sem Value} {v : Value} {h' : Heap}, (∃ e' w' v', e.le e' ∧ sem.run B.P w = .ok v' w' ∧ VR e' v v' ∧ HS B e' h' w') → OutOK B e w (do pure (.value (← sem))) (.val v h') := by
    rintro sem v h' ⟨e', w', v', hle, h1, h2, h3⟩
    exact ⟨e', w', v', hle, by simp only [Sem.run_bind, h1, Result.andThen_ok, Sem.run_pure], h2, h3⟩
  have v1 : ∀ {x : Option Value}, val1 h x = some out → ∃ v, x = some v ∧ out = .val v h := by
    intro x hx; unfold val1 at hx; split at hx
    · cases hx; exact ⟨_, rfl, rfl⟩
    · cases hx
  have v2 : ∀ {x : Option (Value × Heap)}, val2 x = some out → ∃ v h', x = some (v, h') ∧ out = .val v h' := by
    intro x hx; unfold val2 at hx; split at hx
    · cases hx; exact ⟨_, _, rfl, rfl⟩
    · cases hx
  unfold aop at ha
  unfold execOp
  split at ha
  · rename_i x ho; rw [ho]; cases ha; exact ⟨e, w, _, Env.le_refl _, rfl, g.eval x, s⟩
  · rename_i x ho; rw [ho]; cases ha; exact ⟨e, w, _, Env.le_refl _, rfl, g.eval x, s⟩
  · rename_i a x y ho
    rw [ho]
    have hv := g.eval a
    split at ha
    · rename_i hb; cases ha; rw [hb] at hv
      generalize hra : reval t a = ra at hv
      cases hv
      exact ⟨e, w, _, Env.le_refl _, by simp [hra, asBool], g.eval x, s⟩
    · rename_i hb; cases ha; rw [hb] at hv
      generalize hra : reval t a = ra at hv
      cases hv
      exact ⟨e, w, _, Env.le_refl _, by simp [hra, asBool], g.eval y, s⟩
    · cases ha
  · rename_i ty ho
    rw [ho]
    split at ha
    · rename_i z hz; cases ha; exact two (run_aalloc s hz)
    · cases ha
  · rename_i ty x ho
    rw [ho]
    split at ha
    · cases ha
    · rename_i hj; cases ha; exact two (run_abox s hj (g.eval x))
  · rename_i ty parts ho
    rw [ho]
    obtain ⟨v, hv, rfl⟩ := v1 ha
    have h2 := run_abuild hv (parts_eval g parts.toList) w
    have hm : (parts.map fun (i, x) => (i, reval t x)) = (parts.toList.map fun (i, x) => (i, reval t x)).toArray := by apply Array.ext'; simp
    rw [← hm] at h2
    exact one h2
  · rename_i ty len parts ho
    rw [ho]
    obtain ⟨v, h', hv, rfl⟩ := v2 ha
    have h2 := run_abuildSlice s hv (parts_eval g parts.toList)
    have hm : (parts.map fun (i, x) => (i, reval t x)) = (parts.toList.map fun (i, x) => (i, reval t x)).toArray := by apply Array.ext'; simp
    rw [← hm] at h2
    exact two h2
  · rename_i ty a ho
    rw [ho]
    obtain ⟨v, hv, rfl⟩ := v1 ha
    exact one (run_aload s hv (g.eval a))
  · rename_i ty a x ho
    rw [ho]
    split at ha
    · rename_i h' hst
      cases ha
      obtain ⟨w', hr, hs⟩ := run_astore s hst (g.eval a) (g.eval x)
      exact ⟨e, w', Env.le_refl _, by simp only [Sem.run_bind, hr, Result.andThen_ok, Sem.run_pure], hs⟩
    · cases ha
  · rename_i x ho
    rw [ho]
    have hv := g.eval x
    split at ha <;> try (cases ha; done)
    · rename_i a hx; cases ha; rw [hx] at hv
      generalize hra : reval t x = ra at hv
      cases hv with
      | ptr off hat => exact ⟨e, w, _, Env.le_refl _, by simp only [hra]; rfl, .ptr off hat, s⟩
    · rename_i t1 v1 hx; cases ha; rw [hx] at hv
      generalize hra : reval t x = ra at hv
      cases hv with
      | iface _ hv => exact ⟨e, w, _, Env.le_refl _, by simp only [hra]; rfl, .iface _ hv, s⟩
    · rename_i f a b hx; cases ha; rw [hx] at hv
      generalize hra : reval t x = ra at hv
      cases hv with
      | func hf h1 h2 => cases hf; exact ⟨e, w, _, Env.le_refl _, by simp only [hra]; rfl, .func (.func f) h1 h2, s⟩
    · rename_i f a b hx; cases ha; rw [hx] at hv
      generalize hra : reval t x = ra at hv
      cases hv with
      | func hf h1 h2 => cases hf with
        | yield hat => exact ⟨e, w, _, Env.le_refl _, by simp only [hra]; rfl, .func (.yield hat) h1 h2, s⟩
  · rename_i op ty x y yt ho
    rw [ho]
    obtain ⟨v, hv, rfl⟩ := v1 ha
    exact one (run_abin hv (g.eval x) (g.eval y) w)
  · rename_i op ty x ho
    rw [ho]
    obtain ⟨v, hv, rfl⟩ := v1 ha
    obtain ⟨h1, h2⟩ := run_aun hv (g.eval x) w
    exact one ⟨v, h1, h2⟩
  · rename_i sr ds x ho
    rw [ho]
    obtain ⟨v, h', hv, rfl⟩ := v2 ha
    exact two (run_aconvert s hv (g.eval x))
  · rename_i ty x ho
    rw [ho]
    split at ha
    · cases ha
    · rename_i d hu hno
      cases ha
      refine one ⟨.iface ty (reval t x), ?_, .iface _ (g.eval x)⟩
      simp only [Instr.makeInterface, Sem.run_bind, run_underlying' hno, Result.andThen_ok]
      cases d <;> first | (exact absurd hno (by simpa using hu _)) | rfl
    · cases ha
  · rename_i fn first cap ho
    rw [ho]
    have h1 : VRs e (first.map (aeval r)).toList (first.map (reval t)).toList := by simpa using map_eval g first.toList
    have h2 : VRs e (cap.map (aeval r)).toList (cap.map (reval t)).toList := by simpa using map_eval g cap.toList
    split at ha
    · cases ha
    · rename_i hno
      cases ha
      have hfn : FnR e fn fn := by
        cases fn with
        | func f => exact .func f
        | method n => exact .method n
        | methodOf t n => exact .methodOf t n
        | via t p f q => exact .via t p f q
        | yield l => exact absurd rfl (hno l)
      exact one ⟨.func fn (first.map (reval t)) (cap.map (reval t)), rfl, .func hfn h1 h2⟩
  · rename_i ty l k ho
    rw [ho]
    obtain ⟨v, h', hv, rfl⟩ := v2 ha
    exact two (run_amakeSlice s hv (g.eval l) (g.eval k))
  · rename_i ty x lo hi mx ho
    rw [ho]
    obtain ⟨v, hv, rfl⟩ := v1 ha
    exact one (run_aslice s hv (g.eval x) (VRs.map_opt g lo) (VRs.map_opt g hi) (VRs.map_opt g mx))
  · rename_i ty x f ho
    rw [ho]
    obtain ⟨v, hv, rfl⟩ := v1 ha
    exact one (run_afieldAddr hv (g.eval x) w)
  · rename_i ty x f ho
    rw [ho]
    obtain ⟨v, hv, rfl⟩ := v1 ha
    exact one (run_afield hv (g.eval x) w)
  · rename_i ty x i ho
    rw [ho]
    obtain ⟨v, hv, rfl⟩ := v1 ha
    exact one (run_aindexAddr hv (g.eval x) (g.eval i) w)
  · rename_i ty x i ho
    rw [ho]
    obtain ⟨v, hv, rfl⟩ := v1 ha
    exact one (run_aindex hv (g.eval x) (g.eval i) w)
  · rename_i x i ho
    rw [ho]
    have hv := g.eval x
    split at ha
    · rename_i vs hx
      rw [hx] at hv
      generalize hra : reval t x = ra at hv
      cases hv with
      | @tuple _ b hl =>
        split at ha
        · rename_i v hvi
          cases ha
          obtain ⟨v', h1, h2⟩ := hl.get i v (by simpa using hvi)
          have h1' : b[i]? = some v' := by simpa using h1
          exact one ⟨v', by simp only [hra, Instr.extract, h1', Sem.run_pure], h2⟩
        · cases ha
    · cases ha
  · rename_i ty rr ho
    rw [ho]
    split at ha
    · rename_i hr
      cases ha
      exact two (run_amakeMap (r := rr.map (aeval r)) (r' := rr.map (reval t)) s (fun v hv => by rw [hr] at hv; cases hv) (fun hn => by cases rr with | none => rfl | some y => cases hn))
    · rename_i k n hr
      split at ha
      · rename_i a b hu
        cases ha
        refine two (run_amakeMap (t := ty) (r := rr.map (aeval r)) (r' := rr.map (reval t)) s (fun v hv => ?_) (fun hn => by rw [hr] at hn; cases hn))
        cases rr with
        | none => cases hr
        | some y =>
          simp only [Option.map_some, Option.some.injEq] at hr hv ⊢
          have hy := g.eval y
          rw [hr] at hy
          generalize reval t y = z at hy
          cases hy
          exact ⟨k, n, by rw [← hv, hr], rfl, a, b, hu⟩
      · cases ha
    · cases ha
  · rename_i ty x kx ok ho
    rw [ho]
    obtain ⟨v, hv, rfl⟩ := v1 ha
    exact one (run_alookup s hv (g.eval x) (g.eval kx))
  · rename_i ty m kx x ho
    rw [ho]
    split at ha
    · rename_i h2 hv
      cases ha
      obtain ⟨w', h1, h3⟩ := run_amapUpdate s hv (g.eval m) (g.eval kx) (g.eval x)
      exact ⟨e, w', Env.le_refl _, by simp only [Sem.run_bind, h1, Result.andThen_ok, Sem.run_pure], h3⟩
    · cases ha
  · rename_i ty m kx x ho
    rw [ho]
    split at ha
    · rename_i h2 hv
      cases ha
      obtain ⟨w', h1, h3⟩ := run_amapUpdate s hv (g.eval m) (g.eval kx) (g.eval x)
      exact ⟨e, w', Env.le_refl _, by simp only [Sem.run_bind, h1, Result.andThen_ok, Sem.run_pure], h3⟩
    · cases ha
  · rename_i x xt ty ok ho
    rw [ho]
    obtain ⟨v, hv, rfl⟩ := v1 ha
    exact one (run_atypeAssert hv (g.eval x) w)
  · rename_i ty x ho
    rw [ho]
    obtain ⟨v, hv, rfl⟩ := v1 ha
    exact one (run_aarrayAt hv (g.eval x) w)
  · rename_i ty x ho
    rw [ho]
    obtain ⟨v, h', hv, rfl⟩ := v2 ha
    exact two (run_arange s hv (g.eval x))
  · rename_i it st ho
    rw [ho]
    obtain ⟨v, h', hv, rfl⟩ := v2 ha
    obtain ⟨w', v', h1, h2, h3⟩ := run_anext (ty := o.type) s hv (g.eval it)
    exact two ⟨e, w', v', Env.le_refl _, h1, h2, h3⟩
  · rename_i cl ho
    rw [ho]
    exact run_acall s g ha
  · cases ha
end
end
end Go.Eng
