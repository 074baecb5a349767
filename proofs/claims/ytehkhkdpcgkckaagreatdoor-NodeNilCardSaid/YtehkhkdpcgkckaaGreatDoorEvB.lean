/- Operations on values: what the evaluator says is what the model does. By an AI agent. -/
import Derived.Test.YtehkhkdpcgkckaaGreatDoorEvA
import Derived.Laws.StructEq
import GoSem.Dispatch
namespace Go.Eng
open Go
noncomputable section

section
variable {B : Base} {e : Env} {h : Heap} {w : World}

theorem run_apart {t : TypeId} {cs cs' : Array Value} {off : Nat} {v : Value} (ha : apart B.c t cs off = some v) (hv : VRs e cs.toList cs'.toList) (w : World) :
    ∃ v', (part t cs' off).run B.P w = .ok v' w ∧ VR e v v' := by
  unfold apart at ha
  split at ha
  · rename_i sz hag hsz
    cases ha
    refine ⟨.agg (cs'.extract off (off + sz)), ?_, .agg ?_⟩
    · simp only [part, Sem.run_bind, run_isAgg' hag, Result.andThen_ok, if_true, run_sizeOf' hsz, Sem.run_pure]
    · simp only [Array.toList_extract, List.extract_eq_take_drop]
      exact (hv.drop off).take _
  · rename_i sz hag hsz
    obtain ⟨v', hv', hr⟩ := hv.get off v (by simpa using ha)
    refine ⟨v', ?_, hr⟩
    have : cs'[off]? = some v' := by simpa using hv'
    simp only [part, Sem.run_bind, run_isAgg' hag, Result.andThen_ok, if_false, Bool.false_eq_true, this, Sem.run_pure]
  · cases ha

def eqElems (d : Nat) (e : TypeId) (n : Nat) (xs ys : Array Value) : List Nat → Sem Bool
  | [] => pure true
  | i :: l => do
    let a ← part e xs (i * n)
    let b ← part e ys (i * n)
    let r ← Op.equalIn d e a b
    if (!r) = true then pure false else eqElems d e n xs ys l

theorem run_equalIn_array (d : Nat) (t e : TypeId) (len n : Nat) (xs ys : Array Value) (ht : B.P.underlying t = some (.array len e)) (hn : szOf B.c e = some n) (w : World) :
    (Op.equalIn (d + 1) t (.agg xs) (.agg ys)).run B.P w = (eqElems d e n xs ys (List.range len)).run B.P w := by
  simp only [Op.equalIn, Sem.run_bind, run_underlying' ht, Result.andThen_ok, run_sizeOf' hn]
  simp only [Std.Legacy.Range.forIn_eq_forIn_range', Std.Legacy.Range.size, Nat.sub_zero, Nat.add_sub_cancel, Nat.div_one, List.range_eq_range']
  generalize List.range' 0 len = l
  induction l generalizing w with
  | nil => simp [eqElems]
  | cons i l ih =>
    simp only [List.forIn_cons, eqElems, Sem.run_bind, Sem.run_ite]
    generalize (part e xs (i * n)).run B.P w = r1
    cases r1 with
    | ok a w1 =>
      simp only [Result.andThen_ok]
      generalize (part e ys (i * n)).run B.P w1 = r2
      cases r2 with
      | ok b w2 =>
        simp only [Result.andThen_ok]
        generalize (Op.equalIn d e a b).run B.P w2 = r3
        cases r3 with
        | ok r w3 =>
          cases r
          · simp only [Result.andThen_ok, Bool.not_false, if_true, Sem.run_pure]
          · simp only [Result.andThen_ok, Bool.not_true, Bool.false_eq_true, if_false, Sem.run_pure]
            exact ih w3
        | halt x w3 => simp [Result.andThen]
      | halt x w2 => simp [Result.andThen]
    | halt x w1 => simp [Result.andThen]

theorem at_inj {e : Env} {n : Nat} {x y : Nat × Nat × Nat} (h : e.at n = some x) (g : e.at n = some y) : x = y := by rw [h] at g; cases g; rfl

set_option maxHeartbeats 1000000 in
theorem run_aeqIn (k : Nat) : ∀ (d : Nat) (t : TypeId) (x y x' y' : Value) (b : Bool), aeqIn B.c k t x y = some b → k ≤ d → VR e x x' → VR e y y' → ∀ w, (Op.equalIn d t x' y').run B.P w = .ok b w := by
  induction k with
  | zero => intro d t x y x' y' b he _ _ _ w; cases he
  | succ k run_aeqIn =>
    intro d t x y x' y' b he hd hx hy w
    obtain ⟨d, rfl⟩ : ∃ d', d = d' + 1 := ⟨d - 1, by omega⟩
    unfold aeqIn at he
    split at he
    · rename_i hu; cases hx <;> cases hy <;> cases he <;> simp [Op.equalIn, run_underlying' hu]
    · rename_i hu; cases hx; cases hy
      split at he
      · rename_i hk; cases he; subst hk; simp [Op.equalIn, run_underlying' hu]
      · cases he
    · rename_i hu; cases hx; cases hy; cases he
      have := run_equalIn_string (P := B.P) w d t
      rename_i a b
      rw [this a b hu, ByteArray.toList_eq, ByteArray.toList_eq]
    · rename_i hu; cases hx <;> cases hy <;> cases he <;> simp [Op.equalIn, run_underlying' hu]
    · rename_i hu
      cases hx
      cases hy
      cases he; simp [Op.equalIn, run_underlying' hu]
    · rename_i hu
      cases hy
      cases hx
      cases he; simp [Op.equalIn, run_underlying' hu]
    · rename_i el n o n' o' hu
      split at he
      · rename_i sz hb hsz
        cases he
        have := Nat.eq_of_beq_eq_true hb
        subst this
        cases hx with
        | ptr _ h1 =>
          cases hy with
          | ptr _ h2 =>
            have h3 := at_inj h1 h2
            cases h3
            rename_i bb base κ
            simp only [Op.equalIn, Sem.run_bind, run_underlying' hu, Result.andThen_ok, run_sizeOf' hsz, ne_eq, Nat.succ_ne_zero, not_false_eq_true, if_true, sameAddr, beq_self_eq_true, Sem.run_pure]
            congr 1
            rw [Bool.eq_iff_iff]
            simp
      · cases he
    · rename_i hu; cases hx <;> cases hy <;> cases he <;> simp [Op.equalIn, run_underlying' hu]
    · rename_i hu; cases hx <;> cases hy <;> cases he <;> simp [Op.equalIn, run_underlying' hu]
    · rename_i hu; cases hx <;> cases hy <;> cases he <;> simp [Op.equalIn, run_underlying' hu]
    · rename_i tx vx ty vy hu
      cases hx; cases hy
      rename_i vx' hvx vy' hvy
      split at he
      · rename_i hne; cases he
        simp [Op.equalIn, run_underlying' hu, hne]
      · rename_i hne
        have hne : tx = ty := Classical.byContradiction hne
        subst hne
        split at he
        · rename_i i hi
          split at he
          · rename_i hc
            have := run_aeqIn d tx vx vy vx' vy' b he (by omega) hvx hvy w
            simp [Op.equalIn, run_underlying' hu, run_info hi, hc, this]
          · cases he
        · cases he
    · rename_i hu; cases hx <;> cases hy <;> cases he <;> simp [Op.equalIn, run_underlying' hu]
    · rename_i hu; cases hx <;> cases hy <;> cases he <;> simp [Op.equalIn, run_underlying' hu]
    · rename_i hu; cases hy <;> cases hx <;> cases he <;> simp [Op.equalIn, run_underlying' hu]
    · rename_i hu; cases hx <;> cases hy <;> cases he <;> simp [Op.equalIn, run_underlying' hu]
    · rename_i hu; cases hx <;> cases hy <;> cases he <;> simp [Op.equalIn, run_underlying' hu]
    · rename_i hu; cases hy <;> cases hx <;> cases he <;> simp [Op.equalIn, run_underlying' hu]
    · rename_i hu; cases hx <;> cases hy <;> cases he <;> simp [Op.equalIn, run_underlying' hu]
    · rename_i hu; cases hx <;> cases hy <;> cases he <;> simp [Op.equalIn, run_underlying' hu]
    · rename_i hu; cases hx <;> cases hy <;> cases he <;> simp [Op.equalIn, run_underlying' hu]
    · rename_i fs xs ys hu
      cases hx; cases hy
      rename_i xs' hxs ys' hys
      split at he
      · cases he
      · rename_i hst
        have hf : B.P.fieldsOf t = fs := by simp only [Program.fieldsOf, hu]
        rw [run_equalIn_struct w d t xs' ys' (by rw [hf]; exact hu) hst, hf]
        clear hf hu
        revert he
        generalize fs.toList = l
        intro he
        induction l with
        | nil => simp only [allF] at he; cases he; simp [Op.eqFields]
        | cons f l ih =>
          simp only [allF] at he
          simp only [Op.eqFields, Sem.run_ite, Sem.run_bind]
          by_cases hn : f.name = "_"
          · rw [if_pos hn] at he
            rw [if_neg (by simpa using hn)]
            exact ih he
          · rw [if_neg hn] at he
            rw [if_pos hn]
            have key : ∀ r, (match apart B.c f.type xs f.offset, apart B.c f.type ys f.offset with
                | some x, some y => aeqIn B.c k f.type x y
                | _, _ => none) = some r → ∃ a b, (part f.type xs' f.offset).run B.P w = .ok a w ∧ (part f.type ys' f.offset).run B.P w = .ok b w ∧ (Op.equalIn d f.type a b).run B.P w = .ok r w := by
              intro r hr
              split at hr
              · rename_i x y h1 h2
                obtain ⟨a, ha, hva⟩ := run_apart h1 hxs w
                obtain ⟨b, hb, hvb⟩ := run_apart h2 hys w
                exact ⟨a, b, ha, hb, run_aeqIn d _ _ _ _ _ _ hr (by omega) hva hvb w⟩
              · cases hr
            split at he
            · rename_i hp
              obtain ⟨a, b', h1, h2, h3⟩ := key _ hp
              simp only [h1, h2, h3, Result.andThen_ok, Bool.not_true, Bool.false_eq_true, if_false]
              exact ih he
            · rename_i hp
              cases he
              obtain ⟨a, b', h1, h2, h3⟩ := key _ hp
              simp only [h1, h2, h3, Result.andThen_ok, Bool.not_false, if_true, Sem.run_pure]
            · cases he
    · rename_i len el xs ys hu
      cases hx; cases hy
      rename_i xs' hxs ys' hys
      split at he
      · cases he
      · rename_i n hn
        rw [run_equalIn_array d t el len n xs' ys' hu hn]
        clear hu
        revert he
        generalize List.range len = l
        intro he
        induction l with
        | nil => simp only [allI] at he; cases he; simp [eqElems]
        | cons f l ih =>
          simp only [allI] at he
          simp only [eqElems, Sem.run_ite, Sem.run_bind]
          have key : ∀ r, (match apart B.c el xs (f * n), apart B.c el ys (f * n) with
              | some x, some y => aeqIn B.c k el x y
              | _, _ => none) = some r → ∃ a b, (part el xs' (f * n)).run B.P w = .ok a w ∧ (part el ys' (f * n)).run B.P w = .ok b w ∧ (Op.equalIn d el a b).run B.P w = .ok r w := by
            intro r hr
            split at hr
            · rename_i x y h1 h2
              obtain ⟨a, ha, hva⟩ := run_apart h1 hxs w
              obtain ⟨b, hb, hvb⟩ := run_apart h2 hys w
              exact ⟨a, b, ha, hb, run_aeqIn d _ _ _ _ _ _ hr (by omega) hva hvb w⟩
            · cases hr
          split at he
          · rename_i hp
            obtain ⟨a, b', h1, h2, h3⟩ := key _ hp
            simp only [h1, h2, h3, Result.andThen_ok, Bool.not_true, Bool.false_eq_true, if_false]
            exact ih he
          · rename_i hp
            cases he
            obtain ⟨a, b', h1, h2, h3⟩ := key _ hp
            simp only [h1, h2, h3, Result.andThen_ok, Bool.not_false, if_true, Sem.run_pure]
          · cases he
    · cases he
end
end
end Go.Eng
