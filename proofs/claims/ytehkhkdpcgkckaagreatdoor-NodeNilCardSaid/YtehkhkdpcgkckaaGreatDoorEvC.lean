/- Operations on values, on: numbers, texts, places. By an AI agent. -/
import Derived.Test.YtehkhkdpcgkckaaGreatDoorEvB
import Derived.Laws.BytesString
import Derived.Laws.BytesArg
import Derived.Laws.Append
import Derived.Lib.UnsafeStr
namespace Go.Eng
open Go
noncomputable section

section
variable {B : Base} {e : Env} {h : Heap} {w : World}

theorem run_abits {k : IntKind} {op : BinOp} {x y : Int} {v : Value} (h : abits k op x y = some v) (w : World) : (Op.intBits op k x y).run B.P w = .ok v w ∧ ∃ n, v = .int k n := by
  unfold abits at h
  cases op <;> simp only [reduceCtorEq] at h <;> cases h <;> exact ⟨rfl, _, rfl⟩

theorem run_abinInt {k : IntKind} {op : BinOp} {x y : Int} {v : Value} (h : abinInt op k x y = some v) (t : TypeId) (w : World) : (binOp op t (.int k x) (.int k y)).run B.P w = .ok v w ∧ VR e v v := by
  cases op <;> simp only [abinInt, reduceCtorEq] at h
  case add => cases h; exact ⟨by simp [binOp, Op.intArith], .int _ _⟩
  case sub => cases h; exact ⟨by simp [binOp, Op.intArith], .int _ _⟩
  case mul => cases h; exact ⟨by simp [binOp, Op.intArith], .int _ _⟩
  case quo =>
    split at h
    · cases h
    · rename_i hy; cases h; exact ⟨by simp [binOp, Op.intDiv, hy], .int _ _⟩
  case rem =>
    split at h
    · cases h
    · rename_i hy; cases h; exact ⟨by simp [binOp, Op.intDiv, hy], .int _ _⟩
  case and => obtain ⟨h1, n, rfl⟩ := run_abits (B := B) h w; exact ⟨by simpa [binOp] using h1, .int _ _⟩
  case or => obtain ⟨h1, n, rfl⟩ := run_abits (B := B) h w; exact ⟨by simpa [binOp] using h1, .int _ _⟩
  case xor => obtain ⟨h1, n, rfl⟩ := run_abits (B := B) h w; exact ⟨by simpa [binOp] using h1, .int _ _⟩
  case andNot => obtain ⟨h1, n, rfl⟩ := run_abits (B := B) h w; exact ⟨by simpa [binOp] using h1, .int _ _⟩
  case eql => cases h; exact ⟨by simp [binOp, Op.intCmp], .bool _⟩
  case neq => cases h; exact ⟨by simp [binOp, Op.intCmp], .bool _⟩
  case lss => cases h; exact ⟨by simp [binOp, Op.intCmp], .bool _⟩
  case leq => cases h; exact ⟨by simp [binOp, Op.intCmp], .bool _⟩
  case gtr => cases h; exact ⟨by simp [binOp, Op.intCmp], .bool _⟩
  case geq => cases h; exact ⟨by simp [binOp, Op.intCmp], .bool _⟩

theorem run_abinStr {op : BinOp} {x y : ByteArray} {v : Value} (h : abinStr op x y = some v) (t : TypeId) (w : World) : (binOp op t (.string x) (.string y)).run B.P w = .ok v w ∧ VR e v v := by
  have hx := ByteArray.toList_eq x
  have hy := ByteArray.toList_eq y
  cases op <;> simp only [abinStr, reduceCtorEq] at h
  case add =>
    split at h
    · cases h
    · rename_i hy; cases h; exact ⟨by simp only [binOp, Op.stringOp, if_neg hy, Sem.run_pure], .string _⟩
  case eql => cases h; exact ⟨by simp [binOp, Op.stringOp, hx, hy], .bool _⟩
  case neq => cases h; exact ⟨by simp [binOp, Op.stringOp, hx, hy], .bool _⟩
  case lss => cases h; exact ⟨by simp [binOp, Op.stringOp, hx, hy], .bool _⟩
  case leq => cases h; exact ⟨by simp [binOp, Op.stringOp, hx, hy], .bool _⟩
  case gtr => cases h; exact ⟨by simp [binOp, Op.stringOp, hx, hy], .bool _⟩
  case geq => cases h; exact ⟨by simp [binOp, Op.stringOp, hx, hy], .bool _⟩

theorem run_eqGuard_none {op : BinOp} (h1 : op ≠ .eql) (h2 : op ≠ .neq) (t : TypeId) (x y : Operand) (a b : Value) (w : World) : (eqGuard op t x y a b).run B.P w = .ok () w := by
  unfold eqGuard
  cases op <;> first | (exact absurd rfl h1) | (exact absurd rfl h2) | rfl

theorem run_eqGuard_nil {op : BinOp} {t : TypeId} {x y : Operand} (hc : (isC x || isC y) = true) (w : World) : (eqGuard op t x y .nilIface .nilIface).run B.P w = .ok () w := by
  cases x <;> cases y <;> first | (exact absurd hc Bool.false_ne_true) | (cases op <;> rfl)

theorem run_eqGuard_agg' {op : BinOp} {t : TypeId} {x y : Operand} {a b : Array Value} (hc : B.P.eqGuardType B.P.depth t = false) (w : World) : (eqGuard op t x y (.agg a) (.agg b)).run B.P w = .ok () w :=
  run_eqGuard_agg w op t x y a b hc

/-- two values neither both nil interfaces nor both aggregates -/
theorem run_eqGuard_other {op : BinOp} {t : TypeId} {x y : Operand} {a b : Value} (h1 : ¬ (a = .nilIface ∧ b = .nilIface)) (h2 : ∀ c d, ¬ (a = .agg c ∧ b = .agg d)) (w : World) :
    (eqGuard op t x y a b).run B.P w = .ok () w := by
  have key : (match a, b with
      | .nilIface, .nilIface => 0
      | .agg _, .agg _ => 1
      | _, _ => 2) = 2 := by
    split
    · exact absurd ⟨rfl, rfl⟩ h1
    · exact absurd ⟨rfl, rfl⟩ (h2 _ _)
    · rfl
  cases op <;> first | rfl | (unfold eqGuard; simp only [Bool.not_true, Bool.false_eq_true, if_false]; split <;> first | (exact absurd ⟨rfl, rfl⟩ h1) | (exact absurd ⟨rfl, rfl⟩ (h2 _ _)) | rfl)

theorem run_eql {t : TypeId} {x' y' : Value} {b : Bool} (hi : ∀ k a k' b, ¬ (x' = .int k a ∧ y' = .int k' b)) (hs : ∀ a b, ¬ (x' = .string a ∧ y' = .string b))
    (hf : ∀ k a k' b, ¬ (x' = .float k a ∧ y' = .float k' b)) (hcx : ∀ k a b k' c d, ¬ (x' = .complex k a b ∧ y' = .complex k' c d))
    (he : (Op.equal t x' y').run B.P w = .ok b w) : (binOp .eql t x' y').run B.P w = .ok (.bool b) w ∧ (binOp .neq t x' y').run B.P w = .ok (.bool (!b)) w := by
  constructor
  · unfold binOp
    split <;> first | (exact absurd ⟨rfl, rfl⟩ (hi _ _ _ _)) | (exact absurd ⟨rfl, rfl⟩ (hs _ _)) | (exact absurd ⟨rfl, rfl⟩ (hf _ _ _ _)) | (exact absurd ⟨rfl, rfl⟩ (hcx _ _ _ _ _ _)) | (simp_all [Sem.run_bind]; done) | skip
  · unfold binOp
    split <;> first | (exact absurd ⟨rfl, rfl⟩ (hi _ _ _ _)) | (exact absurd ⟨rfl, rfl⟩ (hs _ _)) | (exact absurd ⟨rfl, rfl⟩ (hf _ _ _ _)) | (exact absurd ⟨rfl, rfl⟩ (hcx _ _ _ _ _ _)) | (simp_all [Sem.run_bind]; done) | skip
end
end
end Go.Eng

namespace Go.Eng
open Go
noncomputable section

section
variable {B : Base} {e : Env} {h : Heap} {w : World}

theorem run_aequal {t : TypeId} {x y x' y' : Value} {b : Bool} (he : aequal B.c t x y = some b) (hx : VR e x x') (hy : VR e y y') (w : World) : (Op.equal t x' y').run B.P w = .ok b w := by
  unfold aequal at he
  split at he
  · split at he
    · cases he
    · exact run_aeqIn 20 10000 t _ _ _ _ b he (by omega) hx hy w
  · exact run_aeqIn 20 10000 t _ _ _ _ b he (by omega) hx hy w

theorem aeqIn_junk {c : Ctx} {k : Nat} {t : TypeId} {x y : Value} {b : Bool} (he : aeqIn c k t x y = some b) : x ≠ junk ∧ y ≠ junk := by
  cases k with
  | zero => cases he
  | succ k =>
    unfold aeqIn at he
    split at he <;> first | (refine ⟨?_, ?_⟩ <;> (simp [junk]; done)) | cases he

theorem aeqIn_num {c : Ctx} {k : Nat} {t : TypeId} {x y : Value} {b : Bool} (he : aeqIn c k t x y = some b) : (∀ j n j' n', ¬ (x = .float j n ∧ y = .float j' n')) ∧ (∀ j n m, x ≠ .complex j n m) := by
  cases k with
  | zero => cases he
  | succ k =>
    unfold aeqIn at he
    split at he <;> first | (refine ⟨?_, ?_⟩ <;> (simp; done)) | cases he

theorem aequal_num {c : Ctx} {t : TypeId} {x y : Value} {b : Bool} (he : aequal c t x y = some b) : (∀ j n j' n', ¬ (x = .float j n ∧ y = .float j' n')) ∧ (∀ j n m, x ≠ .complex j n m) ∧ x ≠ junk ∧ y ≠ junk := by
  unfold aequal at he
  split at he
  · exact ⟨by simp, by simp, by simp [junk], by simp [junk]⟩
  · exact ⟨(aeqIn_num he).1, (aeqIn_num he).2, aeqIn_junk he⟩

/-- of two related values one shape tells the other one's -/
theorem VR.isInt {v v' : Value} (hv : VR e v v') (hj : v ≠ Eng.junk) {k : IntKind} {n : Int} (h : v' = .int k n) : v = .int k n := by
  subst h; cases hv <;> first | rfl | exact absurd rfl hj
theorem VR.isString {v v' : Value} (hv : VR e v v') (hj : v ≠ Eng.junk) {s : ByteArray} (h : v' = .string s) : v = .string s := by
  subst h; cases hv <;> first | rfl | exact absurd rfl hj
theorem VR.isFloat {v v' : Value} (hv : VR e v v') (hj : v ≠ Eng.junk) {k : FloatKind} {n : Nat} (h : v' = .float k n) : v = .float k n := by
  subst h; cases hv <;> first | rfl | exact absurd rfl hj
theorem VR.isComplex {v v' : Value} (hv : VR e v v') (hj : v ≠ Eng.junk) {k : FloatKind} {n m : Nat} (h : v' = .complex k n m) : False := by
  subst h; cases hv; exact hj rfl
theorem VR.isNil {v v' : Value} (hv : VR e v v') (hj : v ≠ Eng.junk) (h : v' = .nilIface) : v = .nilIface := by
  subst h; cases hv <;> first | rfl | exact absurd rfl hj
theorem VR.isAgg {v v' : Value} (hv : VR e v v') (hj : v ≠ Eng.junk) {a : Array Value} (h : v' = .agg a) : ∃ b, v = .agg b := by
  subst h; cases hv <;> first | exact ⟨_, rfl⟩ | exact absurd rfl hj

theorem run_abin {op : BinOp} {t : TypeId} {x y : Operand} {a b a' b' v : Value} (ha : abin B.c op t a b (isC x) (isC y) = some v) (hx : VR e a a') (hy : VR e b b') (w : World) :
    ∃ v', (do eqGuard op t x y a' b'; binOp op t a' b').run B.P w = .ok v' w ∧ VR e v v' := by
  have test : ∀ r, (op = .eql ∨ op = .neq) → (∀ k n k' n', ¬ (a = .int k n ∧ b = .int k' n')) → (∀ s u, ¬ (a = .string s ∧ b = .string u)) → (a = .nilIface → b = .nilIface → (isC x || isC y) = true) →
      aequal B.c t a b = some r → (eqGuard op t x y a' b').run B.P w = .ok () w ∧ (binOp .eql t a' b').run B.P w = .ok (.bool r) w ∧ (binOp .neq t a' b').run B.P w = .ok (.bool (!r)) w := by
    intro r hop hni hns hnil he
    obtain ⟨hf, hc, hja, hjb⟩ := aequal_num he
    have hrun := run_aequal he hx hy w
    have h2 := run_eql (B := B) (w := w) (t := t) (x' := a') (y' := b') (b := r)
      (fun k n k' n' ⟨h1, h2⟩ => hni k n k' n' ⟨hx.isInt hja h1, hy.isInt hjb h2⟩)
      (fun s u ⟨h1, h2⟩ => hns s u ⟨hx.isString hja h1, hy.isString hjb h2⟩)
      (fun k n k' n' ⟨h1, h2⟩ => hf k n k' n' ⟨hx.isFloat hja h1, hy.isFloat hjb h2⟩)
      (fun k n m k' n' m' ⟨h1, _⟩ => hx.isComplex hja h1) hrun
    refine ⟨?_, h2⟩
    by_cases hn : a = .nilIface ∧ b = .nilIface
    · obtain ⟨rfl, rfl⟩ := hn
      cases hx; cases hy
      exact run_eqGuard_nil (hnil rfl rfl) w
    · by_cases hg : (∃ c, a' = .agg c) ∧ (∃ d, b' = .agg d)
      · obtain ⟨⟨c, rfl⟩, ⟨d, rfl⟩⟩ := hg
        obtain ⟨c', rfl⟩ := hx.isAgg hja rfl
        obtain ⟨d', rfl⟩ := hy.isAgg hjb rfl
        unfold aequal at he
        simp only at he
        split at he
        · cases he
        · rename_i hgt
          exact run_eqGuard_agg' hgt w
      · exact run_eqGuard_other (fun ⟨h1, h2⟩ => hn ⟨hx.isNil hja h1, hy.isNil hjb h2⟩) (fun c d ⟨h1, h2⟩ => hg ⟨⟨c, h1⟩, ⟨d, h2⟩⟩) w
  unfold abin at ha
  split at ha
  · cases hx; cases hy
    split at ha
    · cases ha
    · rename_i hlt
      cases ha
      refine ⟨_, ?_, .int _ _⟩
      simp only [Sem.run_bind, run_eqGuard_none (by decide : BinOp.shl ≠ .eql) (by decide), Result.andThen_ok, binOp, Op.shift, if_neg hlt, Sem.run_pure]
  · cases hx; cases hy
    split at ha
    · cases ha
    · rename_i hlt
      cases ha
      refine ⟨_, ?_, .int _ _⟩
      simp only [Sem.run_bind, run_eqGuard_none (by decide : BinOp.shr ≠ .eql) (by decide), Result.andThen_ok, binOp, Op.shift, if_neg hlt, Sem.run_pure]
  · cases hx; cases hy
    split at ha
    · rename_i hk
      subst hk
      obtain ⟨h1, h2⟩ := run_abinInt (B := B) (e := e) ha t w
      refine ⟨v, ?_, h2⟩
      rw [Sem.run_bind, run_eqGuard_other (fun h => by cases h.1) (fun c d h => by cases h.1), Result.andThen_ok, h1]
    · cases ha
  · cases hx; cases hy
    obtain ⟨h1, h2⟩ := run_abinStr (B := B) (e := e) ha t w
    refine ⟨v, ?_, h2⟩
    rw [Sem.run_bind, run_eqGuard_other (fun h => by cases h.1) (fun c d h => by cases h.1), Result.andThen_ok, h1]
  · split at ha
    · rename_i r hc he
      cases ha
      obtain ⟨h1, h2, h3⟩ := test r (.inl rfl) (fun _ _ _ _ h => by cases h.1) (fun _ _ h => by cases h.1) (fun _ _ => hc) he
      exact ⟨_, by simp only [Sem.run_bind, h1, Result.andThen_ok, h2], .bool _⟩
    · cases ha
  · split at ha
    · rename_i r hc he
      cases ha
      obtain ⟨h1, h2, h3⟩ := test r (.inr rfl) (fun _ _ _ _ h => by cases h.1) (fun _ _ h => by cases h.1) (fun _ _ => hc) he
      exact ⟨_, by simp only [Sem.run_bind, h1, Result.andThen_ok, h3], .bool _⟩
    · cases ha
  · rename_i hi hs hn
    split at ha
    · rename_i r he
      cases ha
      obtain ⟨h1, h2, h3⟩ := test r (.inl rfl) (fun k n k' n' h => hi k n k' n' h.1 h.2) (fun s u h => hs s u h.1 h.2) (fun p q => absurd q (hn p)) he
      exact ⟨_, by simp only [Sem.run_bind, h1, Result.andThen_ok, h2], .bool _⟩
    · cases ha
  · rename_i hi hs hn
    split at ha
    · rename_i r he
      cases ha
      obtain ⟨h1, h2, h3⟩ := test r (.inr rfl) (fun k n k' n' h => hi k n k' n' h.1 h.2) (fun s u h => hs s u h.1 h.2) (fun p q => absurd q (hn p)) he
      exact ⟨_, by simp only [Sem.run_bind, h1, Result.andThen_ok, h3], .bool _⟩
    · cases ha
  · cases ha

theorem run_aun {op : UnOp} {a a' v : Value} (ha : aun op a = some v) (hx : VR e a a') (w : World) : (Op.unary op a').run B.P w = .ok v w ∧ VR e v v := by
  unfold aun at ha
  split at ha
  · cases hx; cases ha; exact ⟨by simp [Op.unary, Op.intArith], .int _ _⟩
  · cases hx; obtain ⟨h1, n, rfl⟩ := run_abits (B := B) ha w; exact ⟨by simpa [Op.unary] using h1, .int _ _⟩
  · cases hx; cases ha; exact ⟨by simp [Op.unary], .bool _⟩
  · cases ha

theorem run_afieldAddr {t : TypeId} {a a' v : Value} {f : Nat} (ha : afieldAddr B.c t a f = some v) (hx : VR e a a') (w : World) : ∃ v', (Instr.fieldAt t a' f).run B.P w = .ok v' w ∧ VR e v v' := by
  unfold afieldAddr at ha
  split at ha
  · rename_i fs n off hu
    cases hx with
    | ptr _ hat =>
      split at ha
      · rename_i fd hf
        split at ha
        · rename_i sz hs
          cases ha
          refine ⟨_, ?_, .ptr _ hat⟩
          simp only [Instr.fieldAt, Sem.run_bind, run_underlying' hu, Result.andThen_ok, hf, Instr.sureAddr, Sem.run_pure, fieldPlace, run_sizeOf' hs, Nat.succ_ne_zero, if_false, add_mid, Nat.add_assoc]
        · cases ha
      · cases ha
  · cases ha

theorem run_afield {t : TypeId} {a a' v : Value} {f : Nat} (ha : afield B.c t a f = some v) (hx : VR e a a') (w : World) : ∃ v', (Instr.field t a' f).run B.P w = .ok v' w ∧ VR e v v' := by
  unfold afield at ha
  split at ha
  · rename_i fs cs hu
    cases hx with
    | agg hl =>
      split at ha
      · rename_i fd hf
        obtain ⟨v', h1, h2⟩ := run_apart ha hl w
        refine ⟨v', ?_, h2⟩
        simp only [Instr.field, Sem.run_bind, run_underlying' hu, Result.andThen_ok, hf, asAgg, Sem.run_pure, h1]
      · cases ha
  · cases ha

theorem run_aindexAddr {t : TypeId} {a a' i i' v : Value} (ha : aindexAddr B.c t a i = some v) (hx : VR e a a') (hi : VR e i i') (w : World) : ∃ v', (Instr.indexAt t a' i').run B.P w = .ok v' w ∧ VR e v v' := by
  unfold aindexAddr at ha
  split at ha
  · cases hi
    split at ha
    · rename_i len el n off hu
      cases hx with
      | ptr _ hat =>
        split at ha
        · rename_i s hs
          split at ha
          · rename_i hlt
            cases ha
            refine ⟨_, ?_, .ptr _ hat⟩
            simp only [Instr.indexAt, asIntOf, Sem.run_bind, Sem.run_pure, Result.andThen_ok, run_underlying' hu, Instr.sureAddr, hlt, and_self, if_true, run_sizeOf' hs, add_mid, Nat.add_assoc]
          · cases ha
        · cases ha
    · rename_i el n off len cap hu
      cases hx with
      | slice _ _ _ hat hc hl =>
        split at ha
        · rename_i s hs
          split at ha
          · rename_i hlt
            cases ha
            refine ⟨_, ?_, .ptr _ hat⟩
            simp only [Instr.indexAt, asIntOf, Sem.run_bind, Sem.run_pure, Result.andThen_ok, run_underlying' hu, hlt, and_self, if_true, run_sizeOf' hs, add_mid, Nat.add_assoc]
          · cases ha
        · cases ha
    · cases ha
  · cases ha

theorem run_aindex {t : TypeId} {a a' i i' v : Value} (ha : aindex B.c t a i = some v) (hx : VR e a a') (hi : VR e i i') (w : World) : ∃ v', (Instr.index t a' i').run B.P w = .ok v' w ∧ VR e v v' := by
  unfold aindex at ha
  split at ha
  · cases hi
    split at ha
    · rename_i len el cs hu
      cases hx with
      | agg hl =>
        split at ha
        · rename_i s hs
          split at ha
          · rename_i hlt
            obtain ⟨v', h1, h2⟩ := run_apart ha hl w
            refine ⟨v', ?_, h2⟩
            simp only [Instr.index, asIntOf, Sem.run_bind, Sem.run_pure, Result.andThen_ok, run_underlying' hu, hlt, and_self, if_true, run_sizeOf' hs, h1]
          · cases ha
        · cases ha
    · rename_i s hu
      cases hx
      split at ha
      · rename_i hlt
        split at ha
        · rename_i b hb
          cases ha
          refine ⟨_, ?_, .int _ _⟩
          simp only [Instr.index, asIntOf, Sem.run_bind, Sem.run_pure, Result.andThen_ok, run_underlying' hu, hlt, if_true, hb]
        · cases ha
      · cases ha
    · cases ha
  · cases ha

/-- bounds -/
theorem run_abound {y d n : Nat} {x x' : Option Value} (ha : abound y x d = some n) (hx : ∀ v, x = some v → ∃ v', x' = some v' ∧ VR e v v') (hn : x = none → x' = none) (code : BoundsCode) (w : World) :
    (match x' with | some v => Instr.sliceBound v y code | none => pure d).run B.P w = .ok n w ∧ (x ≠ none → n ≤ y) := by
  unfold abound at ha
  split at ha
  · cases ha; rw [hn rfl]; exact ⟨rfl, fun h => absurd rfl h⟩
  · rename_i k i
    split at ha
    · rename_i hi
      cases ha
      obtain ⟨v', rfl, hv⟩ := hx _ rfl
      cases hv
      refine ⟨?_, fun _ => by omega⟩
      simp only [Instr.sliceBound, asIntOf, Sem.run_bind, Sem.run_pure, Result.andThen_ok, hi, and_self, if_true]
    · cases ha
  · cases ha

/-- three bounds -/
def OptR (e : Env) (x x' : Option Value) : Prop := (∀ v, x = some v → ∃ v', x' = some v' ∧ VR e v v') ∧ (x = none → x' = none)
theorem OptR.of {x x' : Option Value} (hx : ∀ v, x = some v → ∃ v', x' = some v' ∧ VR e v v') (hn : x = none → x' = none) : OptR e x x' := ⟨hx, hn⟩
theorem run_bounds {isS : Bool} {len cap m hi lo : Nat} {low high max low' high' max' : Option Value} (hm : abound cap max cap = some m)
    (hh : (if max.isSome && high.isNone then none else abound m high len) = some hi) (hl : abound hi low 0 = some lo) (r1 : OptR e low low') (r2 : OptR e high high') (r3 : OptR e max max') (w : World) :
    (Instr.sliceBounds isS len cap low' high' max').run B.P w = .ok (lo, hi, m) w := by
  have e3 : ∀ code, (match max' with | some v => Instr.sliceBound v cap code | none => pure cap).run B.P w = .ok m w := fun code => (run_abound (B := B) hm r3.1 r3.2 code w).1
  split at hh
  · cases hh
  · rename_i hno
    have e2 : ∀ code, (match high' with | some v => Instr.sliceBound v m code | none => pure len).run B.P w = .ok hi w := fun code => (run_abound (B := B) hh r2.1 r2.2 code w).1
    have e1 : ∀ code, (match low' with | some v => Instr.sliceBound v hi code | none => pure 0).run B.P w = .ok lo w := fun code => (run_abound (B := B) hl r1.1 r1.2 code w).1
    have hcomb : ¬ (max'.isSome = true ∧ high' = none) := by
      rintro ⟨h1, h2⟩
      have hm1 : max.isSome = true := by
        cases max with
        | none => rw [r3.2 rfl] at h1; cases h1
        | some v => rfl
      have hm2 : high = none := by
        cases high with
        | none => rfl
        | some v => obtain ⟨v', h, _⟩ := r2.1 v rfl; rw [h2] at h; cases h
      rw [hm1, hm2] at hno
      simp at hno
    unfold Instr.sliceBounds
    cases max' with
    | none =>
      have e3' := e3 .index
      simp only [Sem.run_pure] at e3'
      cases e3'
      cases high' with
      | none =>
        have e2' := e2 .index
        simp only [Sem.run_pure] at e2'
        cases e2'
        cases low' with
        | none =>
          have e1' := e1 .index
          simp only [Sem.run_pure] at e1'
          cases e1'
          rfl
        | some l => simp only [Sem.run_bind, Sem.run_pure, Result.andThen_ok, Option.isSome_none, Bool.false_eq_true, if_false]; rw [e1 .sliceB]; rfl
      | some g =>
        simp only [Sem.run_bind, Sem.run_pure, Result.andThen_ok, Option.isSome_none, Bool.false_eq_true, if_false]
        rw [e2]
        cases low' with
        | none =>
          have e1' := e1 .index
          simp only [Sem.run_pure] at e1'
          cases e1'
          rfl
        | some l => simp only [Sem.run_bind, Sem.run_pure, Result.andThen_ok]; rw [e1 .sliceB]; rfl
    | some mx =>
      cases high' with
      | none => exact absurd ⟨rfl, rfl⟩ hcomb
      | some g =>
        simp only [Sem.run_bind, Sem.run_pure, Result.andThen_ok, Option.isSome_some, if_true]
        rw [e3]
        simp only [Result.andThen_ok]
        rw [e2]
        cases low' with
        | none =>
          have e1' := e1 .index
          simp only [Sem.run_pure] at e1'
          cases e1'
          rfl
        | some l => simp only [Sem.run_bind, Sem.run_pure, Result.andThen_ok]; rw [e1 .slice3C]; rfl
end
end
end Go.Eng

namespace Go.Eng
open Go
noncomputable section

section
variable {B : Base} {e : Env} {h : Heap} {w : World}

theorem abound_le {y d n : Nat} {x : Option Value} (h : abound y x d = some n) (hd : d ≤ y) : n ≤ y := by
  unfold abound at h
  split at h
  · cases h; exact hd
  · split at h
    · cases h; omega
    · cases h
  · cases h

theorem map_add (b o j : Nat) : ((some ⟨b, o, none⟩ : Option Addr)).map (·.add j) = some ⟨b, o + j, none⟩ := by simp [add_mid]

theorem rcap_small {κ c : Nat} (h : c < BIG) : rcap κ c = c := by unfold rcap; rw [if_pos h]
theorem BIG_lt : BIG < BIG2 := by decide
theorem BIG2_eq : BIG2 = 2 * BIG := by decide
theorem k64 : 2 ^ 64 < BIG := by decide

theorem VR.sliceSmall {n b base κ off l c : Nat} (ha : e.at n = some (b, base, κ)) (hc : c < BIG) (hl : l ≤ c) : VR e (.slice (some ⟨n, off, none⟩) l c) (.slice (some ⟨b, base + off, none⟩) l c) := by
  have := VR.slice (e := e) off l c ha (.inl hc) (by rw [rcap_small hc]; exact hl)
  rwa [rcap_small hc] at this

theorem abound_some {y d n : Nat} {v : Value} (h : abound y (some v) d = some n) : n ≤ y := by
  unfold abound at h
  split at h
  · rename_i hx; cases hx
  · split at h
    · cases h; omega
    · cases h
  · cases h
/-- the bounds' order -/
theorem bounds_le {len cap m hi lo : Nat} {low high max : Option Value} (hm : abound cap max cap = some m)
    (hh : (if max.isSome && high.isNone then none else abound m high len) = some hi) (hl : abound hi low 0 = some lo) (hlen : len ≤ cap) : lo ≤ hi ∧ hi ≤ m ∧ m ≤ cap := by
  refine ⟨abound_le hl (Nat.zero_le _), ?_, abound_le hm (Nat.le_refl _)⟩
  split at hh
  · cases hh
  · rename_i hno
    cases high with
    | none =>
      cases max with
      | none => simp [abound] at hh hm; omega
      | some v => simp at hno
    | some v => exact abound_some hh

theorem run_asliceArr {size n : Nat} {nm b base κ off : Nat} {low high max low' high' max' : Option Value} {v : Value} (ha : asliceArr size n ⟨nm, off, none⟩ low high max = some v)
    (hat : e.at nm = some (b, base, κ)) (r1 : OptR e low low') (r2 : OptR e high high') (r3 : OptR e max max') (w : World) :
    ∃ lo hi m, (Instr.sliceBounds false n n low' high' max').run B.P w = .ok (lo, hi, m) w ∧
      VR e v (.slice (some (if m = lo then (⟨b, base + off, none⟩ : Addr) else (⟨b, base + off, none⟩ : Addr).add (lo * size))) (hi - lo) (m - lo)) := by
  unfold asliceArr at ha
  split at ha
  · cases ha
  rename_i hbig
  have hn : n < BIG := Nat.le_of_ble_eq_true hbig
  split at ha
  · cases ha
  · rename_i m hm
    split at ha
    · cases ha
    · rename_i hi hh
      split at ha
      · cases ha
      · rename_i lo hl
        refine ⟨lo, hi, m, run_bounds hm hh hl r1 r2 r3 w, ?_⟩
        obtain ⟨h3, h2, h1⟩ := bounds_le hm hh hl (Nat.le_refl _)
        split at ha
        · rename_i hlm
          cases ha
          rw [if_pos hlm.symm]
          exact VR.sliceSmall hat (by omega) (by omega)
        · rename_i hlm
          cases ha
          rw [if_neg (fun x => hlm x.symm), add_mid, Nat.add_assoc]
          exact VR.sliceSmall hat (by omega) (by omega)

theorem OptR.bound_of {y y' d n : Nat} {x : Option Value} (h : abound y x d = some n) (hy : y ≤ y') : abound y' x d = some n := by
  unfold abound at *
  split
  · exact h
  · simp only at h
    split at h
    · rename_i hi; cases h; rw [if_pos (by omega)]
    · cases h
  · simp at h

theorem cellsOf_sz {c : Ctx} {t : TypeId} {n : Nat} (h : szOf c t = some n) : c.P.cellsOf t = n := by
  obtain ⟨i, hi, rfl⟩ := szOf_info h
  simp [Program.cellsOf, hi]
theorem known_le (s : HS B e h w) {n b base κ size len cap : Nat} (hat : e.at n = some (b, base, κ)) (hc : ¬ cap < BIG) (hl : len ≤ rcap κ cap) : known B.c h n size len cap ≤ rcap κ cap := by
  unfold known
  split
  · rename_i cs el hg
    split
    · rename_i sz hsz
      split
      · rename_i hb
        have := Nat.eq_of_beq_eq_true hb
        subst this
        obtain ⟨b2, base2, κ2, ob, ha', hw, ho, _⟩ := s.live _ _ hg (at_some hat)
        rw [hat] at ha'; cases ha'
        cases ho with
        | grown _ fz hv hs hz hk =>
          have hlen := hv.length
          simp at hlen
          rw [cellsOf_sz hsz] at hs
          have hle : cs.length ≤ κ * sz := by omega
          have hdiv : cs.length / sz ≤ κ := by
            rcases Nat.eq_zero_or_pos sz with h0 | h0
            · subst h0; simp
            · exact Nat.div_le_of_le_mul (by rw [Nat.mul_comm]; exact hle)
          have hr : rcap κ cap = κ - (BIG2 - cap) := by unfold rcap; rw [if_neg hc]
          rw [hr] at hl ⊢
          exact Nat.max_le.2 ⟨hl, by omega⟩
      · exact hl
    · exact hl
  · exact hl
theorem known_ge {c : Ctx} {h : Heap} {n size len cap : Nat} : len ≤ known c h n size len cap := by
  unfold known
  split
  · split
    · split
      · exact Nat.le_max_left _ _
      · exact Nat.le_refl _
    · exact Nat.le_refl _
  · exact Nat.le_refl _

theorem run_aslice (s : HS B e h w) {t : TypeId} {a a' v : Value} {low high max low' high' max' : Option Value} (ha : aslice B.c t a low high max h = some v) (hx : VR e a a') (r1 : OptR e low low') (r2 : OptR e high high') (r3 : OptR e max max') :
    ∃ v', (Instr.sliceAt t a' low' high' max').run B.P w = .ok v' w ∧ VR e v v' := by
  unfold aslice at ha
  split at ha
  · -- a text
    rename_i str hu
    cases hx
    split at ha
    · cases ha
    · split at ha
      · cases ha
      · rename_i hi hh
        split at ha
        · cases ha
        · rename_i lo hl
          cases ha
          have hmx : max' = none := r3.2 rfl
          subst hmx
          have hb := run_bounds (B := B) (e := e) (isS := false) (len := str.size) (cap := str.size) (m := str.size) (hi := hi) (lo := lo) (max := none) (max' := none) rfl (by simpa using hh) hl r1 r2 r3 w
          refine ⟨_, ?_, .string _⟩
          simp only [Instr.sliceAt, Instr.slice, Sem.run_bind, run_underlying' hu, Result.andThen_ok, Option.isSome_none, Bool.false_eq_true, if_false, hb, Sem.run_pure]
  · -- the nil slice
    rename_i el hu
    split at ha
    · split at ha
      · cases ha
      · cases ha
      · rename_i m sz hm hsz
        split at ha
        · rename_i hi lo hh hl
          cases ha
          cases hx
          have hm0 : m = 0 := by have := abound_le hm (Nat.le_refl _); omega
          subst hm0
          have hh0 : hi = 0 := by
            split at hh
            · cases hh
            · have := abound_le hh (Nat.le_refl _); omega
          subst hh0
          have hl0 : lo = 0 := by have := abound_le hl (Nat.le_refl _); omega
          subst hl0
          have hb := run_bounds (B := B) (e := e) (isS := true) (len := 0) (cap := 0) hm hh hl r1 r2 r3 w
          refine ⟨.slice none 0 0, ?_, .slice0 0 0⟩
          simp only [Instr.sliceAt, Instr.slice, Sem.run_bind, run_underlying' hu, Result.andThen_ok, hb, run_sizeOf' hsz, if_true, Sem.run_pure]
        · cases ha
    · cases ha
  · rename_i el n off len cap hu
    cases hx with
    | slice _ _ _ hat hc hl =>
      rename_i b base κ
      split at ha
      · cases ha
      · rename_i size hsz
        split at ha
        · -- its capacity is known
          rename_i hbig
          have hcb : cap < BIG := Nat.le_of_ble_eq_true hbig
          rw [rcap_small hcb] at hl ⊢
          split at ha
          · cases ha
          · rename_i m hm
            split at ha
            · cases ha
            · rename_i hi hh
              split at ha
              · cases ha
              · rename_i lo hlo
                have hb := run_bounds (B := B) (e := e) (isS := true) hm hh hlo r1 r2 r3 w
                obtain ⟨h3, h2, h1⟩ := bounds_le hm hh hlo hl
                split at ha
                · rename_i hlm
                  cases ha
                  refine ⟨_, ?_, VR.sliceSmall hat (by omega) (by omega)⟩
                  simp only [Instr.sliceAt, Instr.slice, Sem.run_bind, run_underlying' hu, Result.andThen_ok, hb, run_sizeOf' hsz, if_pos hlm.symm, Sem.run_pure]
                · rename_i hlm
                  cases ha
                  refine ⟨_, ?_, VR.sliceSmall hat (by omega) (by omega)⟩
                  simp only [Instr.sliceAt, Instr.slice, Sem.run_bind, run_underlying' hu, Result.andThen_ok, hb, run_sizeOf' hsz, if_neg (fun x => hlm (Eq.symm x)), map_add, Sem.run_pure, Nat.add_assoc]
        · -- a grown row's
          rename_i hbig
          have hcb : ¬ cap < BIG := fun hlt => by
            have : Nat.blt cap BIG = true := Nat.ble_eq_true_of_le hlt
            rw [this] at hbig; cases hbig
          obtain ⟨hc1, hc2, hc3⟩ := hc.resolve_left hcb
          have hrc : rcap κ cap = κ - (BIG2 - cap) := by unfold rcap; rw [if_neg hcb]
          have hk := k64
          have hB := BIG2_eq
          have hK := known_le (size := size) s hat hcb hl
          have hK2 := known_ge (c := B.c) (h := h) (n := n) (size := size) (len := len) (cap := cap)
          generalize known B.c h n size len cap = K at ha hK hK2
          split at ha
          · rename_i mv
            split at ha
            · cases ha
            · rename_i m hm
              split at ha
              · cases ha
              · rename_i hi hh
                split at ha
                · cases ha
                · rename_i lo hlo
                  have hm' : abound (rcap κ cap) (some mv) (rcap κ cap) = some m := by
                    unfold abound at hm ⊢
                    split at hm
                    · rename_i hx; cases hx
                    · rename_i hx; cases hx
                      split at hm
                      · rename_i hi'; cases hm; simp only; rw [if_pos (by omega)]
                      · cases hm
                    · cases hm
                  have hb := run_bounds (B := B) (e := e) (isS := true) (len := len) hm' (by simpa using hh) hlo r1 r2 r3 w
                  obtain ⟨h3, h2, h1⟩ := bounds_le hm' (by simpa using hh) hlo hl
                  have hml : m ≤ K := abound_some hm
                  split at ha
                  · rename_i hlm
                    cases ha
                    refine ⟨_, ?_, VR.sliceSmall hat (by omega) (by omega)⟩
                    simp only [Instr.sliceAt, Instr.slice, Sem.run_bind, run_underlying' hu, Result.andThen_ok, hb, run_sizeOf' hsz, if_pos hlm.symm, Sem.run_pure]
                  · rename_i hlm
                    cases ha
                    refine ⟨_, ?_, VR.sliceSmall hat (by omega) (by omega)⟩
                    simp only [Instr.sliceAt, Instr.slice, Sem.run_bind, run_underlying' hu, Result.andThen_ok, hb, run_sizeOf' hsz, if_neg (fun x => hlm (Eq.symm x)), map_add, Sem.run_pure, Nat.add_assoc]
          · split at ha
            · cases ha
            · rename_i hi hh
              split at ha
              · cases ha
              · rename_i lo hlo
                have hb := run_bounds (B := B) (e := e) (isS := true) (len := len) (cap := rcap κ cap) (m := rcap κ cap) (hi := hi) (lo := lo) (max := none) (max' := max') rfl (by
                  simp only [Option.isSome_none, Bool.false_and, Bool.false_eq_true, if_false]
                  exact OptR.bound_of hh hK) hlo r1 r2 r3 w
                have h2 : hi ≤ K := abound_le hh hK2
                have h3 : lo ≤ hi := abound_le hlo (Nat.zero_le _)
                split at ha
                · rename_i hl0
                  cases ha
                  subst hl0
                  refine ⟨.slice (some ⟨b, base + off, none⟩) hi (rcap κ cap), ?_, .slice _ _ _ hat hc (by omega)⟩
                  simp only [Instr.sliceAt, Instr.slice, Sem.run_bind, run_underlying' hu, Result.andThen_ok, hb, run_sizeOf' hsz, Sem.run_pure, Nat.sub_zero, Nat.zero_mul, map_add, Nat.add_zero, ite_self]
                · rename_i hl0
                  split at ha
                  · rename_i hlt
                    cases ha
                    have hr2 : rcap κ (cap - lo) = rcap κ cap - lo := by
                      unfold rcap
                      rw [if_neg (by omega), if_neg hcb]; omega
                    have hv := VR.slice (e := e) (off + lo * size) (hi - lo) (cap - lo) hat (.inr ⟨by omega, by omega, hc3⟩) (by rw [hr2]; omega)
                    rw [hr2] at hv
                    refine ⟨_, ?_, hv⟩
                    simp only [Instr.sliceAt, Instr.slice, Sem.run_bind, run_underlying' hu, Result.andThen_ok, hb, run_sizeOf' hsz, if_neg (show ¬ rcap κ cap = lo by omega), map_add, Sem.run_pure, Nat.add_assoc]
                  · cases ha
                    have hz : hi - lo = 0 := by omega
                    refine ⟨.slice (some (if rcap κ cap = lo then ⟨b, base + off, none⟩ else (⟨b, base + off, none⟩ : Addr).add (lo * size))) 0 (rcap κ cap - lo), ?_, VR.sliceE _ _⟩
                    simp only [Instr.sliceAt, Instr.slice, Sem.run_bind, run_underlying' hu, Result.andThen_ok, hb, run_sizeOf' hsz, Sem.run_pure, hz]
                    split <;> rfl
  · -- an empty slice
    rename_i el hu
    split at ha
    · rename_i sz hi lo hsz hh hlo
      cases ha
      cases hx
      rename_i x cp
      have hh0 : hi = 0 := by have := abound_le hh (Nat.le_refl _); omega
      subst hh0
      have hl0 : lo = 0 := by have := abound_le hlo (Nat.le_refl _); omega
      subst hl0
      have hb := run_bounds (B := B) (e := e) (isS := true) (len := 0) (cap := cp) (m := cp) (hi := 0) (lo := 0) (max := none) (max' := max') rfl (by
        simp only [Option.isSome_none, Bool.false_and, Bool.false_eq_true, if_false]
        exact OptR.bound_of hh (Nat.zero_le _)) hlo r1 r2 r3 w
      refine ⟨.slice (some (if cp = 0 then x else x.add (0 * sz))) 0 cp, ?_, VR.sliceE _ _⟩
      simp only [Instr.sliceAt, Instr.slice, Sem.run_bind, run_underlying' hu, Result.andThen_ok, hb, run_sizeOf' hsz, Sem.run_pure, Nat.sub_zero]
      split <;> rfl
    · cases ha
  · rename_i n el b off hu
    cases hx with
    | ptr _ hat =>
      split at ha
      · cases ha
      · rename_i size hsz
        obtain ⟨lo, hi, m, hb, hv⟩ := run_asliceArr (B := B) ha hat r1 r2 r3 w
        refine ⟨_, ?_, hv⟩
        simp only [Instr.sliceAt, Sem.run_bind, run_underlying' hu, Result.andThen_ok, Instr.sureAddr, Sem.run_pure, hb, run_sizeOf' hsz]
  · rename_i arr b off hu
    cases hx with
    | ptr _ hat =>
      split at ha
      · rename_i n el hu2
        split at ha
        · cases ha
        · rename_i size hsz
          obtain ⟨lo, hi, m, hb, hv⟩ := run_asliceArr (B := B) ha hat r1 r2 r3 w
          refine ⟨_, ?_, hv⟩
          simp only [Instr.sliceAt, Instr.slice, Sem.run_bind, run_underlying' hu, Result.andThen_ok, asAddr, Sem.run_pure, run_underlying' hu2, hb, run_sizeOf' hsz]
      · cases ha
  · cases ha
end
end
end Go.Eng

namespace Go.Eng
open Go
noncomputable section

section
variable {B : Base} {e : Env} {h : Heap} {w : World}

theorem new_name (s : HS B e h w) (x : Nat × Nat × Nat) : Env.at (e ++ [.made x]) h.fresh = some x := by rw [s.freshName]; exact Env.at_snoc _ _

/-- a known row more -/
theorem run_newCells (s : HS B e h w) {c : List Value} {C : Array Value} (elem : TypeId) (hv : VRs e c C.toList) :
    ∃ e' w', e.le e' ∧ (newRow elem C).run B.P w = .ok ⟨w.heap.size, 0, none⟩ w' ∧ HS B e' (h.new (.cells c elem (0, 0))) w' ∧ e'.at h.fresh = some (w.heap.size, 0, 0) := by
  refine ⟨e ++ [.made (w.heap.size, 0, 0)], { w with heap := w.heap.push (.cells C elem) }, Env.le_snoc _ _, ?_, by exact s.new 0 0 (.cells elem (0, 0) rfl (hv.mono (Env.le_snoc _ _))) rfl rfl rfl rfl, new_name s _⟩
  simp only [newRow, Sem.run_bind, run_newObj, Result.andThen_ok, Sem.run_pure]

theorem run_aalloc (s : HS B e h w) {t : TypeId} {z : List Value} (hz : zeroCells B.c t = some z) :
    ∃ e' w' v', e.le e' ∧ (Instr.alloc t true (.tuple #[])).run B.P w = .ok v' w' ∧ VR e' (ptr h.fresh 0) v' ∧ HS B e' (h.new (.cells z t (0, 0))) w' := by
  obtain ⟨i, v, hi, hv, hc, hp⟩ := zero_info hz
  obtain ⟨v2, hrun, hc2⟩ := run_zero (B := B) hz w
  obtain ⟨e', w', hle, hr, hs, ha⟩ := run_newCells (c := z) (C := v2.cells) s t (by rw [hc2]; exact VRs.plain hp)
  refine ⟨e', w', _, hle, ?_, .ptr 0 ha, hs⟩
  simp only [Instr.alloc, Sem.run_bind, hrun, Result.andThen_ok, newVar, hr, Sem.run_pure, Nat.add_zero]

theorem run_abox (s : HS B e h w) {t : TypeId} {a a' : Value} (hj : isJunk a = false) (hx : VR e a a') :
    ∃ e' w' v', e.le e' ∧ (Instr.box t a').run B.P w = .ok v' w' ∧ VR e' (ptr h.fresh 0) v' ∧ HS B e' (h.new (.cells a.cells.toList t (0, 0))) w' := by
  obtain ⟨e', w', hle, hr, hs, ha⟩ := run_newCells (C := a'.cells) s t (cells_VRs hx hj)
  refine ⟨e', w', _, hle, ?_, .ptr 0 ha, hs⟩
  simp only [Instr.box, Sem.run_bind, newVar, hr, Result.andThen_ok, Sem.run_pure, Nat.add_zero]

/-- parts put into cells -/
inductive PRs (e : Env) : List (Nat × Value) → List (Nat × Value) → Prop
  | nil : PRs e [] []
  | cons (i : Nat) {v v' : Value} {l l' : List (Nat × Value)} (h : VR e v v') (t : PRs e l l') : PRs e ((i, v) :: l) ((i, v') :: l')
theorem VRs.set : ∀ {l m : List Value}, VRs e l m → ∀ (i : Nat) {v v' : Value}, VR e v v' → VRs e (l.set i v) (m.set i v')
  | _, _, .nil, _, _, _, _ => .nil
  | _, _, .cons _ t, 0, _, _, hv => .cons hv t
  | _, _, .cons g t, i + 1, _, _, hv => .cons g (t.set i hv)
theorem fold_fill (off : Nat) : ∀ (vs vs' : List Value) (k : Nat) (cs cs' : Array Value), VRs e vs vs' → VRs e cs.toList cs'.toList →
    VRs e ((vs.zipIdx k).foldl (fun cs (p : Value × Nat) => cs.setIfInBounds (off + p.2) p.1) cs).toList ((vs'.zipIdx k).foldl (fun cs (p : Value × Nat) => cs.setIfInBounds (off + p.2) p.1) cs').toList
  | _, _, k, cs, cs', .nil, hc => hc
  | _, _, k, cs, cs', .cons g t, hc => by
    simp only [List.zipIdx_cons, List.foldl_cons]
    exact fold_fill off _ _ (k + 1) _ _ t (by simpa using hc.set (off + k) g)
theorem fill_rel (place : Nat → Option (Nat × Nat)) : ∀ (l l' : List (Nat × Value)) (cs cs' r : Array Value), PRs e l l' → noJunk l = true → VRs e cs.toList cs'.toList → Instr.fill place cs l = some r →
    ∃ r', Instr.fill place cs' l' = some r' ∧ VRs e r.toList r'.toList
  | _, _, cs, cs', r, .nil, _, hc, hf => by simp [Instr.fill] at hf; subst hf; exact ⟨cs', rfl, hc⟩
  | _, _, cs, cs', r, .cons i (v := v) (v' := v') hv t, hj, hc, hf => by
    simp only [noJunk, List.all_cons, Bool.and_eq_true, Bool.not_eq_true'] at hj
    have hcv := cells_VRs hv hj.1
    have hsz : v'.cells.size = v.cells.size := by have := hcv.length; simpa using this.symm
    have hcs : cs'.size = cs.size := by have := hc.length; simpa using this.symm
    simp only [Instr.fill] at hf ⊢
    cases hp : place i with
    | none => simp [hp] at hf
    | some p =>
      obtain ⟨off, size⟩ := p
      simp only [hp, hsz, hcs] at hf ⊢
      split at hf
      · cases hf
      · rename_i hno
        rw [if_neg hno]
        refine fill_rel place _ _ _ _ r t (by simpa [noJunk] using hj.2) ?_ hf
        have h1 := fold_fill off _ _ 0 cs cs' hcv hc
        have conv : ∀ (A C : Array Value), (A.zipIdx.foldl (fun cs (x : Value × Nat) => cs.setIfInBounds (off + x.2) x.1) C) = ((A.toList.zipIdx 0).foldl (fun cs (p : Value × Nat) => cs.setIfInBounds (off + p.2) p.1) C) := by
          intro A C
          rw [← Array.foldl_toList]
          simp
        have e1 := conv v.cells cs
        have e2 := conv v'.cells cs'
        exact (e1 ▸ e2 ▸ h1 :)

theorem run_places (w : World) : ∀ (l : List Field) (pl : List (Nat × Nat)), places B.c l = some pl → (l.mapM fun f => do pure (f.offset, ← sizeOf f.type) : Sem (List (Nat × Nat))).run B.P w = .ok pl w
  | [], pl, hp => by simp [places] at hp; subst hp; rfl
  | f :: l, pl, hp => by
    simp only [places] at hp
    split at hp
    · rename_i s r hs hr
      cases hp
      have ih := run_places w l r hr
      simp only [List.mapM_cons, Sem.run_bind, run_sizeOf' hs, Result.andThen_ok, Sem.run_pure] at ih ⊢
      rw [ih]
      rfl
    · cases hp

theorem run_abuild {t : TypeId} {ps ps' : List (Nat × Value)} {v : Value} (ha : abuild B.c t ps = some v) (hp : PRs e ps ps') (w : World) :
    ∃ v', (Instr.build t ps'.toArray).run B.P w = .ok v' w ∧ VR e v v' := by
  unfold abuild at ha
  split at ha
  · rename_i z fs hj hz hu
    split at ha
    · rename_i pl hpl
      split at ha
      · rename_i cs hf
        cases ha
        obtain ⟨i, v, hi, hv, hc, hpz⟩ := zero_info hz
        obtain ⟨v2, hrun, hc2⟩ := run_zero (B := B) hz w
        have hcz : VRs e z.toArray.toList v2.cells.toList := by rw [hc2]; simpa using VRs.plain hpz
        obtain ⟨r', hr', hvr⟩ := fill_rel (e := e) (fun i => pl[i]?) ps ps' z.toArray v2.cells cs hp hj hcz hf
        refine ⟨.agg r', ?_, .agg hvr⟩
        have hmap : (fs.mapM fun f => do pure (f.offset, ← sizeOf f.type) : Sem (Array (Nat × Nat))).run B.P w = .ok pl.toArray w := by
          rw [Array.mapM_eq_mapM_toList]
          have := run_places (B := B) w fs.toList pl hpl
          simp only [Sem.run_map, this, Result.andThen_ok]
        simp only [Instr.build, Sem.run_bind, hrun, Result.andThen_ok, run_underlying' hu, hmap]
        have hpl' : (fun i : Nat => pl.toArray[i]?) = fun i : Nat => pl[i]? := by funext i; simp
        simp only [hpl', hr', Sem.run_pure]
      · cases ha
    · cases ha
  · rename_i z len el hj hz hu
    split at ha
    · rename_i s hs
      split at ha
      · rename_i cs hf
        cases ha
        obtain ⟨i, v, hi, hv, hc, hpz⟩ := zero_info hz
        obtain ⟨v2, hrun, hc2⟩ := run_zero (B := B) hz w
        have hcz : VRs e z.toArray.toList v2.cells.toList := by rw [hc2]; simpa using VRs.plain hpz
        obtain ⟨r', hr', hvr⟩ := fill_rel (e := e) (fun i => some (i * s, s)) ps ps' z.toArray v2.cells cs hp hj hcz hf
        refine ⟨.agg r', ?_, .agg hvr⟩
        simp only [Instr.build, Sem.run_bind, hrun, Result.andThen_ok, run_underlying' hu, run_sizeOf' hs, hr', Sem.run_pure]
      · cases ha
    · cases ha
  · cases ha

theorem rep_VRs {z : List Value} {Z : Array Value} (hz : z.all plain1 = true) (hZ : Z.toList = z) (n : Nat) : VRs e (rep z n) ((Array.range n).map (Z[· % Z.size]!)).toList := by
  apply VRs.of_get
  · simp [rep]
  · intro i v v' hv hv'
    simp only [rep, List.getElem?_map] at hv
    simp only [Array.toList_map, Array.toList_range, List.getElem?_map] at hv'
    cases hr : (List.range n)[i]? with
    | none => rw [hr] at hv; cases hv
    | some k =>
      rw [hr] at hv hv'
      simp only [Option.map_some, Option.some.injEq] at hv hv'
      subst hv hv' hZ
      rcases Nat.eq_zero_or_pos Z.size with h0 | hpos
      · have : Z.toList = [] := by simpa using h0
        rw [this]
        exact .junk _
      · have hlt : k % Z.size < Z.size := Nat.mod_lt _ hpos
        have e1 : Z.toList.getD (k % Z.toList.length) junk = Z[k % Z.size] := by
          simp [List.getD, hlt]
        have e2 : Z[k % Z.size]! = Z[k % Z.size] := by simp [hlt]
        rw [e1, e2]
        apply VR.plain1
        simp only [List.all_eq_true] at hz
        exact hz _ (by simp)

theorem run_abuildSlice (s : HS B e h w) {t : TypeId} {len : Nat} {ps ps' : List (Nat × Value)} {v : Value} {h' : Heap} (ha : abuildSlice B.c t len ps h = some (v, h')) (hp : PRs e ps ps') :
    ∃ e' w' v', e.le e' ∧ (Instr.buildSlice t len ps'.toArray).run B.P w = .ok v' w' ∧ VR e' v v' ∧ HS B e' h' w' := by
  unfold abuildSlice at ha
  split at ha
  · rename_i el hj hu
    split at ha
    · rename_i sz z hs hz
      split at ha
      · cases ha
      · rename_i hle
        split at ha
        · rename_i cs hf
          cases ha
          obtain ⟨i, zv, hi, hzv, hc, hpz⟩ := zero_info hz
          obtain ⟨v2, hrun, hc2⟩ := run_zero (B := B) hz w
          have hb : len < BIG := Classical.byContradiction fun x => hle (.inr x)
          have hle : ¬ len * sz > 2 ^ 24 := fun x => hle (.inl x)
          have hcz : VRs e (rep z (len * sz)).toArray.toList ((Array.range (len * sz)).map ((if len * sz = 0 then #[] else v2.cells)[· % (if len * sz = 0 then #[] else v2.cells).size]!)).toList := by
            split
            · rename_i h0; rw [h0]; simp [rep]; exact .nil
            · simpa using rep_VRs (e := e) hpz hc2 (len * sz)
          obtain ⟨r', hr', hvr⟩ := fill_rel (e := e) (fun i => some (i * sz, sz)) ps ps' _ _ cs hp hj hcz hf
          obtain ⟨e', w', hle', hr, hs', hat⟩ := run_newCells (C := r') s el hvr
          refine ⟨e', w', _, hle', ?_, VR.sliceSmall hat hb (Nat.le_refl _), hs'⟩
          by_cases h0 : len * sz = 0
          · simp only [if_pos h0] at hr'
            simp only [Instr.buildSlice, Sem.run_bind, run_underlying' hu, Result.andThen_ok, run_sizeOf' hs, if_neg hle, Sem.run_pure]
            rw [if_pos h0]
            simp only [Sem.run_bind, Sem.run_pure, Result.andThen_ok, hr', hr, Nat.add_zero]
          · simp only [if_neg h0] at hr'
            simp only [Instr.buildSlice, Sem.run_bind, run_underlying' hu, Result.andThen_ok, run_sizeOf' hs, if_neg hle, Sem.run_pure]
            rw [if_neg h0]
            simp only [Sem.run_bind, Sem.run_pure, hrun, Result.andThen_ok, hr', hr, Nat.add_zero]
        · cases ha
    · cases ha
  · cases ha

theorem wrap_small {n : Int} (h0 : 0 ≤ n) (h1 : n ≤ 2 ^ 48) : IntKind.i64.wrap n = n := by
  have h2 : n % (2 ^ 64 : Int) = n := Int.emod_eq_of_lt h0 (by omega)
  show (if (true && decide (n % (2 ^ 64 : Int) ≥ (2 ^ 63 : Int))) = true then n % (2 ^ 64 : Int) - (2 ^ 64 : Int) else n % (2 ^ 64 : Int)) = n
  rw [h2]
  simp only [Bool.true_and, decide_eq_true_eq]
  rw [if_neg (by omega)]

theorem run_amakeSlice (s : HS B e h w) {t : TypeId} {l l' k k' v : Value} {h' : Heap} (ha : amakeSlice B.c t l k h = some (v, h')) (hl : VR e l l') (hk : VR e k k') :
    ∃ e' w' v', e.le e' ∧ (Instr.makeSlice t l' k').run B.P w = .ok v' w' ∧ VR e' v v' ∧ HS B e' h' w' := by
  unfold amakeSlice at ha
  split at ha
  · rename_i el k1 l k2 k hu
    cases hl; cases hk
    split at ha
    · rename_i i z hi hz
      split at ha
      · rename_i hb
        obtain ⟨h0, hlk, hk48, hby⟩ := hb
        cases ha
        obtain ⟨v2, hrun, hc2⟩ := run_zero (B := B) hz w
        obtain ⟨_, _, _, _, _, hpz⟩ := zero_info hz
        have hsz : szOf B.c el = some i.size := by unfold szOf; unfold info at hi; rw [hi]
        have hwl := wrap_small h0 (by omega)
        have hwk := wrap_small (n := k) (by omega) hk48
        have hB : k.toNat < BIG := by have : (2:Nat) ^ 48 < BIG := by decide
                                      omega
        have hVR : VRs e (rep z (k.toNat * i.size)) ((Array.range (k.toNat * i.size)).map ((if k.toNat * i.size = 0 then #[] else v2.cells)[· % (if k.toNat * i.size = 0 then #[] else v2.cells).size]!)).toList := by
          split
          · rename_i h0; rw [h0]; simp [rep]; exact .nil
          · exact rep_VRs (e := e) hpz hc2 _
        obtain ⟨e', w', hle', hr, hs', hat⟩ := run_newCells s el hVR
        refine ⟨e', w', _, hle', ?_, VR.sliceSmall hat hB (by omega), hs'⟩
        have hno : (decide (k < 0) || decide (i.bytes * k > 2 ^ 48) || decide (l < 0) || decide (l > k)) = false := by
          simp; omega
        have hi' : B.c.P.info? el = some i := hi
        by_cases h00 : k.toNat * i.size = 0
        · simp only [if_pos h00] at hr
          simp only [Instr.makeSlice, Sem.run_bind, run_underlying' hu, Result.andThen_ok, asInt, asIntOf, Sem.run_pure, run_info hi', hwl, hwk, hno, Bool.false_eq_true, if_false, run_askRoom, run_sizeOf' hsz]
          rw [if_pos h00]
          simp only [Sem.run_bind, Sem.run_pure, Result.andThen_ok, hr, Nat.add_zero]
        · simp only [if_neg h00] at hr
          simp only [Instr.makeSlice, Sem.run_bind, run_underlying' hu, Result.andThen_ok, asInt, asIntOf, Sem.run_pure, run_info hi', hwl, hwk, hno, Bool.false_eq_true, if_false, run_askRoom, run_sizeOf' hsz]
          rw [if_neg h00]
          simp only [Sem.run_bind, Sem.run_pure, Result.andThen_ok, hrun, hr, Nat.add_zero]
      · cases ha
    · cases ha
  · cases ha

theorem run_alen (s : HS B e h w) {t : TypeId} {ts : List TypeId} {ty : TypeId} {x x' v : Value} (ha : alen B.c t x h = some v) (hx : VR e x x') :
    (Builtin.len_ (t :: ts).toArray ty #[x']).run B.P w = .ok v w ∧ VR e v v := by
  unfold alen at ha
  split at ha
  · rename_i hu; cases hx; cases ha; exact ⟨by simp [Builtin.len_, run_underlying' hu, goInt], .int _ _⟩
  · rename_i hu; cases ha; exact ⟨by simp [Builtin.len_, run_underlying' hu, goInt], .int _ _⟩
  · rename_i arr hu
    split at ha
    · rename_i hu2; cases ha; exact ⟨by simp [Builtin.len_, run_underlying' hu, run_underlying' hu2, goInt], .int _ _⟩
    · cases ha
  · rename_i hu; cases ha; cases hx <;> exact ⟨by simp [Builtin.len_, run_underlying' hu, goInt], .int _ _⟩
  · rename_i hu; cases hx; cases ha; exact ⟨by simp [Builtin.len_, run_underlying' hu, goInt], .int _ _⟩
  · rename_i r hu
    split at ha
    · rename_i es k hg
      cases ha
      cases hx with
      | map hat =>
        obtain ⟨b, base, κ, ob, ha', hw, ho, _⟩ := s.live _ _ hg (at_some hat)
        rw [hat] at ha'; cases ha'
        cases ho with
        | map _ _ hes =>
          have := hes.length
          refine ⟨?_, .int _ _⟩
          simp [Builtin.len_, run_underlying' hu, getObj, Sem.run, hw, goInt]
          have h2 : (es.length : Int) = _ := congrArg Int.ofNat this
          simpa using h2.symm
    · cases ha
  · cases ha

theorem run_acap {t : TypeId} {ts : List TypeId} {ty : TypeId} {x x' v : Value} (ha : acap B.c t x = some v) (hx : VR e x x') (w : World) :
    (Builtin.cap_ (t :: ts).toArray ty #[x']).run B.P w = .ok v w ∧ VR e v v := by
  unfold acap at ha
  split at ha
  · rename_i hu; cases ha; exact ⟨by simp [Builtin.cap_, run_underlying' hu, goInt], .int _ _⟩
  · rename_i hu; cases hx; cases ha; exact ⟨by simp [Builtin.cap_, run_underlying' hu, goInt], .int _ _⟩
  · rename_i hu
    split at ha
    · rename_i hb
      cases ha
      have hb := Nat.le_of_ble_eq_true hb
      cases hx
      exact ⟨by simp [Builtin.cap_, run_underlying' hu, goInt, rcap_small hb], .int _ _⟩
    · cases ha
  · cases ha

theorem run_min2 {x y x' y' v : Value} (ha : min2 x y = some v) (hx : VR e x x') (hy : VR e y y') (w : World) : (Builtin.min2 x' y').run B.P w = .ok v w ∧ VR e v v := by
  unfold min2 at ha
  split at ha
  · cases hx; cases hy; cases ha; exact ⟨rfl, .int _ _⟩
  · cases ha
theorem run_max2 {x y x' y' v : Value} (ha : max2 x y = some v) (hx : VR e x x') (hy : VR e y y') (w : World) : (Builtin.max2 x' y').run B.P w = .ok v w ∧ VR e v v := by
  unfold max2 at ha
  split at ha
  · cases hx; cases hy; cases ha; exact ⟨rfl, .int _ _⟩
  · cases ha
theorem run_fold2 {f : Value → Value → Option Value} {g : Value → Value → Sem Value} (hfg : ∀ x y x' y' v, f x y = some v → VR e x x' → VR e y y' → (g x' y').run B.P w = .ok v w ∧ VR e v v) :
    ∀ (l l' : List Value) (x x' v : Value), fold2 f x l = some v → VR e x x' → VRs e l l' → ∃ v', (l'.foldlM g x').run B.P w = .ok v' w ∧ VR e v v'
  | _, _, x, x', v, ha, hx, .nil => by simp only [fold2] at ha; cases ha; exact ⟨x', rfl, hx⟩
  | _, _, x, x', v, ha, hx, .cons hy t => by
    simp only [fold2] at ha
    split at ha
    · rename_i z hz
      obtain ⟨h1, h2⟩ := hfg _ _ _ _ _ hz hx hy
      obtain ⟨v', h3, h4⟩ := run_fold2 hfg _ _ z z v ha h2 t
      exact ⟨v', by simp only [List.foldlM_cons, Sem.run_bind, h1, Result.andThen_ok, h3], h4⟩
    · cases ha
end
end
end Go.Eng

namespace Go.Eng
open Go
noncomputable section

section
variable {B : Base} {e : Env} {h : Heap} {w : World}


theorem bytes_nums : ∀ {l l' : List Value} {bs : List UInt8}, bytesOfCells l = some bs → VRs e l l' → ∃ ns : List Int, l' = ns.map (Value.int .u8) ∧ bs = ns.map fun n => UInt8.ofNat n.toNat
  | [], _, bs, hb, .nil => by simp [bytesOfCells] at hb; subst hb; exact ⟨[], rfl, rfl⟩
  | v :: l, _, bs, hb, .cons hv t => by
    cases v <;> try (simp [bytesOfCells] at hb; done)
    rename_i k n
    cases k <;> try (simp [bytesOfCells] at hb; done)
    simp only [bytesOfCells] at hb
    split at hb
    · rename_i r hr
      cases hb
      obtain ⟨ns, h1, h2⟩ := bytes_nums hr t
      cases hv
      exact ⟨n :: ns, by simp [h1], by simp [h2]⟩
    · cases hb

theorem cut_append (need old elem t : Nat) : need ≤ (Question.appendCap need old elem).cut t := by simp [Question.cut]
theorem cut_append_lt {need old elem t : Nat} (h : need ≤ 2 ^ 60) : (Question.appendCap need old elem).cut t ≤ 2 ^ 64 := by
  simp only [Question.cut]
  have : t % (2 ^ 63 - need) < 2 ^ 63 - need := Nat.mod_lt _ (by omega)
  omega

/-- a string's bytes as new memory -/
theorem run_stringToBytes (s : HS B e h w) {el : TypeId} {str : ByteArray} (h1 : szOf B.c el = some 1) (hs60 : str.size ≤ 2 ^ 60) :
    ∃ e' w' v', e.le e' ∧ (Conv.stringToBytes el str).run B.P w = .ok v' w' ∧ VR e' (.slice (some ⟨h.fresh, 0, none⟩) str.size BIG2) v' ∧ HS B e' (h.new (.grown (cellsOfBytes str) el)) w' := by
  let cap := (Question.appendCap str.size 0 el).cut (w.tape w.drawn (.appendCap str.size 0 el))
  have hcap : str.size ≤ cap := cut_append _ _ _ _
  have hcap2 : cap ≤ 2 ^ 64 := cut_append_lt hs60
  let C : Array Value := (str.data.map fun b => Value.int .u8 b.toNat) ++ Array.replicate (cap - str.size) (.int .u8 0)
  have hsd : str.data.size = str.size := rfl
  have hC : C.size = cap := by simp only [C, Array.size_append, Array.size_map, Array.size_replicate]; omega
  let w1 : World := { w with drawn := w.drawn + 1 }
  let w2 : World := { w1 with heap := w1.heap.push (.cells C el) }
  let w3 : World := w2.freeze ⟨w.heap.size, C.size, none⟩ 1
  have hw3 : w3.heap = w.heap.push (.cells C el (C.size, C.size + 1)) := by
    simp only [w3, w2, w1, World.freeze, Nat.one_ne_zero, if_false]
    apply Array.ext_getElem?
    intro j
    rw [Array.getElem?_modify]
    by_cases hj : w.heap.size = j
    · subst hj; simp
    · rw [if_neg hj, Array.getElem?_push, Array.getElem?_push]
      simp only [hj, if_false, show ¬ j = w.heap.size from fun x => hj x.symm]
  have hrun : (Conv.stringToBytes el str).run B.P w = .ok (.slice (some ⟨w.heap.size, 0, none⟩) str.size cap) w3 := by
    have hshape : w2.shape? w.heap.size = some (el, C.size) := by simp [World.shape?, w2, w1]
    simp only [Conv.stringToBytes, Sem.run_bind, run_choose, Question.forced, Bool.false_eq_true, if_false, Result.andThen_ok, newRow, run_newObj, Sem.run_pure, markStringish, run_shape]
    have hshape' : ({ heap := w.heap.push (.cells C el), tape := w.tape, drawn := w.drawn + 1, os := w.os, output := w.output } : World).shape? w.heap.size = some (el, C.size) := hshape
    simp only [C, cap] at hshape'
    rw [hshape']
    simp only [run_freeze, Result.andThen_ok]
    rfl
  refine ⟨e ++ [.made (w.heap.size, 0, cap)], w3, _, Env.le_snoc _ _, hrun, ?_, ?_⟩
  · have hBIG := BIG2_eq
    have hk := k64
    have hr : rcap cap BIG2 = cap := by unfold rcap; rw [if_neg (by omega)]; omega
    have := VR.slice (e := e ++ [.made (w.heap.size, 0, cap)]) 0 str.size BIG2 (new_name s _) (.inr ⟨by omega, by omega, hcap2⟩) (by rw [hr]; exact hcap)
    rwa [hr] at this
  · refine s.new 0 cap (OR.grown el (C.size, C.size + 1) ?_ ?_ ?_ hcap2) hw3 ?_ ?_ ?_
    · have hl : (cellsOfBytes str).length = str.size := by unfold cellsOfBytes; rw [List.length_map, Array.length_toList]; rfl
      have : ((C.toList.drop 0).take (cellsOfBytes str).length) = cellsOfBytes str := by
        simp only [List.drop_zero, hl, C, Array.toList_append, Array.toList_map]
        have hm : (List.map (fun b : UInt8 => Value.int .u8 b.toNat) str.data.toList).length = str.size := by rw [List.length_map, Array.length_toList]; rfl
        rw [List.take_append_of_le_length (Nat.le_of_eq hm.symm)]
        rw [List.take_of_length_le (Nat.le_of_eq hm)]
        rfl
      rw [this]
      apply VRs.plain
      simp only [cellsOfBytes, List.all_map, List.all_eq_true]
      intro _ _
      rfl
    · rw [cellsOf_sz h1]; omega
    · exact .inr (Nat.le_refl _)
    · simp only [w3, World.freeze, Nat.one_ne_zero, if_false, w2, w1]
    · simp only [w3, World.freeze, Nat.one_ne_zero, if_false, w2, w1]
    · simp only [w3, World.freeze, Nat.one_ne_zero, if_false, w2, w1]

theorem Upd.freeze {w : World} {b off : Nat} {C : Array Value} {el : TypeId} {fz : Nat × Nat} (hw : w.heap[b]? = some (.cells C el fz)) :
    Upd w b (.cells C el (if fz.1 == fz.2 then (off, off + 1) else (min fz.1 off, max fz.2 (off + 1)))) (w.freeze ⟨b, off, none⟩ 1) where
  same := by
    simp only [World.freeze, Nat.one_ne_zero, if_false, Array.getElem?_modify, if_true, hw, Option.map_some]
  other := fun j hj => by
    simp only [World.freeze, Nat.one_ne_zero, if_false, Array.getElem?_modify]
    rw [if_neg (fun x => hj x.symm)]
  size := by simp [World.freeze]
  tape := by simp [World.freeze]
  os := by simp [World.freeze]
  output := by simp [World.freeze]

theorem run_aconvSlice (s : HS B e h w) {src dst e1 e2 : TypeId} {a : Option Addr} {l k : Nat} {x' v : Value} {h' : Heap} (hu1 : B.c.P.underlying src = some (.slice e1)) (hu2 : B.c.P.underlying dst = some (.slice e2))
    (ha : aconvSlice B.c src dst e2 a l k h = some (v, h')) (hx : VR e (.slice a l k) x') :
    ∃ w' v', (convert src dst x').run B.P w = .ok v' w' ∧ VR e v v' ∧ HS B e h' w' := by
  unfold aconvSlice at ha
  split at ha
  · rename_i n off hb hu3
    have hsd : src = dst := Nat.eq_of_beq_eq_true hb
    subst hsd
    obtain rfl : e1 = e2 := by have := hu1.symm.trans hu2; simpa using this
    cases hx with
    | @slice _ b base κ _ _ _ hat hc hl =>
      have run : ∀ (C : Array Value) (el : TypeId) (fz : Nat × Nat), w.heap[b]? = some (.cells C el fz) →
          (convert src src (.slice (some ⟨b, base + off, none⟩) l (rcap κ k))).run B.P w = .ok (.slice (some ⟨b, base + off, none⟩) l (rcap κ k)) (w.freeze ⟨b, C.size, none⟩ 1) := by
        intro C el fz hw
        have hsh : w.shape? b = some (el, C.size) := by simp [World.shape?, hw]
        simp only [convert, Sem.run_bind, run_underlying' hu1, run_underlying' hu3, Result.andThen_ok, beq_self_eq_true, markStringish, run_shape, hsh, run_freeze, Sem.run_pure]
      split at ha
      · rename_i cs el fz hg
        cases ha
        obtain ⟨b2, base2, κ2, ob, ha', hw, ho, _⟩ := s.live _ _ hg (at_some hat)
        obtain ⟨rfl, rfl, rfl⟩ : b = b2 ∧ base = base2 ∧ κ = κ2 := by simpa using at_inj hat ha'
        cases ho with
        | @cells _ C _ _ hb0 hcv =>
          subst hb0
          have hlC : cs.length = C.size := by simpa using hcv.length
          refine ⟨_, _, run C el fz hw, .slice off l k hat hc hl, s.upd hg hat (.cells el _ rfl hcv) ?_⟩
          have := Upd.freeze (off := C.size) hw
          rw [hlC]; exact this
      · rename_i cs el hg
        cases ha
        obtain ⟨b2, base2, κ2, ob, ha', hw, ho, _⟩ := s.live _ _ hg (at_some hat)
        obtain ⟨rfl, rfl, rfl⟩ : b = b2 ∧ base = base2 ∧ κ = κ2 := by simpa using at_inj hat ha'
        cases ho with
        | @grown _ C _ fz hcv hs hz hk =>
          refine ⟨_, _, run C el fz hw, .slice off l k hat hc hl, s.touch hg hat (.grown el _ hcv hs ?_ hk) (Upd.freeze (off := C.size) hw)⟩
          split
          · exact .inr (Nat.le_refl _)
          · rename_i hne
            have hne' : fz.1 ≠ fz.2 := fun x => hne (by rw [x]; exact beq_self_eq_true _)
            exact .inr (by simp only; omega)
      · cases ha
  · cases ha

theorem run_aconvert (s : HS B e h w) {src dst : TypeId} {x x' v : Value} {h' : Heap} (ha : aconvert B.c src dst x h = some (v, h')) (hx : VR e x x') :
    ∃ e' w' v', e.le e' ∧ (convert src dst x').run B.P w = .ok v' w' ∧ VR e' v v' ∧ HS B e' h' w' := by
  unfold aconvert at ha
  split at ha
  · rename_i hu1 hu2
    cases hx; cases ha
    exact ⟨e, w, _, Env.le_refl _, by simp only [convert, Sem.run_bind, run_underlying' hu1, run_underlying' hu2, Result.andThen_ok, Conv.intToInt, Sem.run_pure], .int _ _, s⟩
  · rename_i hu1 hu2
    cases hx; cases ha
    refine ⟨e, w, _, Env.le_refl _, ?_, .string _, s⟩
    simp only [convert, Sem.run_bind, run_underlying' hu1, run_underlying' hu2, Result.andThen_ok, Sem.run_pure]
  · rename_i el str hu1 hu2
    cases hx
    split at ha
    · rename_i hu3
      split at ha
      · rename_i h1
        split at ha
        · rename_i h60
          cases ha
          obtain ⟨e', w', v', hle, hr, hv, hs⟩ := run_stringToBytes s h1 h60
          refine ⟨e', w', v', hle, ?_, hv, hs⟩
          simp only [convert, Sem.run_bind, run_underlying' hu1, run_underlying' hu2, Result.andThen_ok, run_underlying' hu3, hr]
        · cases ha
      · cases ha
    · cases ha
  · rename_i el1 el2 a l k hu1 hu2
    obtain ⟨w', v', h1, h2, h3⟩ := run_aconvSlice s hu1 hu2 ha hx
    exact ⟨e, w', v', Env.le_refl _, h1, h2, h3⟩
  · rename_i el a len cap hu1 hu2
    split at ha
    · rename_i hu3
      split at ha
      · cases hx; cases ha
        refine ⟨e, w, _, Env.le_refl _, ?_, .string _, s⟩
        rw [run_convert_bytes_string w src dst el _ _ _ hu1 hu3 hu2]
        rfl
      · rename_i n off
        split at ha
        · rename_i l hr
          split at ha
          · rename_i bs hb
            cases ha
            cases hx with
            | slice _ _ _ hat hc hl =>
              obtain ⟨b, base, κ, l', ha', hv, hlen, hrun⟩ := run_read s hr (at_some hat)
              rw [hat] at ha'; cases ha'
              obtain ⟨ns, rfl, rfl⟩ := bytes_nums hb hv
              refine ⟨e, w, _, Env.le_refl _, ?_, .string _, s⟩
              rw [run_convert_bytes_string w src dst el _ _ _ hu1 hu3 hu2, run_bytesToString w _ _ _ ns hrun, foldl_push_bytes]
              simp
          · cases ha
        · cases ha
      · split at ha
        · cases ha
          cases hx
          refine ⟨e, w, _, Env.le_refl _, ?_, .string _, s⟩
          rw [run_convert_bytes_string w src dst el _ _ _ hu1 hu3 hu2]
          rfl
        · cases ha
    · cases ha
  · rename_i t n off hu1 hu2
    split at ha
    · rename_i sz l el fz hs hg
      split at ha
      · rename_i hb
        cases ha
        have hlt : off < l.length := Nat.le_of_ble_eq_true hb
        cases hx with
        | @ptr _ b base κ _ hat =>
          obtain ⟨b2, base2, κ2, ob, ha', hw, ho, _⟩ := s.live _ _ hg (at_some hat)
          obtain ⟨rfl, rfl, rfl⟩ : b = b2 ∧ base = base2 ∧ κ = κ2 := by simpa using at_inj hat ha'
          cases ho with
          | cells _ _ hb0 hc =>
            subst hb0
            rename_i C
            have hlC : l.length = C.size := by simpa using hc.length
            refine ⟨e, w, _, Env.le_refl _, ?_, .ptr _ hat, s⟩
            have hshape : w.shape? b = some (el, C.size) := by simp [World.shape?, hw]
            have hview : (viewAt b).run B.P w = .ok none w := by simp [viewAt, hshape]
            have hseen : (Conv.seenAt ⟨b, 0 + off, none⟩).run B.P w = .ok ⟨b, 0 + off, none⟩ w := by simp [Conv.seenAt, hview]
            have hcells : (cellsIn b).run B.P w = .ok (some C.size) w := by simp [cellsIn, hshape]
            simp only [convert, Sem.run_bind, run_underlying' hu1, run_underlying' hu2, Result.andThen_ok, Conv.unsafePointer, hseen, hcells, run_sizeOf' hs]
            simp
            intro hh; omega
      · cases ha
    · cases ha
  · rename_i u n off hu1 hu2
    split at ha
    · rename_i sz l el fz hs hg
      split at ha
      · rename_i hb
        cases ha
        cases hx with
        | @ptr _ b base κ _ hat =>
          obtain ⟨b2, base2, κ2, ob, ha', hw, ho, _⟩ := s.live _ _ hg (at_some hat)
          obtain ⟨rfl, rfl, rfl⟩ : b = b2 ∧ base = base2 ∧ κ = κ2 := by simpa using at_inj hat ha'
          cases ho with
          | cells _ _ hb0 hc =>
            subst hb0
            rename_i C
            have hlC : l.length = C.size := by simpa using hc.length
            refine ⟨e, w, _, Env.le_refl _, ?_, .ptr _ hat, s⟩
            have hshape : w.shape? b = some (el, C.size) := by simp [World.shape?, hw]
            have hview : (viewAt b).run B.P w = .ok none w := by simp [viewAt, hshape]
            have hseen : (Conv.seenAt ⟨b, 0 + off, none⟩).run B.P w = .ok ⟨b, 0 + off, none⟩ w := by simp [Conv.seenAt, hview]
            rw [hlC] at hb
            have hvar : (variablesAt ⟨b, 0 + off, none⟩ u 1).run B.P w = .ok true w := by
              simp only [variablesAt, Sem.run_bind, run_program, run_shape, Result.andThen_ok, hshape, Sem.run_pure, Nat.zero_add]
              rw [hb]
            simp only [convert, Sem.run_bind, run_underlying' hu1, run_underlying' hu2, Result.andThen_ok, Conv.unsafePointer, hseen, run_sizeOf' hs]
            rw [hvar]
            simp only [Result.andThen_ok, Bool.or_true, if_true]
            rfl
      · cases ha
    · cases ha
  · cases ha
end
end
end Go.Eng
