/- Laid tables: what the cells of a variable are, of the data that its reading gives. By an AI agent. -/
import Derived.Test.YtehkhkdpcgkckaaGreatDoorEvE
import Derived.OpenShut
import Derived.Stop.Joined
namespace Go.Eng
open Go
noncomputable section

/-- the cells that plain data stands for, by its type -/
def tile (P : Program) (rd : TypeId → DataW Unit → Option (List Value)) : List Field → List (DataW Unit) → List Value → Option (List Value)
  | [], [], acc => some acc
  | f :: fs, d :: ds, acc => match rd f.type d with
    | some l => match Nat.beq acc.length f.offset && Nat.beq l.length (P.cellsOf f.type) with
      | true => tile P rd fs ds (acc ++ l)
      | false => none
    | none => none
  | _, _, _ => none
def tileA (n : Nat) (rd : DataW Unit → Option (List Value)) : List (DataW Unit) → List Value → Option (List Value)
  | [], acc => some acc
  | d :: ds, acc => match rd d with
    | some l => match Nat.beq l.length n with
      | true => tileA n rd ds (acc ++ l)
      | false => none
    | none => none
def dcells (P : Program) : Nat → TypeId → DataW Unit → Option (List Value)
  | 0, _, _ => none
  | n + 1, t, d =>
    match P.underlying t, d with
    | some .bool, .lit (.bool b) => some [.bool b]
    | some (.int _), .lit (.int k n) => some [.int k n]
    | some .string, .lit (.string l) => some [.string ⟨l.toArray⟩]
    | some (.struct fs), .agg ds => match tile P (dcells P n) fs.toList ds [] with
      | some l => match Nat.beq l.length (P.cellsOf t) with
        | true => some l
        | false => none
      | none => none
    | some (.array m e), .agg ds => match tileA (P.cellsOf e) (dcells P n e) ds [] with
      | some l => match Nat.beq l.length (P.cellsOf t) && Nat.beq ds.length m with
        | true => some l
        | false => none
      | none => none
    | _, _ => none

theorem take_step (cs l : List Value) {a n : Nat} (hl : l.length = n) (h : (cs.drop a).take n = l) : cs.take a ++ l = cs.take (a + n) := by
  rw [← h, List.take_add]

theorem tile_ok {P : Program} {rd : TypeId → DataW Unit → Option (List Value)} (cs : List Value) : ∀ (fs : List Field) (ds : List (DataW Unit)) (acc l : List Value),
    (∀ (i : Nat) f d l, fs[i]? = some f → ds[i]? = some d → rd f.type d = some l → (cs.drop f.offset).take (P.cellsOf f.type) = l) →
    acc = cs.take acc.length → tile P rd fs ds acc = some l → l = cs.take l.length
  | [], [], acc, l, _, ha, h => by simp only [tile] at h; cases h; exact ha
  | f :: fs, d :: ds, acc, l, hf, ha, h => by
    simp only [tile] at h
    split at h
    · rename_i l1 hl1
      split at h
      · rename_i hc
        rw [Bool.and_eq_true] at hc
        have h1 := Nat.eq_of_beq_eq_true hc.1
        have h2 := Nat.eq_of_beq_eq_true hc.2
        have h3 := hf 0 f d l1 rfl rfl hl1
        refine tile_ok cs fs ds (acc ++ l1) l (fun i f' d' l' a b => hf (i + 1) f' d' l' (by simpa using a) (by simpa using b)) ?_ h
        have h4 := take_step cs l1 h2 h3
        rw [List.length_append, h2, h1, ← h4, ← h1, ← ha]
      · cases h
    · cases h
  | [], _ :: _, _, _, _, _, h => by simp [tile] at h
  | _ :: _, [], _, _, _, _, h => by simp [tile] at h
theorem tileA_ok {n : Nat} {rd : DataW Unit → Option (List Value)} (cs : List Value) : ∀ (ds : List (DataW Unit)) (j : Nat) (acc l : List Value),
    (∀ (i : Nat) d l, ds[i]? = some d → rd d = some l → (cs.drop ((j + i) * n)).take n = l) →
    acc = cs.take (j * n) → acc.length = j * n → tileA n rd ds acc = some l → l = cs.take l.length
  | [], j, acc, l, _, ha, hj, h => by simp only [tileA] at h; cases h; rw [hj]; exact ha
  | d :: ds, j, acc, l, hf, ha, hj, h => by
    simp only [tileA] at h
    split at h
    · rename_i l1 hl1
      split at h
      · rename_i hc
        have h2 := Nat.eq_of_beq_eq_true hc
        have h3 := hf 0 d l1 rfl hl1
        rw [Nat.add_zero] at h3
        have h4 := take_step cs l1 h2 h3
        refine tileA_ok cs ds (j + 1) (acc ++ l1) l (fun i d' l' a b => by rw [Nat.add_right_comm]; exact hf (i + 1) d' l' (by simpa using a) b) ?_ ?_ h
        · rw [ha, h4, Nat.succ_mul]
        · rw [List.length_append, hj, h2, Nat.succ_mul]
      · cases h
    · cases h
/-- what reads as plain data is just these cells -/
theorem dcells_ok {P : Program} {w : World} {base : Nat} {sp : Nat → Bool} {held : Bool} {enc : TypeId × Value → Unit} : ∀ (n : Nat) (t : TypeId) (d : DataW Unit) (l : List Value), dcells P n t d = some l →
    ∀ (fuel : Nat) (cs : List Value) (ps : List MemPlace), DataW.trod enc P w base sp held fuel t cs = some (d, ps) → cs = l
  | 0, t, d, l, h, _, _, _, _ => by simp [dcells] at h
  | n + 1, t, d, l, h, fuel, cs, ps, ht => by
    unfold dcells at h
    split at h
    · rename_i b hu
      cases h
      obtain ⟨b', rfl, hx⟩ := DataW.trod_bool hu ht
      simp at hx
      rw [hx.1]
    · rename_i k0 k m hu
      cases h
      obtain ⟨m', rfl, hx, _⟩ := DataW.trod_int hu ht
      simp at hx
      rw [hx.1.1, hx.1.2]
    · rename_i s hu
      cases h
      obtain ⟨s', rfl, hx, _⟩ := DataW.trod_string hu ht
      simp at hx
      rw [hx.1]
    · rename_i fs ds hu
      split at h
      · rename_i l1 hl1
        split at h
        · rename_i hc
          cases h
          obtain ⟨xs, m, _, hx, hlen, hxl, hf⟩ := DataW.trod_struct hu ht
          simp at hx
          have := tile_ok (P := P) cs fs.toList ds [] l (fun i f d' l' a b hr => by
            have h1 := hf i f (by simpa using a)
            rw [hx.1] at b
            rw [List.getElem?_map] at b
            cases hxi : xs[i]? with
            | none => rw [hxi] at b; cases b
            | some y =>
              rw [hxi] at h1 b
              simp at b
              obtain ⟨y1, y2⟩ := y
              simp at b
              subst b
              exact dcells_ok n f.type y1 l' hr m _ y2 h1) (by simp) hl1
          rw [this, Nat.eq_of_beq_eq_true hc, ← hlen, List.take_length]
        · cases h
      · cases h
    · rename_i m e ds hu
      split at h
      · rename_i l1 hl1
        split at h
        · rename_i hc
          cases h
          rw [Bool.and_eq_true] at hc
          obtain ⟨xs, k, _, hx, hlen, hxl, hf⟩ := DataW.trod_array hu ht
          simp at hx
          have := tileA_ok (n := P.cellsOf e) cs ds 0 [] l (fun i d' l' b hr => by
            rw [hx.1] at b
            rw [List.getElem?_map] at b
            cases hxi : xs[i]? with
            | none => rw [hxi] at b; cases b
            | some y =>
              have hi : i < m := by rw [← hxl]; exact (List.getElem?_eq_some_iff.1 hxi).1
              have h1 := hf i hi
              rw [hxi] at h1 b
              simp at b
              obtain ⟨y1, y2⟩ := y
              simp at b
              subst b
              rw [Nat.zero_add]
              exact dcells_ok n e y1 l' hr k _ y2 h1) (by simp) (by simp) hl1
          rw [this, Nat.eq_of_beq_eq_true hc.1, ← hlen, List.take_length]
        · cases h
      · cases h
    · cases h

/-- a variable's table: its number, its cells, the type of its block -/
abbrev Tab := Nat × List Value × TypeId
def tabHeap : List Tab → Tr AObj
  | [] => .nil
  | (g, l, t) :: r => (tabHeap r).set (2 * g) (some (.cells l t (0, 0)))
def startHeap (ts : List Tab) : Heap := ⟨tabHeap ts, 0⟩
theorem tabHeap_get : ∀ (ts : List Tab) (n : Nat) (o : AObj), (tabHeap ts).get n = some o → ∃ g l t, (g, l, t) ∈ ts ∧ n = 2 * g ∧ o = .cells l t (0, 0)
  | [], n, o, h => by cases h
  | (g, l, t) :: r, n, o, h => by
    simp only [tabHeap, Tr.get_set] at h
    split at h
    · rename_i hn; cases h; exact ⟨g, l, t, by simp, hn, rfl⟩
    · obtain ⟨g', l', t', hm, h1, h2⟩ := tabHeap_get r n o h
      exact ⟨g', l', t', by simp [hm], h1, h2⟩
theorem start_tabs (c : Ctx) (W : World) (ts : List Tab) (hp : ∀ x ∈ ts, x.2.1.all plain1 = true) (hw : ∀ x ∈ ts, W.heap[x.1]? = some (.cells x.2.1.toArray x.2.2 (0, 0))) :
    HS ⟨c, W, fun b => ∃ x ∈ ts, x.1 = b⟩ [] (startHeap ts) W where
  live := fun n o g _ => by
    obtain ⟨b, l, t, hm, hn, ho⟩ := tabHeap_get ts n o g
    subst hn; subst ho
    exact ⟨b, 0, 0, _, Env.at_even [] b, hw _ hm, .cells t (0, 0) rfl (VRs.plain (hp _ hm)), fun _ => ⟨_, hm, rfl⟩⟩
  inj := fun n m o o' b p q p' q' g1 g2 a1 a2 => by
    obtain ⟨b1, _, _, _, hn, _⟩ := tabHeap_get ts n o g1
    obtain ⟨b2, _, _, _, hm, _⟩ := tabHeap_get ts m o' g2
    subst hn; subst hm
    rw [Env.at_even] at a1 a2
    cases a1; cases a2; rfl
  known := fun n o g hn => by
    obtain ⟨b1, _, _, _, h2, _⟩ := tabHeap_get ts n o g
    omega
  pend := fun i o g => by cases g
  nx := rfl
  blk := fun x hx => by cases hx
  size := Nat.le_refl _
  frame := fun _ _ _ => rfl
  world := ⟨rfl, rfl, rfl⟩

theorem plain1s_eq {e : Env} : ∀ {l m : List Value}, l.all plain1 = true → VRs e l m → m = l
  | _, _, _, .nil => rfl
  | _, _, hp, .cons hv ht => by
    rw [List.all_cons, Bool.and_eq_true] at hp
    rw [VR.plain1_eq hp.1 hv, plain1s_eq hp.2 ht]
/-- the tables are as they were: so is all that was there -/
theorem HS.tabs_below {c : Ctx} {W w : World} {ts : List Tab} {e : Env} {h : Heap} (s : HS ⟨c, W, fun b => ∃ x ∈ ts, x.1 = b⟩ e h w) (hp : ∀ x ∈ ts, x.2.1.all plain1 = true) (hw : ∀ x ∈ ts, W.heap[x.1]? = some (.cells x.2.1.toArray x.2.2 (0, 0)))
    (hs : ∀ x ∈ ts, h.get (2 * x.1) = some (.cells x.2.1 x.2.2 (0, 0))) : RowKit.Below W.heap.size W w := by
  refine ⟨s.world.2.1, s.world.1, s.world.2.2, s.size, fun k hk => ?_⟩
  by_cases hF : ∃ x ∈ ts, x.1 = k
  · obtain ⟨x, hx, rfl⟩ := hF
    have hat := Env.at_even e x.1
    obtain ⟨b, base, κ, ob, ha, hb, hr, _⟩ := s.live _ _ (hs x hx) (at_some hat)
    rw [hat] at ha; cases ha
    cases hr with
    | cells _ _ _ hv =>
      rename_i C
      rw [hb, hw x hx]
      have := plain1s_eq (hp x hx) hv
      congr 2
      apply Array.ext'
      simpa using this
  · exact s.frame k hk hF

theorem laidVars_tab {P : Program} {W : World} : ∀ {laid : List (String × DataW Unit)} {ps : List MemPlace}, DataW.LaidVars P W laid ps → ∀ {name : String} {d : DataW Unit} {g : Nat} {t : TypeId} {n : Nat} {l : List Value}, (name, d) ∈ laid → P.globalNamed name = some g →
    (P.globals[g]?).map (·.type) = some t → dcells P n t d = some l → ∃ et fz, W.heap[g]? = some (.cells l.toArray et fz) ∧ ∀ off, off < l.length → MemPlace.cell g off ∈ ps
  | [], _, _, _, _, _, _, _, _, hm, _, _, _ => by cases hm
  | (nm, d0) :: r, ps, h, name, d, g, t, n, l, hm, hg, ht, hd => by
    obtain ⟨g', t', cs, fuel, p, q, h1, h2, h3, h4, h5, rfl⟩ := h
    rcases List.mem_cons.1 hm with hm | hm
    · cases hm
      rw [hg] at h1; cases h1
      rw [ht] at h2; cases h2
      have hcs := dcells_ok n t _ l hd fuel cs.toList p h4
      unfold World.var? at h3
      rw [hg] at h3
      simp only [Option.bind_some] at h3
      split at h3
      · rename_i c et fz hh
        cases h3
        refine ⟨et, fz, by rw [hh, ← hcs], fun off ho => ?_⟩
        rw [List.mem_append, List.mem_append]
        refine .inl (.inl ?_)
        have hsz : off < cs.size := by rw [← hcs] at ho; simpa using ho
        unfold MemPlace.row
        simp [hsz]
      · cases h3
    · obtain ⟨et, fz, h6, h7⟩ := laidVars_tab h5 hm hg ht hd
      exact ⟨et, fz, h6, fun off ho => by rw [List.mem_append]; exact .inr (h7 off ho)⟩
theorem laid_tab {P : Program} {W : World} {laid : List (String × DataW Unit)} (h : laidMet P laid W) {name : String} {d : DataW Unit} {g : Nat} {t : TypeId} {n : Nat} {l : List Value} (hm : (name, d) ∈ laid) (hg : P.globalNamed name = some g)
    (ht : (P.globals[g]?).map (·.type) = some t) (hd : dcells P n t d = some l) (hl : 0 < l.length) : ∃ et, W.heap[g]? = some (.cells l.toArray et (0, 0)) := by
  obtain ⟨ps, hv, _, hc⟩ := h
  obtain ⟨et, fz, h1, h2⟩ := laidVars_tab hv hm hg ht hd
  obtain ⟨⟨c, t', h3⟩, _⟩ := hc g 0 (h2 0 hl)
  rw [h1] at h3
  cases h3
  exact ⟨et, h1⟩
end
end Go.Eng

namespace Go.Eng
open Go
noncomputable section

theorem extern_run {P : Program} {w w' : World} {f : FuncId} {fn : Func} {args : Array Value} {v : Value} {x : Array Value → Sem Value} (hf : P.funcs[f]? = some fn) (hn : (fn.name == "runtime.NumGoroutine") = false) (hb : fn.body.isNone = true)
    (h1 : (Extern.findNext fn).isNone = true) (h2 : Extern.find fn = some x) (hr : (x args).run P w = .ok v w') : (callFunc f args).run P w = .ok (.value v) w' := by
  have h1' : Extern.findNext fn = none := by simpa using h1
  simp only [callFunc, Sem.run_bind, run_program, Result.andThen_ok, hf, hn, hb, Bool.false_eq_true, if_false, if_true, h1', h2]
  simp [hr]

/-- where a byte stands in a text -/
def idxByte (s : ByteArray) (c : UInt8) : Int := match (List.range s.size).find? fun i => s[i]! == c with
  | some i => i
  | none => -1
def sumIndexByte : List Value → Heap → Option (Value × Heap)
  | [.string s, .int .u8 c], h => some (.int .i64 (idxByte s c.toNat.toUInt8), h)
  | _, _ => none
theorem sumIndexByte_ok {B : Base} {f : FuncId} {fn : Func} (hf : B.P.funcs[f]? = some fn) (hn : (fn.name == "runtime.NumGoroutine") = false) (hb : fn.body.isNone = true) (h1 : (Extern.findNext fn).isNone = true)
    (h2 : Extern.find fn = some Extern.BytealgIndexByte.indexByte) {args : List Value} {h h' : Heap} {v : Value} (ha : sumIndexByte args h = some (v, h')) {e : Env} {w : World} {args' : List Value} (s : HS B e h w) (hx : VRs e args args') :
    Invokes B.P f args'.toArray w fun v' w' => ∃ e', e.le e' ∧ VR e' v v' ∧ HS B e' h' w' := by
  unfold sumIndexByte at ha
  split at ha
  · rename_i str c
    cases ha
    cases hx with
    | cons hs t => cases t with
      | cons hc t => cases t; cases hs; cases hc
                     refine .inl ⟨.int .i64 (idxByte str c.toNat.toUInt8), w, extern_run hf hn hb h1 h2 ?_, e, Env.le_refl _, .int _ _, s⟩
                     change Sem.run B.P (Extern.Bytes.bytesOf (.string str) >>= _) w = _
                     rw [Sem.run_bind]
                     change (Result.ok str w).andThen _ = _
                     rw [Result.andThen_ok]
                     change Sem.run B.P (Extern.Bytes.asByte (.int .u8 c) >>= _) w = _
                     simp only [Extern.Bytes.asByte, Sem.run_bind, Sem.run_pure, Result.andThen_ok]
                     unfold idxByte
                     split <;> simp [goInt, *]
  · cases ha

/-- how often a byte stands in a text -/
def cntByte (s : ByteArray) (c : UInt8) : Int := s.foldl (fun n x => if x == c then n + 1 else n) ((0 : Nat) : Int)
def sumCount : List Value → Heap → Option (Value × Heap)
  | [.string s, .int .u8 c], h => some (.int .i64 (cntByte s c.toNat.toUInt8), h)
  | _, _ => none
theorem sumCount_ok {B : Base} {f : FuncId} {fn : Func} (hf : B.P.funcs[f]? = some fn) (hn : (fn.name == "runtime.NumGoroutine") = false) (hb : fn.body.isNone = true) (h1 : (Extern.findNext fn).isNone = true)
    (h2 : Extern.find fn = some Extern.BytealgCount.count) {args : List Value} {h h' : Heap} {v : Value} (ha : sumCount args h = some (v, h')) {e : Env} {w : World} {args' : List Value} (s : HS B e h w) (hx : VRs e args args') :
    Invokes B.P f args'.toArray w fun v' w' => ∃ e', e.le e' ∧ VR e' v v' ∧ HS B e' h' w' := by
  unfold sumCount at ha
  split at ha
  · rename_i str c
    cases ha
    cases hx with
    | cons hs t => cases t with
      | cons hc t => cases t; cases hs; cases hc
                     refine .inl ⟨.int .i64 (cntByte str c.toNat.toUInt8), w, extern_run hf hn hb h1 h2 ?_, e, Env.le_refl _, .int _ _, s⟩
                     change Sem.run B.P (Extern.Bytes.bytesOf (.string str) >>= _) w = _
                     rw [Sem.run_bind]
                     change (Result.ok str w).andThen _ = _
                     rw [Result.andThen_ok]
                     change Sem.run B.P (Extern.Bytes.asByte (.int .u8 c) >>= _) w = _
                     simp only [Extern.Bytes.asByte, Sem.run_bind, Sem.run_pure, Result.andThen_ok]
                     rfl
  · cases ha

def sumSame : List Value → Heap → Option (Value × Heap)
  | [x], h => some (x, h)
  | _, _ => none
theorem sumSame_ok {B : Base} {f : FuncId} {fn : Func} (hf : B.P.funcs[f]? = some fn) (hn : (fn.name == "runtime.NumGoroutine") = false) (hb : fn.body.isNone = true) (h1 : (Extern.findNext fn).isNone = true)
    (h2 : Extern.find fn = some Extern.AbiNoEscape.same) {args : List Value} {h h' : Heap} {v : Value} (ha : sumSame args h = some (v, h')) {e : Env} {w : World} {args' : List Value} (s : HS B e h w) (hx : VRs e args args') :
    Invokes B.P f args'.toArray w fun v' w' => ∃ e', e.le e' ∧ VR e' v v' ∧ HS B e' h' w' := by
  unfold sumSame at ha
  split at ha
  · cases ha
    cases hx with
    | cons hs t => cases t; exact .inl ⟨_, w, extern_run hf hn hb h1 h2 rfl, e, Env.le_refl _, hs, s⟩
  · cases ha
/-- a new row of bytes of which nothing is known -/
def sumMake (el : TypeId) : List Value → Heap → Option (Value × Heap)
  | [.int .i64 n], h => if 0 ≤ n ∧ n ≤ 2 ^ 40 then some (.slice (some ⟨h.fresh, 0, none⟩) n.toNat BIG2, h.new (.grown [] el)) else none
  | _, _ => none
theorem digits_size : ∀ (n t : Nat) (acc : Array Value), (Extern.BytealgMakeNoZero.digits n t acc).size = acc.size + n
  | 0, _, acc => rfl
  | n + 1, t, acc => by simp only [Extern.BytealgMakeNoZero.digits, digits_size n, Array.size_push]; omega
theorem sumMake_ok {B : Base} {f : FuncId} {fn : Func} {t el : TypeId} (hf : B.P.funcs[f]? = some fn) (hn : (fn.name == "runtime.NumGoroutine") = false) (hb : fn.body.isNone = true) (h1 : (Extern.findNext fn).isNone = true)
    (h2 : Extern.find fn = some (Extern.BytealgMakeNoZero.makeNoZero fn.params fn.resultTypes)) (hr0 : fn.resultTypes = #[t]) (hu : B.P.underlying t = some (.slice el)) (hsz : szOf B.c el = some 1)
    {args : List Value} {h h' : Heap} {v : Value} (ha : sumMake el args h = some (v, h')) {e : Env} {w : World} {args' : List Value} (s : HS B e h w) (hx : VRs e args args') :
    Invokes B.P f args'.toArray w fun v' w' => ∃ e', e.le e' ∧ VR e' v v' ∧ HS B e' h' w' := by
  unfold sumMake at ha
  split at ha
  · rename_i n
    split at ha
    · rename_i hr
      cases ha
      cases hx with
      | cons hs tl =>
        cases tl; cases hs
        let cap := (Question.appendCap n.toNat 0 el).cut (w.tape w.drawn (.appendCap n.toNat 0 el))
        have hcap : n.toNat ≤ cap := cut_append _ _ _ _
        have hcap2 : cap ≤ 2 ^ 64 := cut_append_lt (by omega)
        let w1 : World := { w with drawn := w.drawn + 1 }
        let by_ := (Question.extern "internal/bytealg.MakeNoZero.bytes" 0).cut (w1.tape w1.drawn (.extern "internal/bytealg.MakeNoZero.bytes" 0))
        let C := Extern.BytealgMakeNoZero.digits cap by_ #[]
        have hC : C.size = cap := by simp only [C, digits_size]; simp
        let w2 : World := { w1 with drawn := w1.drawn + 1 }
        let w3 : World := { w2 with heap := w2.heap.push (.cells C el) }
        refine .inl ⟨.slice (some ⟨w.heap.size, 0, none⟩) n.toNat cap, w3, extern_run hf hn hb h1 h2 ?_, e ++ [.made (w.heap.size, 0, cap)], Env.le_snoc _ _, ?_, ?_⟩
        · have hneg : (decide (n < 0) || decide (n > 2 ^ 48)) = false := by
            rw [Bool.or_eq_false_iff]; exact ⟨decide_eq_false (by omega), decide_eq_false (by omega)⟩
          rw [hr0]
          change Sem.run B.P (underlying t >>= _) w = _
          rw [Sem.run_bind, run_underlying' hu, Result.andThen_ok]
          change Sem.run B.P (if (decide (n < 0) || decide (n > 2 ^ 48)) = true then _ else _) w = _
          rw [hneg]
          simp only [Bool.false_eq_true, if_false, Sem.run_bind, Sem.run_pure, run_choose, Question.forced, Result.andThen_ok, run_askRoom, newRow, run_newObj]
          rfl
        · have hBIG := BIG2_eq
          have hk := k64
          have hr : rcap cap BIG2 = cap := by unfold rcap; rw [if_neg (by omega)]; omega
          have := VR.slice (e := e ++ [.made (w.heap.size, 0, cap)]) 0 n.toNat BIG2 (new_name s _) (.inr ⟨by omega, by omega, hcap2⟩) (by rw [hr]; exact hcap)
          rwa [hr] at this
        · refine s.new 0 cap (OR.grown el (0, 0) ?_ ?_ (.inl rfl) hcap2) rfl rfl rfl rfl
          · simp; exact .nil
          · rw [cellsOf_sz hsz]; omega
    · cases ha
  · cases ha
end
end Go.Eng

namespace Go.Eng
open Go
noncomputable section

section
variable {H : Type} {enc : TypeId × Value → H}
theorem liftedLaid {C : Checked} {os : Os} {f : FuncId} {fn : Func} {s : ChangeSpec} {conds : List PathCond} {apart fresh : Bool} {t : TypeId} {laid : List (String × DataW Unit)} (own : ownKnob C.prog.godebug = none) (started : os.Started) (noInit : C.prog.inits.idxOf? f = none)
    (hfn : C.prog.funcs[f]? = some fn)
    (witness : ∃ (w : World) (tape : Tape) (i : Input), w.os = os ∧ (w.forCall tape i).Shaped C.prog ∧ i.vars = [] ∧ Input.okWide C.prog (w.forCall tape i) .any w.heap.size f i ∧
      ((s.pre enc C.prog fn conds apart (w.forCall tape i).memory i.args ∧ laidMetH C.prog laid (w.forCall tape i).memory) ∧ sizedMet enc C.prog fn (OpenSpec.ofChange s) apart (w.forCall tape i).memory i.args) ∧ ({} : Assume).holds C.prog (lone (Frame.enter C.prog f i.args .normal) [] (w.forCall tape i)))
    (hl : laidOutB C.prog = true) (hread : rowed C.prog fn.params.toList = true) (hvars : RowKit.varsRowed C.prog s.vars = true) (hres : fn.resultTypes = #[t]) (ht : C.prog.underlying t = some .bool)
    (hspec : ∀ ds gs : List (DataW H), ds.length = fn.params.size → gs.length = s.vars.length → s.fn H (ds ++ gs) = { results := [.lit (.bool true)], args := ds, vars := gs })
    (contract : ∀ (W : World) (base : Nat) (args : Array Value),
      (∀ (j : Nat) t v, fn.params[j]? = some t → args[j]? = some v → Value.okWide C.prog W .any base t v) → args.size = fn.params.size → laidMetH C.prog laid W →
      Calls C.prog f args W fun e W' => e = .returned (.bool true) ∧ RowKit.Below W.heap.size W W') :
    ReturnsInHanded {} C os f .any (fun w args => (s.pre enc C.prog fn conds apart w args ∧ laidMetH C.prog laid w) ∧ sizedMet enc C.prog fn (OpenSpec.ofChange s) apart w args) (s.post enc C.prog fn apart fresh false false) := by
  refine returnsInHanded_of_change_and (X := fun w _ => laidMetH C.prog laid w) (fun _ _ _ hh h => h.of_heap hh) own started noInit hfn witness ?_
  intro W base args ds gs before hval hW _ _ hL _
  have hW' := hW
  obtain ⟨p, q, hA, hV, _⟩ := hW'
  have hlen := trodAll_length hA
  have hlv := trodVars_length hV
  refine (contract W base args hval (by simpa using hlen.1) hL).mono fun e W' ⟨he, hb⟩ => ?_
  subst he
  exact ⟨_, rfl, post_true hl hread hvars hres ht hW hb (hspec ds gs (by simpa using hlen.2) hlv)⟩
end
end
end Go.Eng

namespace Go.Eng
open Go
noncomputable section

/-- a run that hangs on tests -/
inductive Tree (α : Type) where
  | ret (a : α)
  | fail
  | test (b : Bool) (k : Bool → Tree α)
  | alt (hint : Bool) (k : Bool → Tree α)
  | need (p : Prop) (t : Tree α)

namespace Tree
variable {α : Type}
/-- what a tree comes to -/
def Runs : Tree α → α → Prop
  | .ret a', a => a' = a
  | .fail, _ => False
  | .test b k, a => (k b).Runs a
  | .alt _ k, a => (k true).Runs a ∨ (k false).Runs a
  | .need p t, a => p ∧ t.Runs a
def must (b : Bool) (t : Tree α) : Tree α := .test b fun x => match x with
  | true => t
  | false => .fail
def liftO {β : Type} : Option β → (β → Tree α) → Tree α
  | some x, k => k x
  | none, _ => .fail
theorem runs_must {b : Bool} {t : Tree α} {a : α} (h : (must b t).Runs a) : b = true ∧ t.Runs a := by
  cases b with
  | true => exact ⟨rfl, h⟩
  | false => exact h.elim
theorem runs_liftO {β : Type} {x : Option β} {k : β → Tree α} {a : α} (h : (liftO x k).Runs a) : ∃ y, x = some y ∧ (k y).Runs a := by
  cases x with
  | some y => exact ⟨y, rfl, h⟩
  | none => exact h.elim

/-- a road through a tree: so many tests that answer by themselves, then one that is assumed -/
def follow (t : Tree α) : List (Nat × Bool) → Prop → Option (α × Prop) :=
  Tree.rec (motive := fun _ => List (Nat × Bool) → Prop → Option (α × Prop))
    (fun a _ φ => some (a, φ))
    (fun _ _ => none)
    (fun b _ ih o φ => match o with
      | (0, x) :: o' => ih x o' (φ ∧ b = x)
      | (n + 1, x) :: o' => match b with
        | true => ih true ((n, x) :: o') φ
        | false => ih false ((n, x) :: o') φ
      | [] => match b with
        | true => ih true [] φ
        | false => ih false [] φ)
    (fun b _ ih o φ => match o with
      | (0, x) :: o' => ih x o' φ
      | (n + 1, x) :: o' => match b with
        | true => ih true ((n, x) :: o') φ
        | false => ih false ((n, x) :: o') φ
      | [] => match b with
        | true => ih true [] φ
        | false => ih false [] φ)
    (fun p _ ih o φ => ih o (φ ∧ p)) t
theorem follow_ok : ∀ (t : Tree α) (o : List (Nat × Bool)) (φ : Prop) (a : α) (ψ : Prop), follow t o φ = some (a, ψ) → ψ → φ ∧ t.Runs a := by
  intro t
  induction t with
  | ret a' =>
    intro o φ a ψ h hψ
    cases h
    exact ⟨hψ, rfl⟩
  | fail => intro o φ a ψ h; cases h
  | test b k ih =>
    intro o φ a ψ h hψ
    have step : ∀ o', (match b with
        | true => follow (k true) o' φ
        | false => follow (k false) o' φ) = some (a, ψ) → φ ∧ (k b).Runs a := by
      intro o' h'
      cases b with
      | true => exact ih true _ _ _ _ h' hψ
      | false => exact ih false _ _ _ _ h' hψ
    match o, h with
    | (0, x) :: o', h =>
      have := ih x o' (φ ∧ b = x) a ψ h hψ
      obtain ⟨⟨h1, rfl⟩, h2⟩ := this
      exact ⟨h1, h2⟩
    | (n + 1, x) :: o', h => exact step _ h
    | [], h => exact step _ h
  | alt b k ih =>
    intro o φ a ψ h hψ
    have one : ∀ x o', follow (k x) o' φ = some (a, ψ) → φ ∧ (Tree.alt b k).Runs a := by
      intro x o' h'
      obtain ⟨h1, h2⟩ := ih x o' φ a ψ h' hψ
      cases x with
      | true => exact ⟨h1, .inl h2⟩
      | false => exact ⟨h1, .inr h2⟩
    have step : ∀ o', (match b with
        | true => follow (k true) o' φ
        | false => follow (k false) o' φ) = some (a, ψ) → φ ∧ (Tree.alt b k).Runs a := by
      intro o' h'
      cases b with
      | true => exact one true _ h'
      | false => exact one false _ h'
    match o, h with
    | (0, x) :: o', h => exact one x o' h
    | (n + 1, x) :: o', h => exact step _ h
    | [], h => exact step _ h
  | need p t ih =>
    intro o φ a ψ h hψ
    obtain ⟨⟨h1, h2⟩, h3⟩ := ih o (φ ∧ p) a ψ h hψ
    exact ⟨h1, h2, h3⟩
end Tree
open Tree

/-- what a continuation gets -/
def Gives {α β : Type} (t : Tree α) (x : Option β) (k : β → Tree α) : Prop := ∀ r, t.Runs r → ∃ v, x = some v ∧ (k v).Runs r
theorem gives_liftO {α β : Type} (x : Option β) (k : β → Tree α) : Gives (liftO x k) x k := fun _ h => runs_liftO h
theorem gives_ret {α β : Type} (v : β) (k : β → Tree α) : Gives (k v) (some v) k := fun _ h => ⟨v, rfl, h⟩
theorem gives_fail {α β : Type} (x : Option β) (k : β → Tree α) : Gives .fail x k := fun _ h => h.elim

section
variable {α : Type}
def intAt (l : List Value) (i : Nat) : Int := match l[i]? with
  | some (.int _ n) => n
  | _ => 0
def strAt (l : List Value) (i : Nat) : ByteArray := match l[i]? with
  | some (.string s) => s
  | _ => .empty
def boolAt (l : List Value) (i : Nat) : Bool := match l[i]? with
  | some (.bool b) => b
  | _ => false
def byteAt (s : ByteArray) (i : Nat) : UInt8 := s.data.toList.getD i 0
/-- a hint: is a value at hand? -/
def conV : Option Value → Bool
  | some (.bool _) => true
  | some (.int _ _) => true
  | some (.float _ _) => true
  | some (.complex _ _ _) => true
  | some (.string _) => true
  | some (.pointer _) => true
  | some (.slice _ _ _) => true
  | some (.map _) => true
  | some (.chan _) => true
  | some (.func _ _ _) => true
  | some .nilFunc => true
  | some (.iface _ _) => true
  | some .nilIface => true
  | some (.agg _) => true
  | some (.tuple _) => true
  | none => true
/-- one cell of a row -/
def valT (c : Ctx) (t : TypeId) (l : List Value) (i : Nat) (k : Value → Tree α) : Tree α :=
  .alt (conV l[i]?) fun x => match x with
    | true => liftO l[i]? k
    | false => match c.P.underlying t with
      | some (.int κ) => .need (l[i]? = some (.int κ (intAt l i))) (k (.int κ (intAt l i)))
      | some .string => .need (l[i]? = some (.string (strAt l i))) (k (.string (strAt l i)))
      | some .bool => .need (l[i]? = some (.bool (boolAt l i))) (k (.bool (boolAt l i)))
      | _ => .fail
theorem gives_valT (c : Ctx) (t : TypeId) (l : List Value) (i : Nat) (k : Value → Tree α) : Gives (valT c t l i k) l[i]? k := by
  intro r h
  rcases h with h | h
  · exact runs_liftO h
  · simp only at h
    split at h
    · exact ⟨_, h.1, h.2⟩
    · exact ⟨_, h.1, h.2⟩
    · exact ⟨_, h.1, h.2⟩
    · exact h.elim

def rowOf (h : Heap) (n : Nat) : Option (List Value) := match h.get n with
  | some (.cells c _ _) => some c
  | some (.grown c _) => some c
  | _ => none
def readT (h : Heap) (n off len : Nat) (k : List Value → Tree α) : Tree α :=
  liftO (rowOf h n) fun l => must (Nat.ble (off + len) l.length) (k ((l.drop off).take len))
theorem gives_readT (h : Heap) (n off len : Nat) (k : List Value → Tree α) : Gives (readT h n off len k) (readCells h n off len) k := by
  intro r hr
  obtain ⟨l, h1, h2⟩ := runs_liftO hr
  obtain ⟨h3, h4⟩ := runs_must h2
  refine ⟨_, ?_, h4⟩
  unfold rowOf at h1
  unfold readCells
  split at h1
  · rename_i heq; cases h1; simp only [heq, h3]
  · rename_i heq; cases h1; simp only [heq, h3]
  · cases h1
theorem read_one {h : Heap} {n off : Nat} {l : List Value} {v : Value} (h1 : rowOf h n = some l) (h2 : l[off]? = some v) : readCells h n off 1 = some [v] := by
  obtain ⟨hlt, hv⟩ := List.getElem?_eq_some_iff.1 h2
  have h3 : Nat.ble (off + 1) l.length = true := Nat.ble_eq_true_of_le hlt
  have h4 : (l.drop off).take 1 = [v] := by
    rw [List.drop_eq_getElem_cons hlt, hv]; rfl
  unfold rowOf at h1
  unfold readCells
  split at h1
  · rename_i heq; cases h1; simp only [heq, h3, h4]
  · rename_i heq; cases h1; simp only [heq, h3, h4]
  · cases h1
def aloadT (c : Ctx) (h : Heap) (t : TypeId) (a : Value) (k : Value → Tree α) : Tree α :=
  match a with
  | .pointer (some ⟨n, off, none⟩) =>
    match aggT c t, szOf c t with
    | some true, some s => readT h n off s fun l => k (.agg l.toArray)
    | some false, some _ => liftO (rowOf h n) fun l => valT c t l off k
    | _, _ => .fail
  | _ => .fail
theorem gives_aloadT (c : Ctx) (h : Heap) (t : TypeId) (a : Value) (k : Value → Tree α) : Gives (aloadT c h t a k) (aload c h t a) k := by
  intro r hr
  unfold aloadT at hr
  unfold aload
  split at hr
  · simp only
    split at hr
    · rename_i h1 h2
      obtain ⟨l, h3, h4⟩ := gives_readT _ _ _ _ _ r hr
      simp only [h1, h2, h3]
      exact ⟨_, rfl, h4⟩
    · rename_i h1 h2
      obtain ⟨l, h3, h4⟩ := runs_liftO hr
      obtain ⟨v, h5, h6⟩ := gives_valT _ _ _ _ _ r h4
      simp only [h1, h2, read_one h3 h5]
      exact ⟨_, rfl, h6⟩
    · exact hr.elim
  · exact hr.elim

def writeT (h : Heap) (n off : Nat) (vs : List Value) (k : Heap → Tree α) : Tree α :=
  must (vs.all oneCell) (match h.get n with
    | some (.cells c e fz) => must (Nat.ble (off + vs.length) c.length && (Nat.ble fz.2 off || Nat.ble (off + vs.length) fz.1 || Nat.ble fz.2 fz.1)) (k (h.set n (.cells (splice c off vs) e fz)))
    | some (.grown c e) => must (Nat.ble (off + vs.length) c.length) (k (h.set n (.grown (splice c off vs) e)))
    | _ => .fail)
theorem gives_writeT (h : Heap) (n off : Nat) (vs : List Value) (k : Heap → Tree α) : Gives (writeT h n off vs k) (writeCells h n off vs) k := by
  intro r hr
  obtain ⟨h1, h2⟩ := runs_must hr
  unfold writeCells
  simp only [h1]
  split at h2
  · rename_i heq
    obtain ⟨h3, h4⟩ := runs_must h2
    simp only [heq, h3]
    exact ⟨_, rfl, h4⟩
  · rename_i heq
    obtain ⟨h3, h4⟩ := runs_must h2
    simp only [heq, h3]
    exact ⟨_, rfl, h4⟩
  · exact h2.elim
def astoreT (c : Ctx) (h : Heap) (t : TypeId) (a v : Value) (k : Heap → Tree α) : Tree α :=
  match a with
  | .pointer (some ⟨n, off, none⟩) => match szOf c t with
    | some s => must (Nat.beq v.cells.size s) (writeT h n off v.cells.toList k)
    | none => .fail
  | _ => .fail
theorem gives_astoreT (c : Ctx) (h : Heap) (t : TypeId) (a v : Value) (k : Heap → Tree α) : Gives (astoreT c h t a v k) (astore c h t a v) k := by
  intro r hr
  unfold astoreT at hr
  unfold astore
  split at hr
  · split at hr
    · rename_i hs
      obtain ⟨h1, h2⟩ := runs_must hr
      simp only [hs, h1]
      exact gives_writeT _ _ _ _ _ r h2
    · exact hr.elim
  · exact hr.elim

def apartT (c : Ctx) (t : TypeId) (cs : Array Value) (off : Nat) (k : Value → Tree α) : Tree α :=
  match aggT c t, szOf c t with
  | some true, some s => k (.agg (cs.extract off (off + s)))
  | some false, some _ => valT c t cs.toList off k
  | _, _ => .fail
theorem gives_apartT (c : Ctx) (t : TypeId) (cs : Array Value) (off : Nat) (k : Value → Tree α) : Gives (apartT c t cs off k) (apart c t cs off) k := by
  intro r hr
  unfold apartT at hr
  unfold apart
  split at hr
  · rename_i h1 h2
    simp only [h1, h2]
    exact ⟨_, rfl, hr⟩
  · rename_i h1 h2
    simp only [h1, h2]
    have := gives_valT _ _ _ _ _ r hr
    simpa using this
  · exact hr.elim

def aindexAddrT (c : Ctx) (t : TypeId) (x ix : Value) (k : Value → Tree α) : Tree α :=
  match ix with
  | .int _ i => match c.P.underlying t, x with
    | some (.array len e), .pointer (some ⟨n, off, none⟩) => match szOf c e with
      | some s => must (decide (0 ≤ i ∧ i < len)) (k (ptr n (off + i.toNat * s)))
      | none => .fail
    | some (.slice e), .slice (some ⟨n, off, none⟩) len _ => match szOf c e with
      | some s => must (decide (0 ≤ i ∧ i < len)) (k (ptr n (off + i.toNat * s)))
      | none => .fail
    | _, _ => .fail
  | _ => .fail
theorem gives_aindexAddrT (c : Ctx) (t : TypeId) (x ix : Value) (k : Value → Tree α) : Gives (aindexAddrT c t x ix k) (aindexAddr c t x ix) k := by
  intro r hr
  unfold aindexAddrT at hr
  unfold aindexAddr
  split at hr
  · simp only
    split at hr
    · rename_i hu
      split at hr
      · rename_i hs
        obtain ⟨h1, h2⟩ := runs_must hr
        simp only [hu, hs, if_pos (of_decide_eq_true h1)]
        exact ⟨_, rfl, h2⟩
      · exact hr.elim
    · rename_i hu
      split at hr
      · rename_i hs
        obtain ⟨h1, h2⟩ := runs_must hr
        simp only [hu, hs, if_pos (of_decide_eq_true h1)]
        exact ⟨_, rfl, h2⟩
      · exact hr.elim
    · exact hr.elim
  · exact hr.elim

theorem byteAt_some {s : ByteArray} {i : Nat} (h : i < s.size) : s[i]? = some (byteAt s i) := by
  have h1 : s[i]? = some s[i] := by simp [h]
  rw [h1]
  unfold byteAt
  rw [List.getD_eq_getElem?_getD]
  have h2 : i < s.data.size := h
  have h3 : s[i] = s.data[i] := rfl
  rw [h3]
  simp only [Array.getElem?_toList, Array.getElem?_eq_getElem h2, Option.getD_some]
def aindexT (c : Ctx) (t : TypeId) (x ix : Value) (k : Value → Tree α) : Tree α :=
  match ix with
  | .int _ i => match c.P.underlying t, x with
    | some (.array len e), .agg cs => match szOf c e with
      | some s => must (decide (0 ≤ i ∧ i < len)) (apartT c e cs (i.toNat * s) k)
      | none => .fail
    | some .string, .string s => must (decide (0 ≤ i ∧ i.toNat < s.size)) (k (.int .u8 (byteAt s i.toNat).toNat))
    | _, _ => .fail
  | _ => .fail
theorem gives_aindexT (c : Ctx) (t : TypeId) (x ix : Value) (k : Value → Tree α) : Gives (aindexT c t x ix k) (aindex c t x ix) k := by
  intro r hr
  unfold aindexT at hr
  unfold aindex
  split at hr
  · simp only
    split at hr
    · rename_i hu
      split at hr
      · rename_i hs
        obtain ⟨h1, h2⟩ := runs_must hr
        simp only [hu, hs, if_pos (of_decide_eq_true h1)]
        exact gives_apartT _ _ _ _ _ r h2
      · exact hr.elim
    · rename_i hu
      obtain ⟨h1, h2⟩ := runs_must hr
      have h1 := of_decide_eq_true h1
      simp only [hu, if_pos h1.1, byteAt_some h1.2]
      exact ⟨_, rfl, h2⟩
    · exact hr.elim
  · exact hr.elim
def afieldT (c : Ctx) (t : TypeId) (x : Value) (f : Nat) (k : Value → Tree α) : Tree α :=
  match c.P.underlying t, x with
  | some (.struct fs), .agg cs => match fs[f]? with
    | some fd => apartT c fd.type cs fd.offset k
    | none => .fail
  | _, _ => .fail
theorem gives_afieldT (c : Ctx) (t : TypeId) (x : Value) (f : Nat) (k : Value → Tree α) : Gives (afieldT c t x f k) (afield c t x f) k := by
  intro r hr
  unfold afieldT at hr
  unfold afield
  split at hr
  · rename_i hu
    split at hr
    · rename_i hf
      simp only [hu, hf]
      exact gives_apartT _ _ _ _ _ r hr
    · exact hr.elim
  · exact hr.elim

def aboundT (y : Nat) (v : Option Value) (d : Nat) (k : Nat → Tree α) : Tree α :=
  match v with
  | none => k d
  | some (.int _ i) => must (decide (0 ≤ i ∧ i ≤ y)) (k i.toNat)
  | some _ => .fail
theorem gives_aboundT (y : Nat) (v : Option Value) (d : Nat) (k : Nat → Tree α) : Gives (aboundT y v d k) (abound y v d) k := by
  intro r hr
  unfold aboundT at hr
  unfold abound
  split at hr
  · exact ⟨_, rfl, hr⟩
  · obtain ⟨h1, h2⟩ := runs_must hr
    simp only [if_pos (of_decide_eq_true h1)]
    exact ⟨_, rfl, h2⟩
  · exact hr.elim
def highT (max high : Option Value) (m d : Nat) (k : Nat → Tree α) : Tree α :=
  match max.isSome && high.isNone with
  | true => .fail
  | false => aboundT m high d k
theorem gives_highT (max high : Option Value) (m d : Nat) (k : Nat → Tree α) : Gives (highT max high m d k) (if max.isSome && high.isNone then none else abound m high d) k := by
  intro r hr
  unfold highT at hr
  split at hr
  · exact hr.elim
  · rename_i hb
    rw [if_neg (by rw [hb]; exact Bool.false_ne_true)]
    exact gives_aboundT _ _ _ _ r hr
def iteT {β : Type} (p : Prop) [d : Decidable p] (x y : β) (k : β → Tree α) : Tree α := .test (decide p) fun b => match b with
  | true => k x
  | false => k y
theorem gives_iteT {β : Type} (p : Prop) [Decidable p] (x y : β) (k : β → Tree α) : Gives (iteT p x y k) (if p then some x else some y) k := by
  intro r hr
  have hr : Tree.Runs (match decide p with
    | true => k x
    | false => k y) r := hr
  by_cases hp : p
  · rw [if_pos hp]; rw [decide_eq_true hp] at hr; exact ⟨_, rfl, hr⟩
  · rw [if_neg hp]; rw [decide_eq_false hp] at hr; exact ⟨_, rfl, hr⟩

def asliceArrT (size n : Nat) (a : Addr) (low high max : Option Value) (k : Value → Tree α) : Tree α :=
  must (Nat.blt n BIG) (aboundT n max n fun m => highT max high m n fun hi => aboundT hi low 0 fun lo =>
    iteT (lo = m) (Value.slice (some a) (hi - lo) (m - lo)) (.slice (some ⟨a.block, a.off + lo * size, none⟩) (hi - lo) (m - lo)) k)
theorem gives_asliceArrT (size n : Nat) (a : Addr) (low high max : Option Value) (k : Value → Tree α) : Gives (asliceArrT size n a low high max k) (asliceArr size n a low high max) k := by
  intro r hr
  obtain ⟨h1, h2⟩ := runs_must hr
  obtain ⟨m, h3, h4⟩ := gives_aboundT _ _ _ _ r h2
  obtain ⟨hi, h5, h6⟩ := gives_highT _ _ _ _ _ r h4
  obtain ⟨lo, h7, h8⟩ := gives_aboundT _ _ _ _ r h6
  have h9 := gives_iteT _ _ _ _ r h8
  unfold asliceArr
  simp only [h1, h3, h5, h7]
  exact h9

def asliceT (c : Ctx) (t : TypeId) (x : Value) (low high max : Option Value) (h : Heap) (k : Value → Tree α) : Tree α :=
  match c.P.underlying t, x with
  | some .string, .string s =>
    match max with
    | some _ => .fail
    | none => aboundT s.size high s.size fun hi => aboundT hi low 0 fun lo => k (.string (s.extract lo hi))
  | some (.slice e), .slice (some ⟨n, off, none⟩) len cap =>
    match szOf c e with
    | none => .fail
    | some size => .test (Nat.blt cap BIG) fun b => match b with
      | true => aboundT cap max cap fun m => highT max high m len fun hi => aboundT hi low 0 fun lo =>
          iteT (lo = m) (Value.slice (some ⟨n, off, none⟩) (hi - lo) (m - lo)) (.slice (some ⟨n, off + lo * size, none⟩) (hi - lo) (m - lo)) k
      | false =>
        match max with
        | some _ => liftO (aslice c t x low high max h) k
        | none => aboundT (known c h n size len cap) high len fun hi => aboundT hi low 0 fun lo =>
          .test (decide (lo = 0)) fun b => match b with
          | true => k (.slice (some ⟨n, off, none⟩) hi cap)
          | false => iteT (lo < known c h n size len cap) (Value.slice (some ⟨n, off + lo * size, none⟩) (hi - lo) (cap - lo)) eslice k
  | some (.array n e), .pointer (some ⟨b, off, none⟩) =>
    match szOf c e with
    | none => .fail
    | some size => asliceArrT size n ⟨b, off, none⟩ low high max k
  | some (.pointer arr), .pointer (some ⟨b, off, none⟩) =>
    match c.P.underlying arr with
    | some (.array n e) => match szOf c e with
      | none => .fail
      | some size => asliceArrT size n ⟨b, off, none⟩ low high max k
    | _ => .fail
  | _, _ => liftO (aslice c t x low high max h) k
theorem gives_asliceT (c : Ctx) (t : TypeId) (x : Value) (low high max : Option Value) (h : Heap) (k : Value → Tree α) : Gives (asliceT c t x low high max h k) (aslice c t x low high max h) k := by
  intro r hr
  unfold asliceT at hr
  split at hr
  · rename_i s hu
    split at hr
    · exact hr.elim
    · obtain ⟨hi, h1, h2⟩ := gives_aboundT _ _ _ _ r hr
      obtain ⟨lo, h3, h4⟩ := gives_aboundT _ _ _ _ r h2
      unfold aslice
      simp only [hu, h1, h3]
      exact ⟨_, rfl, h4⟩
  · rename_i e n off len cap hu
    split at hr
    · exact hr.elim
    · rename_i size hs
      have hr : Tree.Runs (match Nat.blt cap BIG with
        | true => _
        | false => _) r := hr
      unfold aslice
      simp only [hu, hs]
      cases hb : Nat.blt cap BIG with
      | true =>
        rw [hb] at hr
        simp only at hr ⊢
        obtain ⟨m, h3, h4⟩ := gives_aboundT _ _ _ _ r hr
        obtain ⟨hi, h5, h6⟩ := gives_highT _ _ _ _ _ r h4
        obtain ⟨lo, h7, h8⟩ := gives_aboundT _ _ _ _ r h6
        have h9 := gives_iteT _ _ _ _ r h8
        simp only [h3, h5, h7]
        exact h9
      | false =>
        rw [hb] at hr
        simp only at hr ⊢
        cases max with
        | some v =>
          have := runs_liftO hr
          unfold aslice at this
          simp only [hu, hs, hb] at this
          exact this
        | none =>
          simp only at hr ⊢
          obtain ⟨hi, h5, h6⟩ := gives_aboundT _ _ _ _ r hr
          obtain ⟨lo, h7, h8⟩ := gives_aboundT _ _ _ _ r h6
          simp only [h5, h7]
          have h8 : Tree.Runs (match decide (lo = 0) with
            | true => _
            | false => _) r := h8
          by_cases h0 : lo = 0
          · rw [decide_eq_true h0] at h8
            rw [if_pos h0]
            exact ⟨_, rfl, h8⟩
          · rw [decide_eq_false h0] at h8
            rw [if_neg h0]
            exact gives_iteT _ _ _ _ r h8
  · rename_i n e b off hu
    split at hr
    · exact hr.elim
    · rename_i size hs
      unfold aslice
      simp only [hu, hs]
      exact gives_asliceArrT _ _ _ _ _ _ _ r hr
  · rename_i arr b off hu
    split at hr
    · rename_i n e ha
      split at hr
      · exact hr.elim
      · rename_i size hs
        unfold aslice
        simp only [hu, ha, hs]
        exact gives_asliceArrT _ _ _ _ _ _ _ r hr
    · exact hr.elim
  · exact runs_liftO hr
end
end
end Go.Eng

namespace Go.Eng
open Go Tree
noncomputable section

section
variable {α : Type}
theorem gives_must {β : Type} {b : Bool} {x : Option β} {t : Tree α} {k : β → Tree α} (h : Gives t x k) : Gives (must b t) x k := fun r hr => h r (runs_must hr).2
theorem Gives.bind {β γ : Type} {x : Option β} {t : Tree α} {f : β → Tree α} (h : Gives t x f) {k : γ → Tree α} {g : β → Option γ} (hk : ∀ y, Gives (f y) (g y) k) : Gives t (x.bind g) k := by
  intro r hr
  obtain ⟨v, rfl, h2⟩ := h r hr
  exact hk v r h2

/-- the byte of a cell -/
def byteOf : Value → UInt8
  | .int _ n => UInt8.ofNat n.toNat
  | _ => 0
def isU8 : Value → Prop
  | .int .u8 _ => True
  | _ => False
theorem bytes_of : ∀ (l : List Value), (∀ v ∈ l, isU8 v) → bytesOfCells l = some (l.map byteOf)
  | [], _ => rfl
  | v :: l, h => by
    have hv := h v (by simp)
    unfold isU8 at hv
    split at hv
    · simp only [bytesOfCells, bytes_of l (fun x hx => h x (by simp [hx]))]
      rfl
    · exact hv.elim
def conB : Option (List UInt8) → Bool
  | some l => conL l
  | none => true
where conL : List UInt8 → Bool
  | [] => true
  | _ :: l => conL l
def bytesT (l : List Value) (k : List UInt8 → Tree α) : Tree α :=
  .alt (conB (bytesOfCells l)) fun x => match x with
    | true => liftO (bytesOfCells l) k
    | false => .need (∀ v ∈ l, isU8 v) (k (l.map byteOf))
theorem gives_bytesT (l : List Value) (k : List UInt8 → Tree α) : Gives (bytesT l k) (bytesOfCells l) k := by
  intro r hr
  rcases hr with hr | hr
  · exact runs_liftO hr
  · exact ⟨_, bytes_of l hr.1, hr.2⟩

def aconvertT (c : Ctx) (src dst : TypeId) (x : Value) (h : Heap) (k : Value × Heap → Tree α) : Tree α :=
  match c.P.underlying src, c.P.underlying dst, x with
  | some .string, some (.slice e), .string s =>
    match c.P.underlying e with
    | some (.int .u8) => match szOf c e with
      | some 1 => must (decide (s.size ≤ 2 ^ 60)) (k (.slice (some ⟨h.fresh, 0, none⟩) s.size BIG2, h.new (.grown (cellsOfBytes s) e)))
      | _ => .fail
    | _ => .fail
  | some (.slice e), some .string, .slice (some ⟨n, off, none⟩) len _ =>
    match c.P.underlying e with
    | some (.int .u8) => readT h n off len fun l => bytesT l fun bs => k (.string ⟨bs.toArray⟩, h)
    | _ => .fail
  | _, _, _ => liftO (aconvert c src dst x h) k
theorem gives_aconvertT (c : Ctx) (src dst : TypeId) (x : Value) (h : Heap) (k : Value × Heap → Tree α) : Gives (aconvertT c src dst x h k) (aconvert c src dst x h) k := by
  intro r hr
  unfold aconvertT at hr
  split at hr
  · rename_i e s h1 h2
    split at hr
    · rename_i h3
      split at hr
      · rename_i h4
        obtain ⟨h5, h6⟩ := runs_must hr
        unfold aconvert
        simp only [h1, h2, h3, h4, if_pos (of_decide_eq_true h5)]
        exact ⟨_, rfl, h6⟩
      · exact hr.elim
    · exact hr.elim
  · rename_i e n off len cap h1 h2
    split at hr
    · rename_i h3
      obtain ⟨l, h5, h6⟩ := gives_readT _ _ _ _ _ r hr
      obtain ⟨bs, h7, h8⟩ := gives_bytesT _ _ r h6
      unfold aconvert
      simp only [h1, h2, h3, h5, h7]
      exact ⟨_, rfl, h8⟩
    · exact hr.elim
  · exact runs_liftO hr

def abinIntT (op : BinOp) (κ : IntKind) (x y : Int) (k : Value → Tree α) : Tree α :=
  match op with
  | .quo => must (decide (¬ y = 0)) (k (.int κ (κ.wrap (x.tdiv y))))
  | .rem => must (decide (¬ y = 0)) (k (.int κ (x.tmod y)))
  | _ => liftO (abinInt op κ x y) k
theorem gives_abinIntT (op : BinOp) (κ : IntKind) (x y : Int) (k : Value → Tree α) : Gives (abinIntT op κ x y k) (abinInt op κ x y) k := by
  intro r hr
  unfold abinIntT at hr
  split at hr
  · obtain ⟨h1, h2⟩ := runs_must hr
    simp only [abinInt, if_neg (of_decide_eq_true h1)]
    exact ⟨_, rfl, h2⟩
  · obtain ⟨h1, h2⟩ := runs_must hr
    simp only [abinInt, if_neg (of_decide_eq_true h1)]
    exact ⟨_, rfl, h2⟩
  · exact runs_liftO hr
def abinStrT (op : BinOp) (x y : ByteArray) (k : Value → Tree α) : Tree α :=
  match op with
  | .add => must (decide (¬ ((x.size + y.size : Nat) : Int) > IntKind.i64.max)) (k (.string (x ++ y)))
  | _ => liftO (abinStr op x y) k
theorem gives_abinStrT (op : BinOp) (x y : ByteArray) (k : Value → Tree α) : Gives (abinStrT op x y k) (abinStr op x y) k := by
  intro r hr
  unfold abinStrT at hr
  split at hr
  · obtain ⟨h1, h2⟩ := runs_must hr
    simp only [abinStr, if_neg (of_decide_eq_true h1)]
    exact ⟨_, rfl, h2⟩
  · exact runs_liftO hr

def allFT (p : Field → (Bool → Tree α) → Tree α) : List Field → (Bool → Tree α) → Tree α
  | [], k => k true
  | f :: l, k => if f.name = "_" then allFT p l k else p f fun b => allFT p l fun r => k (b && r)
theorem gives_allFT {p : Field → (Bool → Tree α) → Tree α} {q : Field → Option Bool} (hp : ∀ f k, Gives (p f k) (q f) k) : ∀ (l : List Field) (k : Bool → Tree α), Gives (allFT p l k) (allF q l) k
  | [], k => gives_ret true k
  | f :: l, k => by
    intro r hr
    unfold allFT at hr
    unfold allF
    split at hr
    · rename_i hn
      rw [if_pos hn]
      exact gives_allFT hp l k r hr
    · rename_i hn
      rw [if_neg hn]
      obtain ⟨b, h1, h2⟩ := hp f _ r hr
      obtain ⟨b2, h3, h4⟩ := gives_allFT hp l _ r h2
      simp only [h1]
      cases b with
      | true => simp only [Bool.true_and] at h4; exact ⟨_, h3, h4⟩
      | false => simp only [Bool.false_and] at h4; exact ⟨_, rfl, h4⟩
def allIT (p : Nat → (Bool → Tree α) → Tree α) : List Nat → (Bool → Tree α) → Tree α
  | [], k => k true
  | i :: l, k => p i fun b => allIT p l fun r => k (b && r)
theorem gives_allIT {p : Nat → (Bool → Tree α) → Tree α} {q : Nat → Option Bool} (hp : ∀ f k, Gives (p f k) (q f) k) : ∀ (l : List Nat) (k : Bool → Tree α), Gives (allIT p l k) (allI q l) k
  | [], k => gives_ret true k
  | f :: l, k => by
    intro r hr
    unfold allIT at hr
    unfold allI
    obtain ⟨b, h1, h2⟩ := hp f _ r hr
    obtain ⟨b2, h3, h4⟩ := gives_allIT hp l _ r h2
    simp only [h1]
    cases b with
    | true => simp only [Bool.true_and] at h4; exact ⟨_, h3, h4⟩
    | false => simp only [Bool.false_and] at h4; exact ⟨_, rfl, h4⟩
def aeqInT (c : Ctx) : Nat → TypeId → Value → Value → (Bool → Tree α) → Tree α
  | 0, _, _, _, _ => .fail
  | d + 1, t, x, y, k =>
  match c.P.underlying t, x, y with
  | some (.struct fs), .agg xs, .agg ys => match c.P.stoodInHeld t with
    | true => .fail
    | false => allFT (fun f k => apartT c f.type xs f.offset fun x => apartT c f.type ys f.offset fun y => aeqInT c d f.type x y k) fs.toList k
  | some (.array len e), .agg xs, .agg ys => match szOf c e with
    | none => .fail
    | some n => allIT (fun i k => apartT c e xs (i * n) fun x => apartT c e ys (i * n) fun y => aeqInT c d e x y k) (List.range len) k
  | _, _, _ => liftO (aeqIn c (d + 1) t x y) k
theorem gives_aeqInT (c : Ctx) : ∀ (d : Nat) (t : TypeId) (x y : Value) (k : Bool → Tree α), Gives (aeqInT c d t x y k) (aeqIn c d t x y) k
  | 0, t, x, y, k => gives_fail _ k
  | d + 1, t, x, y, k => by
    intro r hr
    unfold aeqInT at hr
    split at hr
    · rename_i fs xs ys h1
      split at hr
      · exact hr.elim
      · rename_i h2
        unfold aeqIn
        simp only [h1, h2]
        refine gives_allFT (fun f k r hr => ?_) _ _ r hr
        obtain ⟨u, h3, h4⟩ := gives_apartT _ _ _ _ _ r hr
        obtain ⟨v, h5, h6⟩ := gives_apartT _ _ _ _ _ r h4
        simp only [h3, h5]
        exact gives_aeqInT c d _ _ _ _ r h6
    · rename_i len e xs ys h1
      split at hr
      · exact hr.elim
      · rename_i n h2
        unfold aeqIn
        simp only [h1, h2]
        refine gives_allIT (fun f k r hr => ?_) _ _ r hr
        obtain ⟨u, h3, h4⟩ := gives_apartT _ _ _ _ _ r hr
        obtain ⟨v, h5, h6⟩ := gives_apartT _ _ _ _ _ r h4
        simp only [h3, h5]
        exact gives_aeqInT c d _ _ _ _ r h6
    · exact runs_liftO hr
def aequalT (c : Ctx) (t : TypeId) (x y : Value) (k : Bool → Tree α) : Tree α :=
  match x, y with
  | .agg _, .agg _ => match c.P.eqGuardType c.P.depth t with
    | true => .fail
    | false => aeqInT c 20 t x y k
  | _, _ => aeqInT c 20 t x y k
theorem gives_aequalT (c : Ctx) (t : TypeId) (x y : Value) (k : Bool → Tree α) : Gives (aequalT c t x y k) (aequal c t x y) k := by
  intro r hr
  unfold aequalT at hr
  unfold aequal
  split at hr
  · split at hr
    · exact hr.elim
    · rename_i h1
      simp only [h1]
      exact gives_aeqInT _ _ _ _ _ _ r hr
  · simp only
    exact gives_aeqInT _ _ _ _ _ _ r hr

def abinT (c : Ctx) (op : BinOp) (t : TypeId) (x y : Value) (cx cy : Bool) (k : Value → Tree α) : Tree α :=
  match op, x, y with
  | .shl, .int κ a, .int _ b => must (decide (¬ b < 0)) (k (.int κ (κ.wrap (a * 2 ^ (min b.toNat κ.bits)))))
  | .shr, .int κ a, .int _ b => must (decide (¬ b < 0)) (k (.int κ (a.fdiv (2 ^ (min b.toNat κ.bits)))))
  | op, .int κ a, .int κ' b => if κ = κ' then abinIntT op κ a b k else .fail
  | op, .string a, .string b => abinStrT op a b k
  | .eql, .agg a, .agg b => aequalT c t (.agg a) (.agg b) fun b => k (.bool b)
  | .neq, .agg a, .agg b => aequalT c t (.agg a) (.agg b) fun b => k (.bool (!b))
  | _, _, _ => liftO (abin c op t x y cx cy) k
theorem gives_abinT (c : Ctx) (op : BinOp) (t : TypeId) (x y : Value) (cx cy : Bool) (k : Value → Tree α) : Gives (abinT c op t x y cx cy k) (abin c op t x y cx cy) k := by
  intro r hr
  unfold abinT at hr
  split at hr
  · obtain ⟨h1, h2⟩ := runs_must hr
    simp only [abin, if_neg (of_decide_eq_true h1)]
    exact ⟨_, rfl, h2⟩
  · obtain ⟨h1, h2⟩ := runs_must hr
    simp only [abin, if_neg (of_decide_eq_true h1)]
    exact ⟨_, rfl, h2⟩
  · rename_i κ a κ' b hx hy
    split at hr
    · rename_i hk
      subst hk
      have := gives_abinIntT _ _ _ _ _ r hr
      unfold abin
      split <;> first | (rename_i h1 h2; cases h1; cases h2; exact absurd rfl (by first | exact hx _ _ _ _ rfl rfl | exact hy _ _ _ _ rfl rfl)) | skip
      all_goals (simp_all)
      rename_i hno
      exact hno κ a κ b rfl rfl rfl rfl
    · exact hr.elim
  · have := gives_abinStrT _ _ _ _ r hr
    unfold abin
    simpa using this
  · obtain ⟨b, h1, h2⟩ := gives_aequalT _ _ _ _ _ r hr
    unfold abin
    simp only [h1]
    exact ⟨_, rfl, h2⟩
  · obtain ⟨b, h1, h2⟩ := gives_aequalT _ _ _ _ _ r hr
    unfold abin
    simp only [h1]
    exact ⟨_, rfl, h2⟩
  · exact runs_liftO hr
end
end
end Go.Eng

namespace Go.Eng
open Go Tree
noncomputable section

section
variable {α : Type}
def sourceT (h : Heap) (size n : Nat) (x : Value) (k : List Value → Tree α) : Tree α :=
  match x with
  | .slice (some ⟨b, off, none⟩) _ _ => readT h b off (n * size) k
  | .string s => match size with
    | 1 => k ((cellsOfBytes s).take n)
    | _ => .fail
  | _ => liftO (source h size n x) k
theorem gives_sourceT (h : Heap) (size n : Nat) (x : Value) (k : List Value → Tree α) : Gives (sourceT h size n x k) (source h size n x) k := by
  intro r hr
  unfold sourceT at hr
  split at hr
  · unfold source
    exact gives_readT _ _ _ _ _ r hr
  · split at hr
    · unfold source
      exact ⟨_, rfl, hr⟩
    · exact hr.elim
  · exact runs_liftO hr

def aappendT (c : Ctx) (ts : List TypeId) (s x : Value) (h : Heap) (k : Value × Heap → Tree α) : Tree α :=
  match ts with
  | [st, xt] => match c.P.underlying st, c.P.underlying xt with
    | some (.slice _), some (.int _) => .fail
    | some (.slice e), some _ => match info c e, zeroCells c e, lenOf x with
      | some i, some z, some n => sourceT h i.size n x fun new =>
          must (decide (¬ (i.size = 0 ∨ i.bytes = 0 ∨ z.length ≠ i.size))) <| must (new.all oneCell) <|
          match s with
          | .slice none sl sc => match sl, sc with
            | 0, 0 => .test (decide (n = 0)) fun b => match b with
              | true => k (s, h)
              | false => must (decide (¬ n * i.bytes > 2 ^ 47)) (k (.slice (some ⟨h.fresh, 0, none⟩) n BIG2, h.new (.grown new e)))
            | _, _ => .fail
          | .slice (some ⟨b, off, none⟩) sl sc => .test (Nat.blt sc BIG) fun x => match x with
            | true => .test (decide (sl + n ≤ sc)) fun y => match y with
              | true => writeT h b (off + sl * i.size) new fun h' => k (.slice (some ⟨b, off, none⟩) (sl + n) sc, h')
              | false => must (decide (¬ (2 * (sl + n) + 1000) * i.bytes > 2 ^ 47)) <| readT h b off (sl * i.size) fun old =>
                  k (.slice (some ⟨h.fresh, 0, none⟩) (sl + n) BIG2, h.new (.grown (old ++ new) e))
            | false => .test (decide (n = 0)) fun y => match y with
              | true => k (s, h)
              | false => .test (decide (sl + n ≤ known c h b i.size sl sc)) fun z => match z with
                | true => writeT h b (off + sl * i.size) new fun h' => k (.slice (some ⟨b, off, none⟩) (sl + n) sc, h')
                | false => must (decide (¬ (2 * (sl + n) + 1000) * i.bytes > 2 ^ 47)) <| match h.get b with
                  | some (.grown _ e') => must (decide (e' = e ∧ off = (BIG2 - sc) * i.size)) <| readT h b off (sl * i.size) fun old =>
                      k (.slice (some ⟨h.fresh, 0, none⟩) (sl + n) BIG2, (h.drop b).new (.grown (old ++ new) e))
                  | _ => .fail
          | _ => .fail
      | _, _, _ => .fail
    | _, _ => .fail
  | _ => .fail
theorem runs_test {b : Bool} {k : Bool → Tree α} {r : α} (h : (Tree.test b k).Runs r) : (k b).Runs r := h
theorem runs_dec {p : Prop} [Decidable p] {x y : Tree α} {r : α} (h : (Tree.test (decide p) fun b => match b with
    | true => x
    | false => y).Runs r) : (p ∧ x.Runs r) ∨ (¬ p ∧ y.Runs r) := by
  have h := runs_test h
  by_cases hp : p
  · rw [decide_eq_true hp] at h; exact .inl ⟨hp, h⟩
  · rw [decide_eq_false hp] at h; exact .inr ⟨hp, h⟩
theorem runs_bool {b : Bool} {x y : Tree α} {r : α} (h : (Tree.test b fun b => match b with
    | true => x
    | false => y).Runs r) : (b = true ∧ x.Runs r) ∨ (b = false ∧ y.Runs r) := by
  have h := runs_test h
  cases b with
  | true => exact .inl ⟨rfl, h⟩
  | false => exact .inr ⟨rfl, h⟩
theorem gives_aappendT (c : Ctx) (ts : List TypeId) (s x : Value) (h : Heap) (k : Value × Heap → Tree α) : Gives (aappendT c ts s x h k) (aappend c ts s x h) k := by
  intro r hr
  unfold aappendT at hr
  unfold aappend
  split at hr
  · simp only
    split at hr
    · exact hr.elim
    · rename_i e d hns h1 h2
      split at hr
      · rename_i i z n h3 h4 h5
        obtain ⟨new, h6, hr⟩ := gives_sourceT _ _ _ _ _ r hr
        obtain ⟨h7, hr⟩ := runs_must hr
        obtain ⟨h8, hr⟩ := runs_must hr
        have h7 := of_decide_eq_true h7
        have h9 : ¬ (i.size = 0 ∨ i.bytes = 0 ∨ z.length ≠ i.size ∨ new.all oneCell = false) := by
          intro hh
          rw [h8] at hh
          rcases hh with hh | hh | hh | hh
          · exact h7 (.inl hh)
          · exact h7 (.inr (.inl hh))
          · exact h7 (.inr (.inr hh))
          · cases hh
        have goal2 : ∀ (X : Option (Value × Heap)), (∃ v, X = some v ∧ (k v).Runs r) → ∃ v, (if i.size = 0 ∨ i.bytes = 0 ∨ z.length ≠ i.size ∨ new.all oneCell = false then none else X) = some v ∧ (k v).Runs r := by
          intro X hX
          rw [if_neg h9]; exact hX
        simp only [h1, h2, h3, h4, h5, h6]
        refine goal2 _ ?_
        split at hr
        · rename_i sl sc
          split at hr
          · simp only
            rcases runs_dec hr with ⟨h10, hr⟩ | ⟨h10, hr⟩
            · rw [if_pos h10]; exact ⟨_, rfl, hr⟩
            · obtain ⟨h11, hr⟩ := runs_must hr
              rw [if_neg h10, if_neg (of_decide_eq_true h11)]; exact ⟨_, rfl, hr⟩
          · exact hr.elim
        · rename_i b off sl sc
          simp only
          rcases runs_bool hr with ⟨h10, hr⟩ | ⟨h10, hr⟩
          · simp only [h10]
            rcases runs_dec hr with ⟨h11, hr⟩ | ⟨h11, hr⟩
            · rw [if_pos h11]
              obtain ⟨h', h12, hr⟩ := gives_writeT _ _ _ _ _ r hr
              simp only [h12]
              exact ⟨_, rfl, hr⟩
            · obtain ⟨h12, hr⟩ := runs_must hr
              obtain ⟨old, h13, hr⟩ := gives_readT _ _ _ _ _ r hr
              rw [if_neg h11, if_neg (of_decide_eq_true h12)]
              simp only [h13]
              exact ⟨_, rfl, hr⟩
          · simp only [h10]
            rcases runs_dec hr with ⟨h11, hr⟩ | ⟨h11, hr⟩
            · rw [if_pos h11]; exact ⟨_, rfl, hr⟩
            · rw [if_neg h11]
              rcases runs_dec hr with ⟨h12, hr⟩ | ⟨h12, hr⟩
              · rw [if_pos h12]
                obtain ⟨h', h13, hr⟩ := gives_writeT _ _ _ _ _ r hr
                simp only [h13]
                exact ⟨_, rfl, hr⟩
              · obtain ⟨h13, hr⟩ := runs_must hr
                rw [if_neg h12, if_neg (of_decide_eq_true h13)]
                split at hr
                · rename_i cs e' hg
                  obtain ⟨h14, hr⟩ := runs_must hr
                  obtain ⟨old, h15, hr⟩ := gives_readT _ _ _ _ _ r hr
                  simp only [hg, if_pos (of_decide_eq_true h14), h15]
                  exact ⟨_, rfl, hr⟩
                · exact hr.elim
        · exact hr.elim
      · exact hr.elim
    · exact hr.elim
  · exact hr.elim

def acopyT (c : Ctx) (ts : List TypeId) (d x : Value) (h : Heap) (k : Value × Heap → Tree α) : Tree α :=
  match ts with
  | dt :: _ => match c.P.underlying dt with
    | some (.slice e) => match szOf c e, lenOf x, d with
      | some s, some m, .slice (some ⟨b, off, none⟩) dl _ =>
        sourceT h s (Nat.min m dl) x fun cs => .alt (lit (Nat.min m dl)) fun y => match y with
          | true => liftO (acopy c ts d x h) k
          | false => writeT h b off cs fun h' => k (.int .i64 (Nat.min m dl), h')
      | _, _, _ => liftO (acopy c ts d x h) k
    | _ => .fail
  | _ => .fail
where lit : Nat → Bool
  | 0 => true
  | _ + 1 => true
theorem gives_acopyT (c : Ctx) (ts : List TypeId) (d x : Value) (h : Heap) (k : Value × Heap → Tree α) : Gives (acopyT c ts d x h k) (acopy c ts d x h) k := by
  intro r hr
  unfold acopyT at hr
  split at hr
  · rename_i dt tl
    split at hr
    · rename_i e h1
      split at hr
      · rename_i s m b off dl dc h2 h3
        obtain ⟨cs, h4, hr⟩ := gives_sourceT _ _ _ _ _ r hr
        rcases hr with hr | hr
        · exact runs_liftO hr
        · obtain ⟨h', h5, hr⟩ := gives_writeT _ _ _ _ _ r hr
          unfold acopy
          simp only [h1, h2, h3, h4, h5]
          exact ⟨_, rfl, hr⟩
      · exact runs_liftO hr
    · exact hr.elim
  · exact hr.elim

def amakeSliceT (c : Ctx) (t : TypeId) (l k : Value) (h : Heap) (K : Value × Heap → Tree α) : Tree α :=
  match c.P.underlying t, l, k with
  | some (.slice e), .int _ l, .int _ k => match info c e, zeroCells c e with
    | some i, some z => must (decide (0 ≤ l ∧ l ≤ k ∧ k ≤ 2 ^ 48 ∧ i.bytes * k ≤ 2 ^ 48))
        (K (.slice (some ⟨h.fresh, 0, none⟩) l.toNat k.toNat, h.new (.cells (rep z (k.toNat * i.size)) e (0, 0))))
    | _, _ => .fail
  | _, _, _ => .fail
theorem gives_amakeSliceT (c : Ctx) (t : TypeId) (l k : Value) (h : Heap) (K : Value × Heap → Tree α) : Gives (amakeSliceT c t l k h K) (amakeSlice c t l k h) K := by
  intro r hr
  unfold amakeSliceT at hr
  unfold amakeSlice
  split at hr
  · rename_i h1
    split at hr
    · rename_i h2 h3
      obtain ⟨h4, hr⟩ := runs_must hr
      simp only [h1, h2, h3, if_pos (of_decide_eq_true h4)]
      exact ⟨_, rfl, hr⟩
    · exact hr.elim
  · exact hr.elim

def afindT (c : Ctx) (t : TypeId) (key : Value) : List MapEntry → Nat → (Option (Nat × Value) → Tree α) → Tree α
  | [], _, k => k none
  | e :: es, i, k => aequalT c t key e.key fun b => .test b fun b => match b with
    | true => k (some (i, e.val))
    | false => afindT c t key es (i + 1) k
theorem gives_afindT (c : Ctx) (t : TypeId) (key : Value) : ∀ (l : List MapEntry) (i : Nat) (k : Option (Nat × Value) → Tree α), Gives (afindT c t key l i k) (afind c t key l i) k
  | [], i, k => gives_ret _ k
  | e :: es, i, k => by
    intro r hr
    unfold afindT at hr
    unfold afind
    obtain ⟨b, h1, hr⟩ := gives_aequalT _ _ _ _ _ r hr
    simp only [h1]
    rcases runs_bool hr with ⟨h2, hr⟩ | ⟨h2, hr⟩
    · subst h2; exact ⟨_, rfl, hr⟩
    · subst h2; exact gives_afindT c t key es (i + 1) k r hr
def alookupT (c : Ctx) (t : TypeId) (x key : Value) (ok : Bool) (h : Heap) (k : Value → Tree α) : Tree α :=
  match c.P.underlying t, amapOf h x with
  | some (.map kt e), some es => match akeyOk c 10 kt key, zeroVal c e with
    | true, some z => afindT c kt key es 0 fun r => match r with
      | some (_, v) => k (if ok then .tuple #[v, .bool true] else v)
      | none => k (if ok then .tuple #[z, .bool false] else z)
    | _, _ => .fail
  | _, _ => .fail
theorem gives_alookupT (c : Ctx) (t : TypeId) (x key : Value) (ok : Bool) (h : Heap) (k : Value → Tree α) : Gives (alookupT c t x key ok h k) (alookup c t x key ok h) k := by
  intro r hr
  unfold alookupT at hr
  unfold alookup
  split at hr
  · rename_i h1 h2
    split at hr
    · rename_i h3 h4
      obtain ⟨u, h5, hr⟩ := gives_afindT _ _ _ _ _ _ r hr
      simp only [h1, h2, h3, h4, h5]
      cases u with
      | none => exact ⟨_, rfl, hr⟩
      | some p => exact ⟨_, rfl, hr⟩
    · exact hr.elim
  · exact hr.elim
def amapUpdateT (c : Ctx) (t : TypeId) (m key v : Value) (h : Heap) (k : Heap → Tree α) : Tree α :=
  match c.P.underlying t, m with
  | some (.map kt _), .map (some r) => match h.get r with
    | some (.map es clock) => match akeyOk c 10 kt key, plain key with
      | true, true => afindT c kt key es 0 fun u => match u with
        | some (i, _) => liftO (es[i]?) fun old => must (plain old.key) <| must (Instr.sameBits 10000 old.key key) <|
            k (h.set r (.map (es.modify i fun e => { e with key := key, val := v }) clock))
        | none => k (h.set r (.map (es ++ [{ key := key, val := v, born := clock }]) (clock + 1)))
      | _, _ => .fail
    | _ => .fail
  | _, _ => .fail
theorem gives_amapUpdateT (c : Ctx) (t : TypeId) (m key v : Value) (h : Heap) (k : Heap → Tree α) : Gives (amapUpdateT c t m key v h k) (amapUpdate c t m key v h) k := by
  intro r hr
  unfold amapUpdateT at hr
  unfold amapUpdate
  split at hr
  · rename_i h1
    split at hr
    · rename_i h2
      split at hr
      · rename_i h3 h4
        obtain ⟨u, h5, hr⟩ := gives_afindT _ _ _ _ _ _ r hr
        simp only [h1, h2, h3, h4, h5]
        cases u with
        | none => exact ⟨_, rfl, hr⟩
        | some p =>
          obtain ⟨i, v0⟩ := p
          obtain ⟨old, h6, hr⟩ := runs_liftO hr
          obtain ⟨h7, hr⟩ := runs_must hr
          obtain ⟨h8, hr⟩ := runs_must hr
          simp only [h6, h7, h8, Bool.and_self]
          exact ⟨_, rfl, hr⟩
      · exact hr.elim
    · exact hr.elim
  · exact hr.elim
def adeleteT (c : Ctx) (t : TypeId) (m key : Value) (h : Heap) (k : Value × Heap → Tree α) : Tree α :=
  match c.P.underlying t, m with
  | some (.map kt _), .map (some r) => match h.get r with
    | some (.map es clock) => match akeyOk c 10 kt key with
      | true => afindT c kt key es 0 fun u => match u with
        | some (i, _) => k (undef, h.set r (.map (es.eraseIdx i) clock))
        | none => k (undef, h)
      | false => .fail
    | _ => .fail
  | _, _ => liftO (adelete c t m key h) k
theorem gives_adeleteT (c : Ctx) (t : TypeId) (m key : Value) (h : Heap) (k : Value × Heap → Tree α) : Gives (adeleteT c t m key h k) (adelete c t m key h) k := by
  intro r hr
  unfold adeleteT at hr
  split at hr
  · rename_i h1
    split at hr
    · rename_i h2
      split at hr
      · rename_i h3
        obtain ⟨u, h5, hr⟩ := gives_afindT _ _ _ _ _ _ r hr
        unfold adelete
        simp only [h1, h2, h3, h5]
        cases u with
        | none => exact ⟨_, rfl, hr⟩
        | some p => exact ⟨_, rfl, hr⟩
      · exact hr.elim
    · exact hr.elim
  · exact runs_liftO hr
def anextT (it : Value) (isString : Bool) (h : Heap) (k : Value × Heap → Tree α) : Tree α :=
  match it, isString with
  | .pointer (some ⟨n, 0, none⟩), true => match h.get n with
    | some (.siter s pos) => .test (decide (pos < s.size)) fun b => match b with
      | true => k (.tuple #[.bool true, .int .i64 pos, .int .i32 (Utf8.decode s pos).1], h.set n (.siter s (pos + (Utf8.decode s pos).2)))
      | false => k (.tuple #[.bool false], h)
    | _ => .fail
  | _, _ => liftO (anext it isString h) k
theorem gives_anextT (it : Value) (isString : Bool) (h : Heap) (k : Value × Heap → Tree α) : Gives (anextT it isString h k) (anext it isString h) k := by
  intro r hr
  unfold anextT at hr
  split at hr
  · split at hr
    · rename_i h1
      unfold anext
      simp only [h1]
      rcases runs_dec hr with ⟨h2, hr⟩ | ⟨h2, hr⟩
      · rw [if_pos h2]; exact ⟨_, rfl, hr⟩
      · rw [if_neg h2]; exact ⟨_, rfl, hr⟩
    · exact hr.elim
  · exact runs_liftO hr
def aunsafeStringT (c : Ctx) (ts : List TypeId) (p n : Value) (h : Heap) (k : Value × Heap → Tree α) : Tree α :=
  match p, n with
  | .pointer (some ⟨b, off, none⟩), .int κ n => .test (decide (n = 0)) fun x => match x with
    | true => k (.string .empty, h)
    | false => must (decide (0 < n ∧ n ≤ IntKind.i64.max)) <|
      match ts with
      | pt :: _ => match c.P.underlying pt with
        | some (.pointer e) => match c.P.underlying e, h.get b with
          | some (.int .u8), some (.grown _ e') => must (decide (c.P.underlyingId e' = c.P.underlyingId e ∧ szOf c e' = some 1)) <|
              readT h b off n.toNat fun l => bytesT l fun bs => k (.string ⟨bs.toArray⟩, h.drop b)
          | _, _ => .fail
        | _ => .fail
      | _ => .fail
  | _, _ => liftO (aunsafeString c ts p n h) k
theorem gives_aunsafeStringT (c : Ctx) (ts : List TypeId) (p n : Value) (h : Heap) (k : Value × Heap → Tree α) : Gives (aunsafeStringT c ts p n h k) (aunsafeString c ts p n h) k := by
  intro r hr
  unfold aunsafeStringT at hr
  split at hr
  · rename_i b off κ n
    rcases runs_dec hr with ⟨h0, hr⟩ | ⟨h0, hr⟩
    · subst h0
      unfold aunsafeString
      exact ⟨_, rfl, hr⟩
    · obtain ⟨h1, hr⟩ := runs_must hr
      cases ts with
      | nil => exact hr.elim
      | cons pt tl =>
        simp only at hr
        split at hr
        · rename_i e h2
          split at hr
          · rename_i cs e' h3 h4
            obtain ⟨h5, hr⟩ := runs_must hr
            obtain ⟨l, h6, hr⟩ := gives_readT _ _ _ _ _ r hr
            obtain ⟨bs, h7, hr⟩ := gives_bytesT _ _ r hr
            have : aunsafeString c (pt :: tl) (.pointer (some ⟨b, off, none⟩)) (.int κ n) h = some (.string ⟨bs.toArray⟩, h.drop b) := by
              unfold aunsafeString
              split
              · rename_i hx _; cases hx
              · rename_i hx; cases hx; exact absurd rfl h0
              · rename_i hx hy
                cases hx; cases hy
                simp only [if_pos (of_decide_eq_true h1), h2, h3, h4, if_pos (of_decide_eq_true h5), h6, h7]
              · rename_i hno; exact (hno _ _ _ _ rfl rfl).elim
            exact ⟨_, this, hr⟩
          · exact hr.elim
        · exact hr.elim
  · exact runs_liftO hr

def abuiltinT (c : Ctx) (b : Builtin) (ts : List TypeId) (args : List Value) (h : Heap) (k : Value × Heap → Tree α) : Tree α :=
  match b, args with
  | .append, [s, x] => aappendT c ts s x h k
  | .copy, [d, x] => acopyT c ts d x h k
  | .delete, [m, key] => match ts with
    | t :: _ => adeleteT c t m key h k
    | _ => .fail
  | .unsafeString, [p, n] => match ts with
    | [] => .fail
    | _ :: _ => aunsafeStringT c ts p n h k
  | _, _ => liftO (abuiltin c b ts args h) k
theorem gives_abuiltinT (c : Ctx) (b : Builtin) (ts : List TypeId) (args : List Value) (h : Heap) (k : Value × Heap → Tree α) : Gives (abuiltinT c b ts args h k) (abuiltin c b ts args h) k := by
  intro r hr
  unfold abuiltinT at hr
  split at hr
  · exact gives_aappendT _ _ _ _ _ _ r hr
  · exact gives_acopyT _ _ _ _ _ _ r hr
  · split at hr
    · exact gives_adeleteT _ _ _ _ _ _ r hr
    · exact hr.elim
  · split at hr
    · exact hr.elim
    · exact gives_aunsafeStringT _ _ _ _ _ _ r hr
  · exact runs_liftO hr

def kval (h : Heap) (k : Out → Tree α) (v : Value) : Tree α := k (.val v h)
def kval2 (k : Out → Tree α) (p : Value × Heap) : Tree α := match p with
  | (v, h) => k (.val v h)
def aopT (c : Ctx) (ρ : Operand → Value) (o : Op) (h : Heap) (k : Out → Tree α) : Tree α :=
  match o with
  | .pick a x y => match ρ a with
    | .bool b => .test b fun b => match b with
      | true => k (.val (ρ x) h)
      | false => k (.val (ρ y) h)
    | _ => .fail
  | .load t a => aloadT c h t (ρ a) (kval h k)
  | .store t a x => astoreT c h t (ρ a) (ρ x) fun h' => k (.skip h')
  | .binOp op t x y _ => abinT c op t (ρ x) (ρ y) (isC x) (isC y) (kval h k)
  | .convert s d x => aconvertT c s d (ρ x) h (kval2 k)
  | .makeSlice t l n => amakeSliceT c t (ρ l) (ρ n) h (kval2 k)
  | .slice t x lo hi mx => asliceT c t (ρ x) (lo.map ρ) (hi.map ρ) (mx.map ρ) h (kval h k)
  | .field t x f => afieldT c t (ρ x) f (kval h k)
  | .indexAddr t x i => aindexAddrT c t (ρ x) (ρ i) (kval h k)
  | .index t x i => aindexT c t (ρ x) (ρ i) (kval h k)
  | .lookup t x key ok => alookupT c t (ρ x) (ρ key) ok h (kval h k)
  | .mapUpdate t m key x => amapUpdateT c t (ρ m) (ρ key) (ρ x) h fun h' => k (.skip h')
  | .insert t m key x => amapUpdateT c t (ρ m) (ρ key) (ρ x) h fun h' => k (.skip h')
  | .next it s => anextT (ρ it) s h (kval2 k)
  | .call cl => match cl.callee with
    | .builtin b => abuiltinT c b cl.argTypes.toList (cl.args.toList.map ρ) h (kval2 k)
    | _ => liftO (acall c ρ cl h) k
  | _ => liftO (aop c ρ o h) k
theorem gives_kval {x : Option Value} {h : Heap} {k : Out → Tree α} {t : Tree α} (H : Gives t x (kval h k)) : Gives t (val1 h x) k := by
  intro r hr
  obtain ⟨v, rfl, h2⟩ := H r hr
  exact ⟨_, rfl, h2⟩
theorem gives_kval2 {x : Option (Value × Heap)} {k : Out → Tree α} {t : Tree α} (H : Gives t x (kval2 k)) : Gives t (val2 x) k := by
  intro r hr
  obtain ⟨⟨v, h'⟩, rfl, h2⟩ := H r hr
  exact ⟨_, rfl, h2⟩
theorem gives_skip {x : Option Heap} {k : Out → Tree α} {t : Tree α} (H : Gives t x fun h' => k (.skip h')) : Gives t (match x with
    | some h' => some (.skip h')
    | none => none) k := by
  intro r hr
  obtain ⟨v, rfl, h2⟩ := H r hr
  exact ⟨_, rfl, h2⟩
theorem gives_aopT (c : Ctx) (ρ : Operand → Value) (o : Op) (h : Heap) (k : Out → Tree α) : Gives (aopT c ρ o h k) (aop c ρ o h) k := by
  intro r hr
  unfold aopT at hr
  split at hr
  · rename_i a x y
    unfold aop
    split at hr
    · rename_i b hb
      simp only [hb]
      rcases runs_bool hr with ⟨h2, hr⟩ | ⟨h2, hr⟩
      · subst h2; exact ⟨_, rfl, hr⟩
      · subst h2; exact ⟨_, rfl, hr⟩
    · exact hr.elim
  · exact gives_kval (gives_aloadT _ _ _ _ _) r hr
  · exact gives_skip (gives_astoreT _ _ _ _ _ _) r hr
  · exact gives_kval (gives_abinT _ _ _ _ _ _ _ _) r hr
  · exact gives_kval2 (gives_aconvertT _ _ _ _ _ _) r hr
  · exact gives_kval2 (gives_amakeSliceT _ _ _ _ _ _) r hr
  · exact gives_kval (gives_asliceT _ _ _ _ _ _ _ _) r hr
  · exact gives_kval (gives_afieldT _ _ _ _ _) r hr
  · exact gives_kval (gives_aindexAddrT _ _ _ _ _) r hr
  · exact gives_kval (gives_aindexT _ _ _ _ _) r hr
  · exact gives_kval (gives_alookupT _ _ _ _ _ _ _) r hr
  · exact gives_skip (gives_amapUpdateT _ _ _ _ _ _ _) r hr
  · exact gives_skip (gives_amapUpdateT _ _ _ _ _ _ _) r hr
  · exact gives_kval2 (gives_anextT _ _ _ _) r hr
  · rename_i cl
    split at hr
    · rename_i b hb
      have := gives_abuiltinT _ _ _ _ _ _ r hr
      obtain ⟨⟨v, h'⟩, h1, h2⟩ := this
      refine ⟨.val v h', ?_, h2⟩
      unfold aop acall
      simp only [hb, h1]
    · have := runs_liftO hr
      unfold aop
      exact this
  · exact runs_liftO hr
end
end
end Go.Eng

namespace Go.Eng
open Go Tree
noncomputable section

/-- the context: its summaries are those of 'raw' where 'pre' holds -/
structure CtxT where
  c : Ctx
  raw : Nat → Option (List Value → Heap → Option (Value × Heap))
  pre : Nat → Option (List Value → Heap → Prop)
def CtxT.holds (T : CtxT) (f : Nat) (args : List Value) (h : Heap) : Prop := match T.pre f with
  | some p => p args h
  | none => True
structure CtxT.Ok (T : CtxT) : Prop where
  none : ∀ f, T.raw f = none → T.c.sums f = none
  some : ∀ f s args h v h', T.raw f = some s → T.holds f args h → s args h = some (v, h') → ∃ s', T.c.sums f = some s' ∧ s' args h = some (v, h')

section
variable {α : Type}
abbrev RecT (α : Type) := Req → (Ans → Tree α) → Tree α

def awantedT (ops : Array Oper) (o : Oper) (ρ : Operand → Value) (k : Option Bool → Tree α) : Tree α :=
  match o.guard with
  | none => k (some true)
  | some (j, want) => match ops[j]? with
    | some oj => match oj.dst with
      | some t => match ρ (.tmp t) with
        | .bool b => .test b fun x => k (some (x == want))
        | .complex .. => k none
        | _ => k (some false)
      | none => k (some false)
    | none => k (some false)
theorem runs_awantedT {ops : Array Oper} {o : Oper} {ρ : Operand → Value} {k : Option Bool → Tree α} {r : α} (h : (awantedT ops o ρ k).Runs r) : (k (awanted ops o ρ)).Runs r := by
  unfold awantedT at h
  unfold awanted
  split at h
  · rename_i hg; simp only [hg]; exact h
  · rename_i hg
    simp only [hg]
    split at h
    · rename_i ho
      simp only [ho]
      split at h
      · rename_i hd
        simp only [hd]
        split at h
        · rename_i hb; simp only [hb]; exact h
        · rename_i hb; simp only [hb]; exact h
        · rename_i h1 h2
          split
          · rename_i hb; exact (h1 _ hb).elim
          · rename_i hb; exact (h2 _ _ _ hb).elim
          · exact h
      · rename_i hd; simp only [hd]; exact h
    · rename_i ho; simp only [ho]; exact h

def doOutT (rec : RecT α) (r : Regs) (dst : Option Tmp) (o : Out) (k : Regs × Heap → Tree α) : Tree α :=
  match o with
  | .val v h => k (r.put dst v, h)
  | .skip h => k (r.put dst undef, h)
  | .call f args h => rec (.call f args h) fun a => match a with
    | .ret v h' => k (r.put dst v, h')
    | _ => .fail
  | .round l args h => rec (.round l args h) fun a => match a with
    | .ret v h' => k (r.put dst v, h')
    | _ => .fail
def evOpT (rec : RecT α) (c : Ctx) (ops : Array Oper) (o : Oper) (r : Regs) (h : Heap) (k : Regs × Heap → Tree α) : Tree α :=
  awantedT ops o (aeval r) fun x => match x with
  | none => .fail
  | some false => k (r.put o.dst undef, h)
  | some true => aopT c (aeval r) o.op h fun out => doOutT rec r o.dst out k
def evOpsT (rec : RecT α) (c : Ctx) (ops : Array Oper) : List Oper → Regs → Heap → (Regs × Heap → Tree α) → Tree α
  | [], r, h, k => k (r, h)
  | o :: l, r, h, k => evOpT rec c ops o r h fun p => match p with
    | (r', h') => evOpsT rec c ops l r' h' k

/-- the one recursion of the other -/
def Agrees (recT : RecT α) (rec : Rec) : Prop := ∀ q k r, (recT q k).Runs r → ∃ a, rec q = some a ∧ (k a).Runs r

theorem gives_doOutT {recT : RecT α} {rec : Rec} (A : Agrees recT rec) (r : Regs) (dst : Option Tmp) (o : Out) (k : Regs × Heap → Tree α) : Gives (doOutT recT r dst o k) (doOut rec r dst o) k := by
  intro x hx
  unfold doOutT at hx
  unfold doOut
  split at hx
  · exact ⟨_, rfl, hx⟩
  · exact ⟨_, rfl, hx⟩
  · obtain ⟨a, h1, h2⟩ := A _ _ _ hx
    simp only [h1]
    split at h2
    · exact ⟨_, rfl, h2⟩
    · exact h2.elim
  · obtain ⟨a, h1, h2⟩ := A _ _ _ hx
    simp only [h1]
    split at h2
    · exact ⟨_, rfl, h2⟩
    · exact h2.elim
theorem gives_evOpT {recT : RecT α} {rec : Rec} (A : Agrees recT rec) (c : Ctx) (ops : Array Oper) (o : Oper) (r : Regs) (h : Heap) (k : Regs × Heap → Tree α) : Gives (evOpT recT c ops o r h k) (evOp rec c ops o r h) k := by
  intro x hx
  have hx := runs_awantedT hx
  unfold evOp
  split at hx
  · exact hx.elim
  · rename_i hw; simp only [hw]; exact ⟨_, rfl, hx⟩
  · rename_i hw
    simp only [hw]
    obtain ⟨out, h1, h2⟩ := gives_aopT _ _ _ _ _ x hx
    simp only [h1]
    exact gives_doOutT A _ _ _ _ x h2
theorem gives_evOpsT {recT : RecT α} {rec : Rec} (A : Agrees recT rec) (c : Ctx) (ops : Array Oper) : ∀ (l : List Oper) (r : Regs) (h : Heap) (k : Regs × Heap → Tree α), Gives (evOpsT recT c ops l r h k) (evOps rec c ops l r h) k
  | [], r, h, k => gives_ret _ k
  | o :: l, r, h, k => by
    intro x hx
    unfold evOpsT at hx
    unfold evOps
    obtain ⟨⟨r', h'⟩, h1, h2⟩ := gives_evOpT A _ _ _ _ _ _ x hx
    simp only [h1]
    exact gives_evOpsT A c ops l r' h' k x h2

def findQT (ops : Array Oper) (c : Ctx) (listed : Array Bool) (r : Regs) (h : Heap) : List Nat → (Option (Nat × Oper × Value) → Tree α) → Tree α
  | [], k => k none
  | i :: l, k => match ops[i]? with
    | some o => match Region.free .any ops listed i with
      | false => findQT ops c listed r h l k
      | true => awantedT ops o (aeval r) fun x => match x with
        | none => findQT ops c listed r h l k
        | some false => k (some (i, o, undef))
        | some true => match quietK c o.op with
          | false => findQT ops c listed r h l k
          | true => aopT c (aeval r) o.op h fun out => match out with
            | .val v _ => k (some (i, o, v))
            | _ => .fail
    | none => findQT ops c listed r h l k
theorem runs_findQT {ops : Array Oper} {c : Ctx} {listed : Array Bool} {r : Regs} {h : Heap} : ∀ {l : List Nat} {k : Option (Nat × Oper × Value) → Tree α} {x : α}, (findQT ops c listed r h l k).Runs x → (k (findQ ops c listed r h l)).Runs x
  | [], k, x, hx => hx
  | i :: l, k, x, hx => by
    unfold findQT at hx
    unfold findQ
    split at hx
    · rename_i o ho
      simp only [ho]
      split at hx
      · rename_i hf
        have := runs_findQT hx
        split
        · simp only [hf]; exact this
        · exact this
      · rename_i hf
        have hx := runs_awantedT hx
        split at hx
        · rename_i hw
          have : qval c ops o (aeval r) h = none := by unfold qval; simp only [hw]
          simp only [this]
          exact runs_findQT hx
        · rename_i hw
          have : qval c ops o (aeval r) h = some undef := by unfold qval; simp only [hw]
          simp only [this, hf]
          exact hx
        · rename_i hw
          split at hx
          · rename_i hq
            have : qval c ops o (aeval r) h = none := by unfold qval; simp only [hw, hq]
            simp only [this]
            exact runs_findQT hx
          · rename_i hq
            obtain ⟨out, h1, h2⟩ := gives_aopT _ _ _ _ _ x hx
            simp only at h2
            split at h2
            · rename_i v h3
              have : qval c ops o (aeval r) h = some v := by unfold qval; simp only [hw, hq, h1]
              simp only [this, hf]
              exact h2
            · exact h2.elim
    · rename_i ho
      simp only [ho]
      exact runs_findQT hx

/-- values of which the equality is told -/
def okV1 : Value → Bool
  | .bool _ | .int _ _ | .string _ | .pointer none | .pointer (some ⟨_, _, none⟩) | .slice none _ _ | .slice (some ⟨_, _, none⟩) _ _ | .map none | .map (some _) | .nilFunc | .nilIface => true
  | _ => false
def okV : Value → Bool
  | .agg a => a.toList.all okV1
  | .tuple a => a.toList.all okV1
  | .iface _ (.agg a) => a.toList.all okV1
  | .iface _ a => okV1 a
  | v => okV1 v
theorem beqV1_refl {v : Value} (h : okV1 v = true) : beqV1 v v = true := by
  unfold okV1 at h
  split at h <;> first | (simp [beqV1]; done) | (cases h)
theorem beqL_refl : ∀ {l : List Value}, l.all okV1 = true → beqL l l = true
  | [], _ => rfl
  | v :: l, h => by
    simp only [List.all_cons, Bool.and_eq_true] at h
    simp only [beqL, beqV1_refl h.1, beqL_refl h.2, Bool.and_self]
theorem beqV_refl {v : Value} (h : okV v = true) : beqV v v = true := by
  cases v with
  | agg a => exact beqL_refl h
  | tuple a => exact beqL_refl h
  | iface t x =>
    cases x with
    | agg b =>
      have : beqL b.toList b.toList = true := beqL_refl h
      show (Nat.beq t t && beqL b.toList b.toList) = true
      rw [Nat.beq_refl, this]; rfl
    | bool b =>
      have := beqV1_refl (v := .bool b) h
      show (Nat.beq t t && beqV1 _ _) = true
      rw [Nat.beq_refl, this]; rfl
    | int a b =>
      have := beqV1_refl (v := .int a b) h
      show (Nat.beq t t && beqV1 _ _) = true
      rw [Nat.beq_refl, this]; rfl
    | float a b =>
      have := beqV1_refl (v := .float a b) h
      show (Nat.beq t t && beqV1 _ _) = true
      rw [Nat.beq_refl, this]; rfl
    | complex a b c =>
      have := beqV1_refl (v := .complex a b c) h
      show (Nat.beq t t && beqV1 _ _) = true
      rw [Nat.beq_refl, this]; rfl
    | string s =>
      have := beqV1_refl (v := .string s) h
      show (Nat.beq t t && beqV1 _ _) = true
      rw [Nat.beq_refl, this]; rfl
    | pointer a =>
      have := beqV1_refl (v := .pointer a) h
      show (Nat.beq t t && beqV1 _ _) = true
      rw [Nat.beq_refl, this]; rfl
    | slice a b c =>
      have := beqV1_refl (v := .slice a b c) h
      show (Nat.beq t t && beqV1 _ _) = true
      rw [Nat.beq_refl, this]; rfl
    | map r =>
      have := beqV1_refl (v := .map r) h
      show (Nat.beq t t && beqV1 _ _) = true
      rw [Nat.beq_refl, this]; rfl
    | chan r =>
      have := beqV1_refl (v := .chan r) h
      show (Nat.beq t t && beqV1 _ _) = true
      rw [Nat.beq_refl, this]; rfl
    | func a b c =>
      have := beqV1_refl (v := .func a b c) h
      show (Nat.beq t t && beqV1 _ _) = true
      rw [Nat.beq_refl, this]; rfl
    | nilFunc =>
      have := beqV1_refl (v := .nilFunc) h
      show (Nat.beq t t && beqV1 _ _) = true
      rw [Nat.beq_refl, this]; rfl
    | nilIface =>
      have := beqV1_refl (v := .nilIface) h
      show (Nat.beq t t && beqV1 _ _) = true
      rw [Nat.beq_refl, this]; rfl
    | tuple a =>
      have := beqV1_refl (v := .tuple a) h
      show (Nat.beq t t && beqV1 _ _) = true
      rw [Nat.beq_refl, this]; rfl
    | iface u w =>
      have := beqV1_refl (v := .iface u w) h
      show (Nat.beq t t && beqV1 _ _) = true
      rw [Nat.beq_refl, this]; rfl
  | bool b => exact beqV1_refl (v := .bool b) h
  | int a b => exact beqV1_refl (v := .int a b) h
  | float a b => exact beqV1_refl (v := .float a b) h
  | complex a b c => exact beqV1_refl (v := .complex a b c) h
  | string s => exact beqV1_refl (v := .string s) h
  | pointer a => exact beqV1_refl (v := .pointer a) h
  | slice a b c => exact beqV1_refl (v := .slice a b c) h
  | map r => exact beqV1_refl (v := .map r) h
  | chan r => exact beqV1_refl (v := .chan r) h
  | func a b c => exact beqV1_refl (v := .func a b c) h
  | nilFunc => exact beqV1_refl (v := .nilFunc) h
  | nilIface => exact beqV1_refl (v := .nilIface) h
/-- a fact that was read holds still -/
def factT (c : Ctx) (ops : Array Oper) (h : Heap) (f : Fact) (t : Tree α) : Tree α :=
  awantedT ops f.o (aeval f.r) fun x => match x with
  | some true => match quietK c f.o.op with
    | true => aopT c (aeval f.r) f.o.op h fun out => match out with
      | .val v _ => .alt (litB (beqV v f.v)) fun y => match y with
        | true => must (beqV v f.v) t
        | false => must (okV v) (.need (v = f.v) t)
      | _ => .fail
    | false => .fail
  | some false => must (beqV undef f.v) t
  | none => .fail
where litB : Bool → Bool
  | true => true
  | false => true
theorem runs_factT {c : Ctx} {ops : Array Oper} {h : Heap} {f : Fact} {t : Tree α} {r : α} (hr : (factT c ops h f t).Runs r) : factHolds c ops h f = true ∧ t.Runs r := by
  have hr := runs_awantedT hr
  unfold factHolds qval
  split at hr
  · rename_i hw
    simp only [hw]
    split at hr
    · rename_i hq
      simp only [hq]
      obtain ⟨out, h1, h2⟩ := gives_aopT _ _ _ _ _ r hr
      simp only [h1]
      simp only at h2
      split at h2
      · rename_i v h3
        rcases h2 with h2 | h2
        · exact runs_must h2
        · obtain ⟨h4, h5, h6⟩ := runs_must h2
          refine ⟨?_, h6⟩
          rw [← h5]
          exact beqV_refl h4
      · exact h2.elim
    · exact hr.elim
  · rename_i hw
    simp only [hw]
    exact runs_must hr
  · exact hr.elim
def factsT (c : Ctx) (ops : Array Oper) (h : Heap) : List Fact → Tree α → Tree α
  | [], t => t
  | f :: l, t => factT c ops h f (factsT c ops h l t)
theorem runs_factsT {c : Ctx} {ops : Array Oper} {h : Heap} : ∀ {l : List Fact} {t : Tree α} {r : α}, (factsT c ops h l t).Runs r → l.all (factHolds c ops h) = true ∧ t.Runs r
  | [], t, r, hr => ⟨rfl, hr⟩
  | f :: l, t, r, hr => by
    obtain ⟨h1, h2⟩ := runs_factT hr
    obtain ⟨h3, h4⟩ := runs_factsT h2
    exact ⟨by simp only [List.all_cons, h1, h3, Bool.and_self], h4⟩

def evDrawT (rec : RecT α) (c : Ctx) (ops : Array Oper) (B : Array Nat) : Nat → Array Bool → List Fact → Regs → Heap → (Regs × Heap → Tree α) → Tree α
  | 0, listed, _, r, h, k =>
    match Region.ready .any ops listed with
    | [] => k (r, h)
    | _ :: _ => .fail
  | n + 1, listed, facts, r, h, k =>
    match Region.ready .any ops listed with
    | [] => k (r, h)
    | i :: rest => findQT ops c listed r h (i :: rest) fun x => match x with
      | some (j, o, v) => evDrawT rec c ops B n (listed.setIfInBounds j true) (keepFact ⟨j, o, r, v⟩ facts) (r.put o.dst v) h k
      | none => match rest, ops[i]? with
        | [], some o => evOpT rec c ops o r h fun p => match p with
          | (r', h') => factsT c ops h' (facts.filter fun f => !(B.getD i 0).testBit f.i)
            (evDrawT rec c ops B n (listed.setIfInBounds i true) (facts.filter fun f => !(B.getD i 0).testBit f.i) r' h' k)
        | _, _ => match findN ops c listed r (i :: rest) with
          | some (j, o, ob, mk) => factsT c ops (h.new ob) facts (evDrawT rec c ops B n (listed.setIfInBounds j true) facts (r.put o.dst (mk h.fresh)) (h.new ob) k)
          | none => .fail
theorem gives_evDrawT {recT : RecT α} {rec : Rec} (A : Agrees recT rec) (c : Ctx) (ops : Array Oper) (B : Array Nat) : ∀ (n : Nat) (listed : Array Bool) (facts : List Fact) (r : Regs) (h : Heap) (k : Regs × Heap → Tree α),
    Gives (evDrawT recT c ops B n listed facts r h k) (evDraw rec c ops B n listed facts r h) k
  | 0, listed, facts, r, h, k => by
    intro x hx
    unfold evDrawT at hx
    unfold evDraw
    split at hx
    · rename_i h1; simp only [h1]; exact ⟨_, rfl, hx⟩
    · exact hx.elim
  | n + 1, listed, facts, r, h, k => by
    intro x hx
    unfold evDrawT at hx
    unfold evDraw
    split at hx
    · rename_i h1; simp only [h1]; exact ⟨_, rfl, hx⟩
    · rename_i i rest h1
      simp only [h1]
      have hx := runs_findQT hx
      split at hx
      · rename_i j o v h2
        simp only [h2]
        exact gives_evDrawT A c ops B n _ _ _ _ _ x hx
      · rename_i h2
        simp only [h2]
        have other : (match findN ops c listed r (i :: rest) with
            | some (j, o, ob, mk) => factsT c ops (h.new ob) facts (evDrawT recT c ops B n (listed.setIfInBounds j true) facts (r.put o.dst (mk h.fresh)) (h.new ob) k)
            | none => .fail).Runs x → ∃ v, (match findN ops c listed r (i :: rest) with
            | some (j, o, ob, mk) => match facts.all (factHolds c ops (h.new ob)) with
              | true => evDraw rec c ops B n (listed.setIfInBounds j true) facts (r.put o.dst (mk h.fresh)) (h.new ob)
              | false => none
            | none => none) = some v ∧ (k v).Runs x := by
          intro hx
          split at hx
          · rename_i j o ob mk h3
            obtain ⟨h6, h7⟩ := runs_factsT hx
            simp only [h6]
            exact gives_evDrawT A c ops B n _ _ _ _ _ x h7
          · exact hx.elim
        cases rest with
        | nil =>
          cases ho : ops[i]? with
          | some o =>
            rw [ho] at hx
            simp only at hx ⊢
            obtain ⟨⟨r', h'⟩, h4, h5⟩ := gives_evOpT A _ _ _ _ _ _ x hx
            obtain ⟨h6, h7⟩ := runs_factsT h5
            simp only [h4, h6]
            exact gives_evDrawT A c ops B n _ _ _ _ _ x h7
          | none =>
            rw [ho] at hx
            exact other hx
        | cons y ys => exact other hx
def evRegionT (rec : RecT α) (c : Ctx) (ops : Array Oper) (draw : Bool) (r : Regs) (h : Heap) (k : Regs × Heap → Tree α) : Tree α :=
  match draw with
  | false => evOpsT rec c ops ops.toList r h k
  | true => evDrawT rec c ops (Region.before ops) ops.size (Array.replicate ops.size false) [] r h k
theorem gives_evRegionT {recT : RecT α} {rec : Rec} (A : Agrees recT rec) (c : Ctx) (ops : Array Oper) (draw : Bool) (r : Regs) (h : Heap) (k : Regs × Heap → Tree α) : Gives (evRegionT recT c ops draw r h k) (evRegion rec c ops draw r h) k := by
  cases draw with
  | false => exact gives_evOpsT A c ops _ _ _ _
  | true => exact gives_evDrawT A c ops _ _ _ _ _ _ _

def aresultT (c : Ctx) (r : Regs) (h : Heap) : List ResultVar → (List Value → Tree α) → Tree α
  | [], k => k []
  | .tmp t :: l, k => aresultT c r h l fun vs => k (r.get t :: vs)
  | .cell a t :: l, k => aloadT c h t (r.get a) fun v => aresultT c r h l fun vs => k (v :: vs)
theorem gives_aresultT (c : Ctx) (r : Regs) (h : Heap) : ∀ (l : List ResultVar) (k : List Value → Tree α), Gives (aresultT c r h l k) (aresult c r h l) k
  | [], k => gives_ret _ k
  | .tmp t :: l, k => by
    intro x hx
    obtain ⟨vs, h1, h2⟩ := gives_aresultT c r h l _ x hx
    simp only [aresult, h1]
    exact ⟨_, rfl, h2⟩
  | .cell a t :: l, k => by
    intro x hx
    obtain ⟨v, h1, h2⟩ := gives_aloadT _ _ _ _ _ x hx
    obtain ⟨vs, h3, h4⟩ := gives_aresultT c r h l _ x h2
    simp only [aresult, h1, h3]
    exact ⟨_, rfl, h4⟩
def aresultsT (c : Ctx) (fn : Func) (r : Regs) (h : Heap) (k : Value → Tree α) : Tree α :=
  aresultT c r h fn.results.toList fun vs => match vs with
  | [v] => k v
  | vs => k (.tuple vs.toArray)
theorem gives_aresultsT (c : Ctx) (fn : Func) (r : Regs) (h : Heap) (k : Value → Tree α) : Gives (aresultsT c fn r h k) (aresults c fn r h) k := by
  intro x hx
  obtain ⟨vs, h1, h2⟩ := gives_aresultT c r h _ _ x hx
  unfold aresults
  rw [h1]
  simp only at h2
  split at h2
  · exact ⟨_, rfl, h2⟩
  · rename_i hno
    split
    · rename_i heq; cases heq; exact (hno _ rfl).elim
    · rename_i heq; cases heq; exact ⟨_, rfl, h2⟩
    · rename_i heq; cases heq

def evTF (T : CtxT) (rec : RecT α) (q : Req) (k : Ans → Tree α) : Tree α :=
  match q with
  | .code f rd cd st =>
    match cd with
    | .skip => k (.fin .nrm st)
    | .label _ => k (.fin .nrm st)
    | .region _ ops draw => match st with
      | ⟨r, h, d⟩ => evRegionT rec T.c ops draw r h fun p => match p with
        | (r', h') => k (.fin .nrm ⟨r', h', d⟩)
    | .seq a b => rec (.code f rd a st) fun x => match x with
      | .fin .nrm st' => rec (.code f rd b st') k
      | x => k x
    | .cond x a b => match aeval st.r x with
      | .bool t => .test t fun t => match t with
        | true => rec (.code f rd a st) k
        | false => rec (.code f rd b st) k
      | _ => .fail
    | .block id b => rec (.code f rd b st) fun x => match x with
      | .fin (.jmp (.exit id')) st' => match Nat.beq id' id with
        | true => k (.fin .nrm st')
        | false => k (.fin (.jmp (.exit id')) st')
      | x => k x
    | .loop b => rec (.code f rd b st) fun x => match x with
      | .fin .nrm ⟨r', h', d'⟩ => rec (.code f rd (.loop b) ⟨r'.flush, h', d'⟩) k
      | x => k x
    | .scope b => rec (.scope f rd b b st) k
    | .exit id => k (.fin (.jmp (.exit id)) st)
    | .goto l => k (.fin (.jmp (.goto l)) st)
    | .ret => k (.fin (.jmp .ret) st)
    | .refuse _ => .fail
    | .rangeFunc x params assign body =>
      match (match rd with
        | none => some (st.h.new (.deferred (some [])), st.h.fresh :: st.d, st.h.fresh)
        | some l => match st.h.get l with
          | some (.loop _ _ _ _ _ _ _ ds) => some (st.h, st.d, ds)
          | _ => none) with
      | none => .fail
      | some (h1, d1, ds) =>
        match acallValue T.c (aeval st.r x) [.func (.yield h1.fresh) #[] #[]] (h1.new (.loop .ready none f st.r.flush params assign body ds)) with
        | some (.call g args h2) => rec (.call g args h2) fun y => match y with
          | .ret _ h3 => match h3.get h1.fresh with
            | some (.loop .busy _ _ _ _ _ _ _) => .fail
            | some (.loop _ pending fn rs ps as bd dd) =>
              match pending with
              | none => k (.fin .nrm { r := st.r, h := h3.set h1.fresh (.loop .exhausted pending fn rs ps as bd dd), d := d1 })
              | some j => rec (.code f rd j { r := st.r, h := h3.set h1.fresh (.loop .exhausted pending fn rs ps as bd dd), d := d1 }) k
            | _ => .fail
          | _ => .fail
        | _ => .fail
  | .scope f rd body cur st =>
    rec (.code f rd cur st) fun x => match x with
    | .fin (.jmp (.goto l)) st' => match findLabel body l with
      | some rest => rec (.scope f rd body rest { st' with r := st'.r.flush }) k
      | none => k (.fin (.jmp (.goto l)) st')
    | x => k x
  | .round l args h =>
    match h.get l with
    | some (.loop s _ fn rs ps as bd _) =>
      match Nat.beq args.length ps.size, s with
      | true, .ready =>
        rec (.code fn (some l) as { r := setAll rs (ps.toList.zip args), h, d := [] }) fun x => match x with
        | .fin .nrm st1 => match st1.h.get l with
          | some (.loop .ready p1 fn1 rs1 ps1 as1 bd1 dd1) =>
            rec (.code fn (some l) bd { st1 with h := st1.h.set l (.loop .busy p1 fn1 rs1 ps1 as1 bd1 dd1) }) fun y => match y with
            | .fin e st2 => match st2.h.get l with
              | some (.loop _ _ fn2 rs2 ps2 as2 bd2 dd2) =>
                match e with
                | .nrm => k (.ret (.bool true) (st2.h.set l (.loop .ready none fn2 rs2 ps2 as2 bd2 dd2)))
                | .jmp j => k (.ret (.bool false) (st2.h.set l (.loop .done (some j) fn2 rs2 ps2 as2 bd2 dd2)))
              | _ => .fail
            | _ => .fail
          | _ => .fail
        | _ => .fail
      | _, _ => .fail
    | _ => .fail
  | .call f args h =>
    match T.raw f with
    | some s => match T.pre f with
      | some p => .need (p args h) (liftO (s args h) fun x => match x with
        | (v, h') => k (.ret v h'))
      | none => liftO (s args h) fun x => match x with
        | (v, h') => k (.ret v h')
    | none => match T.c.P.funcs.toList[f]? with
      | none => .fail
      | some fn => match fn.body with
        | none => .fail
        | some body =>
          rec (.code f none body { r := enterRegs fn.ntmps args, h, d := [] }) fun x => match x with
          | .fin e st => match (match e with | .nrm => true | .jmp .ret => true | _ => false), unmark st.d st.h with
            | true, some h' => aresultsT T.c fn st.r h' fun v => k (.ret v h')
            | _, _ => .fail
          | _ => .fail

theorem agrees_evTF {T : CtxT} (G : T.Ok) {recT : RecT α} {rec : Rec} (A : Agrees recT rec) : Agrees (evTF T recT) (evF T.c rec) := by
  intro q k r hr
  unfold evTF at hr
  unfold evF
  split at hr
  · rename_i f rd cd st
    simp only
    split at hr
    · exact ⟨_, rfl, hr⟩
    · exact ⟨_, rfl, hr⟩
    · obtain ⟨⟨r', h'⟩, h1, h2⟩ := gives_evRegionT A _ _ _ _ _ _ r hr
      simp only [h1]
      exact ⟨_, rfl, h2⟩
    · obtain ⟨a, h1, h2⟩ := A _ _ _ hr
      simp only [h1]
      split at h2
      · exact A _ _ _ h2
      · rename_i hno
        split
        · rename_i heq; cases heq; exact (hno _ rfl).elim
        · exact ⟨_, rfl, h2⟩
    · split at hr
      · rename_i t ht
        simp only [ht]
        rcases runs_bool hr with ⟨h1, h2⟩ | ⟨h1, h2⟩
        · subst h1; exact A _ _ _ h2
        · subst h1; exact A _ _ _ h2
      · exact hr.elim
    · obtain ⟨a, h1, h2⟩ := A _ _ _ hr
      simp only [h1]
      split at h2
      · split at h2
        · rename_i hb; simp only [hb]; exact ⟨_, rfl, h2⟩
        · rename_i hb; simp only [hb]; exact ⟨_, rfl, h2⟩
      · rename_i hno
        split
        · rename_i heq; cases heq; exact (hno _ _ rfl).elim
        · exact ⟨_, rfl, h2⟩
    · obtain ⟨a, h1, h2⟩ := A _ _ _ hr
      simp only [h1]
      split at h2
      · exact A _ _ _ h2
      · rename_i hno
        split
        · rename_i heq; cases heq; exact (hno _ _ _ rfl).elim
        · exact ⟨_, rfl, h2⟩
    · exact A _ _ _ hr
    · exact ⟨_, rfl, hr⟩
    · exact ⟨_, rfl, hr⟩
    · exact ⟨_, rfl, hr⟩
    · exact hr.elim
    · rename_i x params assign body
      split at hr
      · exact hr.elim
      · rename_i h1 d1 ds hen
        split at hr
        · rename_i g args h2 hcv
          obtain ⟨a, h3, h4⟩ := A _ _ _ hr
          have key : ∃ a, (match acallValue T.c (aeval st.r x) [.func (.yield h1.fresh) #[] #[]] (h1.new (.loop .ready none f st.r.flush params assign body ds)) with
            | some (.call g args h2) => match rec (.call g args h2) with
              | some (.ret _ h3) => match h3.get h1.fresh with
                | some (.loop .busy _ _ _ _ _ _ _) => none
                | some (.loop _ pending fn rs ps as bd dd) =>
                  match pending with
                  | none => some (.fin .nrm { r := st.r, h := h3.set h1.fresh (.loop .exhausted pending fn rs ps as bd dd), d := d1 })
                  | some j => rec (.code f rd j { r := st.r, h := h3.set h1.fresh (.loop .exhausted pending fn rs ps as bd dd), d := d1 })
                | _ => none
              | _ => none
            | _ => none) = some a ∧ (k a).Runs r := by
            simp only [hcv, h3]
            split at h4
            · simp only
              split at h4
              · exact h4.elim
              · rename_i state pnd fn2 rs2 ps2 as2 bd2 dd2 hne hg
                cases pnd with
                | none => exact ⟨_, rfl, h4⟩
                | some j => exact A _ _ _ h4
              · exact h4.elim
            · exact h4.elim
          obtain ⟨a', h5, h6⟩ := key
          refine ⟨a', ?_, h6⟩
          rw [← h5]
          have hb : ∀ (X : Option (Heap × List Nat × Nat)) (F : Heap → List Nat → Nat → Option Ans), X = some (h1, d1, ds) → (match X with
            | none => none
            | some (h1, d1, ds) => F h1 d1 ds) = F h1 d1 ds := fun X F e => by rw [e]
          exact hb _ (fun h1 d1 ds => match acallValue T.c (aeval st.r x) [.func (.yield h1.fresh) #[] #[]] (h1.new (.loop .ready none f st.r.flush params assign body ds)) with
            | some (.call g args h2) => match rec (.call g args h2) with
              | some (.ret _ h3) => match h3.get h1.fresh with
                | some (.loop .busy _ _ _ _ _ _ _) => none
                | some (.loop _ pending fn rs ps as bd dd) =>
                  match pending with
                  | none => some (.fin .nrm { r := st.r, h := h3.set h1.fresh (.loop .exhausted pending fn rs ps as bd dd), d := d1 })
                  | some j => rec (.code f rd j { r := st.r, h := h3.set h1.fresh (.loop .exhausted pending fn rs ps as bd dd), d := d1 })
                | _ => none
              | _ => none
            | _ => none) hen
        · exact hr.elim
  · simp only
    obtain ⟨a, h1, h2⟩ := A _ _ _ hr
    simp only [h1]
    split at h2
    · split at h2
      · rename_i hl; simp only [hl]; exact A _ _ _ h2
      · rename_i hl; simp only [hl]; exact ⟨_, rfl, h2⟩
    · rename_i hno
      split
      · rename_i heq; cases heq; exact (hno _ _ rfl).elim
      · exact ⟨_, rfl, h2⟩
  · simp only
    split at hr
    · rename_i s p fn rs ps as bd dd hg
      simp only [hg]
      split at hr
      · rename_i hb
        simp only [hb]
        obtain ⟨a, h1, h2⟩ := A _ _ _ hr
        simp only [h1]
        split at h2
        · split at h2
          · rename_i hg1
            simp only [hg1]
            obtain ⟨a2, h3, h4⟩ := A _ _ _ h2
            simp only [h3]
            split at h4
            · split at h4
              · rename_i hg2
                simp only [hg2]
                split at h4
                · exact ⟨_, rfl, h4⟩
                · exact ⟨_, rfl, h4⟩
              · exact h4.elim
            · exact h4.elim
          · exact h2.elim
        · exact h2.elim
      · exact hr.elim
    · exact hr.elim
  · rename_i f args h
    simp only
    split at hr
    · rename_i s hs
      have fin : T.holds f args h → (liftO (s args h) fun x => match x with
        | (v, h') => k (.ret v h')).Runs r → ∃ a, (match T.c.sums f with
          | some s => match s args h with
            | some (v, h') => some (Ans.ret v h')
            | none => none
          | none => match T.c.P.funcs.toList[f]? with
            | none => none
            | some fn => match fn.body with
              | none => none
              | some body =>
                match rec (.code f none body { r := enterRegs fn.ntmps args, h, d := [] }) with
                | some (.fin e st) => match (match e with | .nrm => true | .jmp .ret => true | _ => false), unmark st.d st.h with
                  | true, some h' => match aresults T.c fn st.r h' with
                    | some v => some (.ret v h')
                    | none => none
                  | _, _ => none
                | _ => none) = some a ∧ (k a).Runs r := by
        intro hp hl
        obtain ⟨⟨v, h'⟩, h1, h2⟩ := runs_liftO hl
        obtain ⟨s', h3, h4⟩ := G.some f s args h v h' hs hp h1
        simp only [h3, h4]
        exact ⟨_, rfl, h2⟩
      split at hr
      · rename_i p hp
        exact fin (by unfold CtxT.holds; rw [hp]; exact hr.1) hr.2
      · rename_i hp
        exact fin (by unfold CtxT.holds; rw [hp]; trivial) hr
    · rename_i hs
      simp only [G.none f hs]
      split at hr
      · exact hr.elim
      · rename_i fn hfn
        simp only [hfn]
        split at hr
        · exact hr.elim
        · rename_i body hb
          simp only [hb]
          obtain ⟨a, h1, h2⟩ := A _ _ _ hr
          simp only [h1]
          split at h2
          · split at h2
            · rename_i hx hu
              obtain ⟨v, h3, h4⟩ := gives_aresultsT _ _ _ _ _ r h2
              split
              · rename_i e2 s2 heq
                cases heq
                split
                · rename_i hx2 hu2
                  rw [hu] at hu2; cases hu2
                  simp only [h3]
                  exact ⟨_, rfl, h4⟩
                · rename_i hno; exact (hno _ hx hu).elim
              · rename_i hno; exact (hno _ _ rfl).elim
            · exact h2.elim
          · exact h2.elim

/-- the evaluator over open terms -/
def evT (T : CtxT) (n : Nat) : RecT α :=
  Nat.rec (motive := fun _ => RecT α) (fun _ _ => .fail) (fun _ ih => evTF T ih) n
theorem evT_ok {T : CtxT} (G : T.Ok) : ∀ n, Agrees (α := α) (evT T n) (ev T.c n)
  | 0 => fun _ _ _ h => h.elim
  | n + 1 => agrees_evTF G (evT_ok G n)
end
/-- a road through a run -/
theorem evT_follow {T : CtxT} (G : T.Ok) {n : Nat} {q : Req} {o : List (Nat × Bool)} {a : Ans} {ψ : Prop} (h : Tree.follow (evT (α := Ans) T n q Tree.ret) o True = some (a, ψ)) (hψ : ψ) : ev T.c n q = some a := by
  obtain ⟨_, h1⟩ := follow_ok _ _ _ _ _ h hψ
  obtain ⟨a', h2, h3⟩ := evT_ok (α := Ans) G n q Tree.ret a h1
  have h3 : a' = a := h3
  rw [h2, h3]
end
end Go.Eng

namespace Go.Eng
open Go
noncomputable section

theorem okWide_int {P : Program} {w : World} {base : Nat} {t : TypeId} {v : Value} {k : IntKind} (hu : P.underlying t = some (.int k)) (h : Value.okWide P w .any base t v) : ∃ n, v = .int k n ∧ k.has n := by
  unfold Value.okWide at h
  rw [hu] at h
  simp only at h
  unfold Cell.okWide at h
  rw [hu] at h
  simp only at h
  unfold Cell.ok at h
  rw [hu] at h
  cases v <;> simp only at h
  exact ⟨_, by rw [h.1], h.2⟩
theorem okWide_string {P : Program} {w : World} {base : Nat} {t : TypeId} {v : Value} (hu : P.underlying t = some .string) (h : Value.okWide P w .any base t v) : ∃ s, v = .string s ∧ (s.size : Int) ≤ IntKind.i64.max := by
  unfold Value.okWide at h
  rw [hu] at h
  simp only at h
  unfold Cell.okWide at h
  rw [hu] at h
  simp only at h
  unfold Cell.ok at h
  rw [hu] at h
  cases v <;> simp only at h
  exact ⟨_, rfl, h⟩
theorem okWide_bool {P : Program} {w : World} {base : Nat} {t : TypeId} {v : Value} (hu : P.underlying t = some .bool) (h : Value.okWide P w .any base t v) : ∃ b, v = .bool b := by
  unfold Value.okWide at h
  rw [hu] at h
  simp only at h
  unfold Cell.okWide at h
  rw [hu] at h
  simp only at h
  unfold Cell.ok at h
  rw [hu] at h
  cases v <;> simp only at h
  exact ⟨_, rfl⟩

/-- what is asked of a function of the model's own -/
def externB (P : Program) (f : FuncId) : Bool := match P.funcs[f]? with
  | some fn => fn.body.isNone && !(fn.name == "runtime.NumGoroutine") && (Extern.findNext fn).isNone
  | none => false
theorem externB_ok {P : Program} {f : FuncId} (h : externB P f = true) : ∃ fn, P.funcs[f]? = some fn ∧ (fn.name == "runtime.NumGoroutine") = false ∧ fn.body.isNone = true ∧ (Extern.findNext fn).isNone = true := by
  unfold externB at h
  split at h
  · rename_i fn hfn
    simp only [Bool.and_eq_true, Bool.not_eq_true'] at h
    exact ⟨fn, hfn, h.1.2, h.1.1, h.2⟩
  · cases h
/-- which function of the model's own it is -/
def ExternIs (P : Program) (f : FuncId) (x : Func → Array Value → Sem Value) : Prop := (P.funcs[f]?).map Extern.find = (P.funcs[f]?).map fun fn => some (x fn)
theorem ExternIs.find {P : Program} {f : FuncId} {x : Func → Array Value → Sem Value} (h : ExternIs P f x) {fn : Func} (hf : P.funcs[f]? = some fn) : Extern.find fn = some (x fn) := by
  unfold ExternIs at h
  rw [hf] at h
  simpa using h
theorem good_of {c : Ctx} {W : World} {F : Nat → Prop} (hm : c.P.follows .mixedOrders = true) (hn : namesB c.P = true)
    (hs : ∀ f s, c.sums f = some s → ∀ args h v h', s args h = some (v, h') → ∀ e w args', HS ⟨c, W, F⟩ e h w → VRs e args args' →
      Invokes c.P f args'.toArray w fun v' w' => ∃ e', e.le e' ∧ VR e' v v' ∧ HS ⟨c, W, F⟩ e' h' w') : Good ⟨c, W, F⟩ where
  mixed := hm
  names := (good_plain (B := ⟨{ c with sums := fun _ => none }, W, F⟩) hm hn (fun _ => rfl)).names
  sums := hs
end
end Go.Eng

namespace Go.Eng
open Go
noncomputable section

/-- what was there is there, and more -/
theorem HS.after {B : Base} {e : Env} {h : Heap} {w w' : World} (s : HS B e h w) (hk : ∀ b, b < w.heap.size → w'.heap[b]? = w.heap[b]?) (hsz : w.heap.size ≤ w'.heap.size) (ht : w'.tape = w.tape) (ho : w'.os = w.os) (hp : w'.output = w.output) : HS B e h w' where
  live := fun n o g hx => by
    obtain ⟨b, base, κ, ob, h1, h2, h3, h4⟩ := s.live n o g hx
    refine ⟨b, base, κ, ob, h1, ?_, h3, h4⟩
    rw [hk b (Array.getElem?_eq_some_iff.1 h2).1, h2]
  inj := s.inj
  known := s.known
  pend := s.pend
  nx := s.nx
  blk := fun x hx => Nat.lt_of_lt_of_le (s.blk x hx) hsz
  size := Nat.le_trans s.size hsz
  frame := fun b hb hF => by rw [hk b (Nat.lt_of_lt_of_le hb s.size)]; exact s.frame b hb hF
  world := by rw [ht, ho, hp]; exact s.world

/-- a table's block, as it is in a heap that holds it -/
theorem HS.tab {B : Base} {e : Env} {h : Heap} {w : World} (s : HS B e h w) {g : Nat} {l : List Value} {t : TypeId} (hl : l.all plain1 = true) (hg : h.get (2 * g) = some (.cells l t (0, 0))) : w.heap[g]? = some (.cells l.toArray t (0, 0)) := by
  have hat := Env.at_even e g
  obtain ⟨b, base, κ, ob, ha, hb, hr, _⟩ := s.live _ _ hg (at_some hat)
  rw [hat] at ha; cases ha
  cases hr with
  | cells _ _ _ hv =>
    rename_i C
    rw [hb]
    have := plain1s_eq hl hv
    congr 2
    apply Array.ext'
    simpa using this
/-- are these tables in a heap? -/
def tabsIn (h : Heap) : List Tab → Bool
  | [] => true
  | (g, l, t) :: r => (match h.get (2 * g) with
    | some (.cells c t' (0, 0)) => beqL c l && Nat.beq t' t
    | _ => false) && tabsIn h r
theorem tabsIn_ok {h : Heap} : ∀ {ts : List Tab}, tabsIn h ts = true → ∀ x ∈ ts, h.get (2 * x.1) = some (.cells x.2.1 x.2.2 (0, 0))
  | [], _, x, hx => by cases hx
  | (g, l, t) :: r, hb, x, hx => by
    simp only [tabsIn, Bool.and_eq_true] at hb
    rcases List.mem_cons.1 hx with rfl | hx
    · have h1 := hb.1
      split at h1
      · rename_i c t' hg
        rw [Bool.and_eq_true] at h1
        rw [hg, beqL_eq h1.1, Nat.eq_of_beq_eq_true h1.2]
      · cases h1
    · exact tabsIn_ok hb.2 x hx

/-- a closed call that was run by itself, over tables alone, is the same beside whatever is there -/
theorem call_framed {c c2 : Ctx} (hP : c2.P = c.P) {n : Nat} {f : FuncId} {args : List Value} {v : Value} {hs' : Heap} {ts : List Tab} (hp : ∀ x ∈ ts, x.2.1.all plain1 = true)
    (hrun : ev c2 n (.call f args (startHeap ts)) = some (.ret v hs')) (hkeep : ∀ x ∈ ts, hs'.get (2 * x.1) = some (.cells x.2.1 x.2.2 (0, 0))) (hv : plain v = true)
    {W : World} {F : Nat → Prop} {e : Env} {h : Heap} {w : World} {args' : List Value} (s : HS ⟨c, W, F⟩ e h w) (ht : ∀ x ∈ ts, h.get (2 * x.1) = some (.cells x.2.1 x.2.2 (0, 0)))
    (G : Good ⟨c2, w, fun b => ∃ x ∈ ts, x.1 = b⟩) (hx : VRs [] args args') :
    Invokes c.P f args'.toArray w fun v' w' => ∃ e', e.le e' ∧ VR e' v v' ∧ HS ⟨c, W, F⟩ e' h w' := by
  have hw : ∀ x ∈ ts, w.heap[x.1]? = some (.cells x.2.1.toArray x.2.2 (0, 0)) := fun x hx => s.tab (hp x hx) (ht x hx)
  have h0 := start_tabs c2 w ts hp hw
  have := (ev_ok G n).call f args _ v hs' hrun [] w args' h0 hx
  rw [← hP]
  have fin : ∀ v' w', (∃ e', Env.le [] e' ∧ VR e' v v' ∧ HS ⟨c2, w, fun b => ∃ x ∈ ts, x.1 = b⟩ e' hs' w') → ∃ e', e.le e' ∧ VR e' v v' ∧ HS ⟨c, W, F⟩ e' h w' := by
    intro v' w' ⟨e', _, hvr, hs2⟩
    obtain ⟨_, _, _, hsz, hblk⟩ := hs2.tabs_below hp hw hkeep
    have hv' : v' = v := VR.plain_eq hv hvr
    subst hv'
    exact ⟨e, Env.le_refl _, VR.plain hv, s.after hblk hsz hs2.world.1 hs2.world.2.1 hs2.world.2.2⟩
  rcases this with ⟨v', w', h1, h2⟩ | ⟨h1, h2⟩
  · exact .inl ⟨v', w', h1, fin v' w' h2⟩
  · refine .inr ⟨h1, fun cs => ?_⟩
    obtain ⟨fr, v', w', h3, h4, h5, h6⟩ := h2 cs
    exact ⟨fr, v', w', h3, h4, h5, fin v' w' h6⟩

/-- the summary of such a call -/
def sumClosed (ts : List Tab) (v : Value) : List Value → Heap → Option (Value × Heap)
  | [], h => match tabsIn h ts with
    | true => some (v, h)
    | false => none
  | _, _ => none
theorem sumClosed_ok {c c2 : Ctx} (hP : c2.P = c.P) {n : Nat} {f : FuncId} {v : Value} {hs' : Heap} {ts : List Tab} (hp : ∀ x ∈ ts, x.2.1.all plain1 = true)
    (hrun : ev c2 n (.call f [] (startHeap ts)) = some (.ret v hs')) (hkeep : ∀ x ∈ ts, hs'.get (2 * x.1) = some (.cells x.2.1 x.2.2 (0, 0))) (hv : plain v = true)
    (G : ∀ w, Good ⟨c2, w, fun b => ∃ x ∈ ts, x.1 = b⟩) {args : List Value} {h h' : Heap} {v1 : Value} (ha : sumClosed ts v args h = some (v1, h'))
    {W : World} {F : Nat → Prop} {e : Env} {w : World} {args' : List Value} (s : HS ⟨c, W, F⟩ e h w) (hx : VRs e args args') :
    Invokes c.P f args'.toArray w fun v' w' => ∃ e', e.le e' ∧ VR e' v1 v' ∧ HS ⟨c, W, F⟩ e' h' w' := by
  unfold sumClosed at ha
  split at ha
  · split at ha
    · rename_i ht
      cases ha
      cases hx
      exact call_framed hP hp hrun hkeep hv s (tabsIn_ok ht) (G w) .nil
    · cases ha
  · cases ha

/-- what stands behind the first pieces of a row of pieces -/
def dropSeq : Nat → Code → Code
  | 0, cd => cd
  | k + 1, .seq _ b => dropSeq k b
  | _ + 1, cd => cd
/-- the first pieces -/
def evSeqs (c : Ctx) (f : FuncId) (n : Nat) : Nat → Code → St → Option St
  | 0, _, st => some st
  | k + 1, .seq a b, st => match ev c (n + k) (.code f none a st) with
    | some (.fin .nrm st') => evSeqs c f n k b st'
    | _ => none
  | _ + 1, _, _ => none
theorem evSeqs_ok {c : Ctx} {f : FuncId} {n : Nat} : ∀ {k : Nat} {cd : Code} {st st' : St} {a : Option Ans}, evSeqs c f n k cd st = some st' → ev c n (.code f none (dropSeq k cd) st') = a → ev c (n + k) (.code f none cd st) = a
  | 0, cd, st, st', a, h, g => by
    simp only [evSeqs] at h
    cases h
    exact g
  | k + 1, .seq x y, st, st', a, h, g => by
    simp only [evSeqs] at h
    split at h
    · rename_i st1 h1
      have := evSeqs_ok h g
      show evF c (ev c (n + k)) (.code f none (.seq x y) st) = a
      simp only [evF, h1]
      exact this
    · cases h
  | k + 1, .skip, _, _, _, h, _ => by simp [evSeqs] at h
  | k + 1, .label _, _, _, _, h, _ => by simp [evSeqs] at h
  | k + 1, .region .., _, _, _, h, _ => by simp [evSeqs] at h
  | k + 1, .cond .., _, _, _, h, _ => by simp [evSeqs] at h
  | k + 1, .block .., _, _, _, h, _ => by simp [evSeqs] at h
  | k + 1, .loop .., _, _, _, h, _ => by simp [evSeqs] at h
  | k + 1, .scope .., _, _, _, h, _ => by simp [evSeqs] at h
  | k + 1, .exit .., _, _, _, h, _ => by simp [evSeqs] at h
  | k + 1, .goto .., _, _, _, h, _ => by simp [evSeqs] at h
  | k + 1, .ret, _, _, _, h, _ => by simp [evSeqs] at h
  | k + 1, .refuse .., _, _, _, h, _ => by simp [evSeqs] at h
  | k + 1, .rangeFunc .., _, _, _, h, _ => by simp [evSeqs] at h
/-- a function whose body was run in two segments -/
theorem call_two {c : Ctx} {f : FuncId} {fn : Func} {body : Code} {n k : Nat} {h : Heap} {st1 st2 : St} {v : Value} {h2 : Heap} (hs : c.sums f = none) (hf : c.P.funcs.toList[f]? = some fn) (hb : fn.body = some body)
    (h1 : evSeqs c f n k body { r := enterRegs fn.ntmps [], h, d := [] } = some st1) (h3 : ev c n (.code f none (dropSeq k body) st1) = some (.fin (.jmp .ret) st2)) (hu : unmark st2.d st2.h = some h2)
    (hr : aresults c fn st2.r h2 = some v) : ev c (n + k + 1) (.call f [] h) = some (.ret v h2) := by
  have := evSeqs_ok h1 h3
  show evF c (ev c (n + k)) (.call f [] h) = _
  simp only [evF, hs, hf, hb, this, hu, hr]
end
end Go.Eng

namespace Go.Eng
open Go
noncomputable section

def conj (l : List Prop) : Prop := l.foldl (· ∧ ·) True
def plainC (P : Program) : Ctx := { P, sums := fun _ => none }
def plainT (P : Program) : CtxT := ⟨plainC P, fun _ => none, fun _ => none⟩
theorem plainT_ok (P : Program) : (plainT P).Ok := ⟨fun _ _ => rfl, fun f s _ _ _ _ h => by cases h⟩
/-- the value that a call answers -/
def getV : Ans → Tree Value
  | .ret v _ => .ret v
  | _ => .fail
theorem road_val {T : CtxT} (G : T.Ok) {n : Nat} {q : Req} {o : List (Nat × Bool)} {v : Value} {ψ : Prop} (h : Tree.follow (evT T n q getV) o True = some (v, ψ)) (hψ : ψ) : ∃ h', ev T.c n q = some (.ret v h') := by
  obtain ⟨_, h1⟩ := Tree.follow_ok _ _ _ _ _ h hψ
  obtain ⟨a, h2, h3⟩ := evT_ok (α := Value) G n q getV v h1
  cases a with
  | fin e st => exact h3.elim
  | ret v' h' =>
    have h3 : v' = v := h3
    subst h3
    exact ⟨h', h2⟩

theorem VRs.plain_eq {e : Env} : ∀ {l m : List Value}, l.all Eng.plain1 = true → VRs e l m → m = l := fun h g => plain1s_eq h g
/-- a function that makes nothing of what is there: by its runs over nothing -/
theorem sum_of_ev {c c2 : Ctx} (hP : c2.P = c.P) {f : FuncId} {s : List Value → Heap → Option (Value × Heap)}
    (hs : ∀ args h v h', s args h = some (v, h') → h' = h ∧ plain v = true ∧ args.all plain1 = true ∧ ∃ n hs', ev c2 n (.call f args Heap.empty) = some (.ret v hs'))
    (G : ∀ w, Good ⟨c2, w, fun _ => False⟩) {args : List Value} {h h' : Heap} {v : Value} (ha : s args h = some (v, h'))
    {W : World} {F : Nat → Prop} {e : Env} {w : World} {args' : List Value} (s0 : HS ⟨c, W, F⟩ e h w) (hx : VRs e args args') :
    Invokes c.P f args'.toArray w fun v' w' => ∃ e', e.le e' ∧ VR e' v v' ∧ HS ⟨c, W, F⟩ e' h' w' := by
  obtain ⟨rfl, hv, hp, n, hs', hrun⟩ := hs args h v h' ha
  have := VRs.plain_eq hp hx
  subst this
  have G' : Good ⟨c2, w, fun b => ∃ x ∈ ([] : List Tab), x.1 = b⟩ := by
    have : (fun b => ∃ x ∈ ([] : List Tab), x.1 = b) = fun _ : Nat => False := by funext b; simp
    rw [this]; exact G w
  exact call_framed (ts := []) hP (fun x hx => by cases hx) hrun (fun x hx => by cases hx) hv s0 (fun x hx => by cases hx) G' (VRs.plain hp)

/-- which of two numbers is ahead -/
def cmpInt (x y : Int) : Int := if x < y then -1 else if x > y then 1 else 0
def sumCmp : List Value → Heap → Option (Value × Heap)
  | [.int .i64 x, .int .i64 y], h => some (.int .i64 (cmpInt x y), h)
  | _, _ => none
def CmpRoads (P : Program) (f : FuncId) : Prop := ∀ x y : Int,
  Tree.follow (evT (plainT P) 100 (.call f [.int .i64 x, .int .i64 y] Heap.empty) getV) [(0, false), (0, false), (0, true)] True = some (.int .i64 (-1), conj [(x != x) = false, (y != y) = false, decide (x < y) = true]) ∧
  Tree.follow (evT (plainT P) 100 (.call f [.int .i64 x, .int .i64 y] Heap.empty) getV) [(0, false), (0, false), (0, false), (0, true)] True = some (.int .i64 1, conj [(x != x) = false, (y != y) = false, decide (x < y) = false, decide (x > y) = true]) ∧
  Tree.follow (evT (plainT P) 100 (.call f [.int .i64 x, .int .i64 y] Heap.empty) getV) [(0, false), (0, false), (0, false), (0, false)] True = some (.int .i64 0, conj [(x != x) = false, (y != y) = false, decide (x < y) = false, decide (x > y) = false])
theorem sumCmp_runs {P : Program} {f : FuncId} (R : CmpRoads P f) : ∀ args h v h', sumCmp args h = some (v, h') → h' = h ∧ plain v = true ∧ args.all plain1 = true ∧ ∃ n hs', ev (plainC P) n (.call f args Heap.empty) = some (.ret v hs') := by
  intro args h v h' hs
  unfold sumCmp at hs
  split at hs
  · rename_i x y
    cases hs
    refine ⟨rfl, rfl, rfl, 100, ?_⟩
    obtain ⟨r1, r2, r3⟩ := R x y
    unfold cmpInt
    by_cases h1 : x < y
    · rw [if_pos h1]
      exact road_val (plainT_ok P) r1 (by simp [conj, h1])
    · rw [if_neg h1]
      by_cases h2 : x > y
      · rw [if_pos h2]
        exact road_val (plainT_ok P) r2 (by simp only [conj, List.foldl]; simp [h1, h2])
      · rw [if_neg h2]
        exact road_val (plainT_ok P) r3 (by simp only [conj, List.foldl]; simp [h1, h2])
  · cases hs

/-- one byte of a masked address -/
def goMask (b : UInt8) (l : Int) : UInt8 :=
  UInt8.ofNat (IntKind.u8.wrap ((BitVec.ofInt 8 (b.toNat : Int) &&& BitVec.ofInt 8 (IntKind.u8.wrap (Int.fdiv 65280 (2 ^ min l.toNat 16)))).toNat : Int)).toNat
def goLeft (bits : Int) (i : Int) : Int := if (if 8 < IntKind.i64.wrap (bits - i) then 8 else IntKind.i64.wrap (bits - i)) < 0 then 0 else if 8 < IntKind.i64.wrap (bits - i) then 8 else IntKind.i64.wrap (bits - i)
theorem goLeft_nn (bits i : Int) : ¬ goLeft bits i < 0 := by
  unfold goLeft
  generalize IntKind.i64.wrap (bits - i) = x
  by_cases h : (if 8 < x then 8 else x) < 0
  · rw [if_pos h]; omega
  · rw [if_neg h]; exact h
def sumMask4 : List Value → Heap → Option (Value × Heap)
  | [.string s, .int .i64 bits], h => match s.data.toList with
    | [b0, b1, b2, b3] => if 0 ≤ bits ∧ bits ≤ 32 then some (.tuple #[.string ⟨#[goMask b0 (goLeft bits 0), goMask b1 (goLeft bits 8), goMask b2 (goLeft bits 16), goMask b3 (goLeft bits 24)]⟩, .int .i64 0], h) else none
    | _ => none
  | _, _ => none
def MaskRoad (P : Program) (f : FuncId) : Prop := ∀ (b0 b1 b2 b3 : UInt8) (bits : Int),
  Tree.follow (evT (plainT P) 100 (.call f [.string ⟨#[b0, b1, b2, b3]⟩, .int .i64 bits] Heap.empty) getV) [(7, false), (0, false), (0, false), (0, false), (0, false), (0, false), (0, false), (4, true), (7, true), (7, true), (7, true)] True =
  some (.tuple #[.string ⟨#[goMask b0 (goLeft bits 0), goMask b1 (goLeft bits 8), goMask b2 (goLeft bits 16), goMask b3 (goLeft bits 24)]⟩, .int .i64 0],
    conj [decide (bits < 0) = false, decide (bits < 0) = false, decide (bits < 0) = false, decide (bits < 0) = false, decide (bits < 0) = false, decide (bits < 0) = false, decide (bits > 32) = false,
      decide (¬ goLeft bits 0 < 0) = true, decide (¬ goLeft bits 8 < 0) = true, decide (¬ goLeft bits 16 < 0) = true, decide (¬ goLeft bits 24 < 0) = true])
theorem sumMask4_runs {P : Program} {f : FuncId} (R : MaskRoad P f) : ∀ args h v h', sumMask4 args h = some (v, h') → h' = h ∧ plain v = true ∧ args.all plain1 = true ∧ ∃ n hs', ev (plainC P) n (.call f args Heap.empty) = some (.ret v hs') := by
  intro args h v h' hs
  unfold sumMask4 at hs
  split at hs
  · rename_i s bits
    split at hs
    · rename_i b0 b1 b2 b3 hl
      split at hs
      · rename_i hb
        cases hs
        obtain ⟨⟨l⟩⟩ := s
        have hl : l = [b0, b1, b2, b3] := hl
        subst hl
        refine ⟨rfl, rfl, rfl, 100, road_val (plainT_ok P) (R b0 b1 b2 b3 bits) ?_⟩
        have h1 : ¬ bits < 0 := by omega
        have h2 : ¬ bits > 32 := by omega
        simp only [conj, List.foldl, decide_eq_false h1, decide_eq_false h2, decide_eq_true (goLeft_nn bits 0), decide_eq_true (goLeft_nn bits 8), decide_eq_true (goLeft_nn bits 16), decide_eq_true (goLeft_nn bits 24), and_self]
      · cases hs
    · cases hs
  · cases hs

/-- which of two texts is ahead -/
def cmpTxt (a b : ByteArray) : Int := if Op.bytesLess a.data.toList b.data.toList = true then -1 else if (!(Op.bytesLess a.data.toList b.data.toList || a.data.toList == b.data.toList)) = true then 1 else 0
def cmpAddr (a b : ByteArray) : Int := if cmpInt a.size b.size = 0 then cmpTxt a b else cmpInt a.size b.size
def sumAddrCmp : List Value → Heap → Option (Value × Heap)
  | [.string a, .string b], h => some (.int .i64 (cmpAddr a b), h)
  | _, _ => none
inductive Ord3 where
  | lt | gt | eq
def Ord3.val : Ord3 → Int
  | .lt => -1 | .gt => 1 | .eq => 0
def Ord3.road : Ord3 → List (Nat × Bool)
  | .lt => [(0, true)] | .gt => [(0, false), (0, true)] | .eq => [(0, false), (0, false)]
def Ord3.cond (l g : Bool) : Ord3 → List Prop
  | .lt => [l = true] | .gt => [l = false, g = true] | .eq => [l = false, g = false]
def Ord3.both : Ord3 → Ord3 → Int
  | .lt, _ => -1 | .gt, _ => 1 | .eq, o => o.val
def AddrCmpRoads (P : Program) (f : FuncId) : Prop := ∀ (a b : ByteArray) (x y : Ord3),
  Tree.follow (evT (plainT P) 100 (.call f [.string a, .string b] Heap.empty) getV) ([(0, false), (0, false)] ++ x.road ++ [(0, false), (0, false)] ++ y.road) True =
  some (.int .i64 (x.both y), conj ([((a.size : Int) != (a.size : Int)) = false, ((b.size : Int) != (b.size : Int)) = false] ++ x.cond (decide ((a.size : Int) < (b.size : Int))) (decide ((a.size : Int) > (b.size : Int))) ++
    [(!(a.data.toList == a.data.toList)) = false, (!(b.data.toList == b.data.toList)) = false] ++ y.cond (Op.bytesLess a.data.toList b.data.toList) (!(Op.bytesLess a.data.toList b.data.toList || a.data.toList == b.data.toList))))
theorem conj_of : ∀ (l : List Prop), (∀ p ∈ l, p) → ∀ q : Prop, q → l.foldl (· ∧ ·) q
  | [], _, _, hq => hq
  | p :: l, h, q, hq => conj_of l (fun x hx => h x (by simp [hx])) (q ∧ p) ⟨hq, h p (by simp)⟩
theorem conj_mk (l : List Prop) (h : ∀ p ∈ l, p) : conj l := conj_of l h True trivial
theorem sumAddrCmp_runs {P : Program} {f : FuncId} (R : AddrCmpRoads P f) : ∀ args h v h', sumAddrCmp args h = some (v, h') → h' = h ∧ plain v = true ∧ args.all plain1 = true ∧ ∃ n hs', ev (plainC P) n (.call f args Heap.empty) = some (.ret v hs') := by
  intro args h v h' hs
  unfold sumAddrCmp at hs
  split at hs
  · rename_i a b
    cases hs
    refine ⟨rfl, rfl, rfl, 100, ?_⟩
    have main : ∀ (x y : Ord3), (∀ p ∈ x.cond (decide ((a.size : Int) < (b.size : Int))) (decide ((a.size : Int) > (b.size : Int))), p) →
        (∀ p ∈ y.cond (Op.bytesLess a.data.toList b.data.toList) (!(Op.bytesLess a.data.toList b.data.toList || a.data.toList == b.data.toList)), p) → x.both y = cmpAddr a b →
        ∃ hs', ev (plainC P) 100 (.call f [.string a, .string b] Heap.empty) = some (.ret (.int .i64 (cmpAddr a b)) hs') := by
      intro x y hx hy e
      rw [← e]
      refine road_val (plainT_ok P) (R a b x y) (conj_mk _ fun p hp => ?_)
      simp only [List.mem_append, List.mem_cons, List.not_mem_nil, or_false] at hp
      rcases hp with ((hp | hp) | hp) | hp
      · rcases hp with rfl | rfl <;> simp
      · exact hx p hp
      · rcases hp with rfl | rfl <;> simp
      · exact hy p hp
    have hy : ∃ y : Ord3, (∀ p ∈ y.cond (Op.bytesLess a.data.toList b.data.toList) (!(Op.bytesLess a.data.toList b.data.toList || a.data.toList == b.data.toList)), p) ∧ y.val = cmpTxt a b := by
      unfold cmpTxt
      cases h1 : Op.bytesLess a.data.toList b.data.toList with
      | true => exact ⟨.lt, by simp [Ord3.cond], by simp [Ord3.val]⟩
      | false =>
        cases h2 : (a.data.toList == b.data.toList) with
        | true => exact ⟨.eq, by simp [Ord3.cond], by simp [Ord3.val]⟩
        | false => exact ⟨.gt, by simp [Ord3.cond], by simp [Ord3.val]⟩
    obtain ⟨y, hy, hyv⟩ := hy
    unfold cmpAddr cmpInt at main
    unfold cmpAddr cmpInt
    by_cases h1 : (a.size : Int) < (b.size : Int)
    · exact main .lt y (fun p hp => by simp only [Ord3.cond, List.mem_singleton] at hp; subst hp; exact decide_eq_true h1) hy (by rw [if_pos h1]; rfl)
    · by_cases h2 : (a.size : Int) > (b.size : Int)
      · exact main .gt y (fun p hp => by simp only [Ord3.cond, List.mem_cons, List.not_mem_nil, or_false] at hp; rcases hp with rfl | rfl; exact decide_eq_false h1; exact decide_eq_true h2) hy (by rw [if_neg h1, if_pos h2]; rfl)
      · exact main .eq y (fun p hp => by simp only [Ord3.cond, List.mem_cons, List.not_mem_nil, or_false] at hp; rcases hp with rfl | rfl; exact decide_eq_false h1; exact decide_eq_false h2) hy (by rw [if_neg h1, if_neg h2]; exact hyv)
  · cases hs
end
end Go.Eng
