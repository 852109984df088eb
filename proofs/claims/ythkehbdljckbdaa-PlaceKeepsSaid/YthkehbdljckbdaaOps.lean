/- The machine's operations against the pure evaluator's: numbers, strings, tests; nothing of the heap turns. -/
import Derived.Test.YthkehbdljckbdaaHeap
import Derived.Test.YthkehbdljckbdaaComp
import Derived.Laws.Entries
set_option linter.unusedVariables false
set_option linter.unusedSimpArgs false
namespace Go.Pev
open Go Go.RowKit

def ExecTo (P : Program) (o : Oper) (a : Act) (w : World) (v : Value) (w' : World) : Prop :=
  (execOp a.eval o).run P w = .ok (.value v) w' ∨ ((execOp a.eval o).run P w = .ok .skip w' ∧ v = undef)

theorem ExecTo.wp {P : Program} {o : Oper} {a : Act} {w w' : World} {v : Value} {next : Act → World → Prop} {Q : Exit → Act → World → Prop} (h : ExecTo P o a w v w') (hn : next (a.put o.dst v) w') : o.wp P a w next Q := by
  unfold Oper.wp
  rcases h with h | ⟨h, e⟩
  · rw [h]; exact hn
  · rw [h]; subst e; exact hn

/-- What an operation does: its value, and the heap behind it. -/
def Out (P : Program) (o : Oper) (a : Act) (R : Rl) (w : World) (hp : HP) (dn : Nat → Prop) (me : Nat) (r : V) (hp' : HP) (ck' : Nat) : Prop :=
  ∀ (next : Act → World → Prop) (Q : Exit → Act → World → Prop), (∀ v w' R', RepV R' w' v r → Grow R w hp R' w' hp' → HInv R' w' hp' ck' (plus dn me) → next (a.put o.dst v) w') → o.wp P a w next Q

theorem Out.of {P : Program} {o : Oper} {a : Act} {R : Rl} {w : World} {hp hp' : HP} {dn : Nat → Prop} {me ck' : Nat} {r : V} (v : Value) (w' : World) (R' : Rl) (h1 : ExecTo P o a w v w') (h2 : RepV R' w' v r) (h3 : Grow R w hp R' w' hp') (h4 : HInv R' w' hp' ck' (plus dn me)) :
    Out P o a R w hp dn me r hp' ck' := fun next Q hn => h1.wp (hn v w' R' h2 h3 h4)

/-- Nothing turns. -/
theorem Out.pure {P : Program} {o : Oper} {a : Act} {R : Rl} {w : World} {hp : HP} {dn : Nat → Prop} {me ck : Nat} {r : V} (hi : HInv R w hp ck dn) (v : Value) (h1 : (execOp a.eval o).run P w = .ok (.value v) w) (h2 : RepV R w v r) :
    Out P o a R w hp dn me r hp ck := Out.of v w R (.inl h1) h2 (Grow.refl _ _ _) (hi.plus me)

/-! ### values -/
section
variable {R : Rl} {w : World} {v : Value}
theorem repV_i {k : IntKind} {n : Int} (h : RepV R w v (.t (.i k n))) : v = .int k n := by cases h with | t h => cases h; rfl
theorem repV_b {b : Bool} (h : RepV R w v (.t (.b b))) : v = .bool b := by cases h with | t h => cases h; rfl
theorem repV_s {s : List UInt8} (h : RepV R w v (.t (.s s))) : ∃ x : ByteArray, v = .string x ∧ x.data.toList = s := by cases h with | t h => cases h with | s x y h => exact ⟨x, rfl, h⟩
theorem repV_ud (h : RepV R w v .ud) : v = undef := by cases h; rfl
theorem repV_isInt {x : V} {n : Int} (h : RepV R w v x) (hx : isInt x = some n) : ∃ k, v = .int k n := by
  cases x with
  | t x => cases x with
    | i k m => simp [isInt] at hx; subst hx; exact ⟨k, repV_i h⟩
    | _ => simp [isInt] at hx
  | _ => simp [isInt] at hx

theorem constC_rep {c : Value} {x : V} (h : constC c = some x) : RepV R w c x ∧ c.oneCell' = true := by
  unfold constC at h
  split at h <;> first
    | (simp at h; subst h; refine ⟨?_, rfl⟩; first | exact .t (.b _) | exact .t (.i _ _) | exact .t (.s _ _ rfl) | exact .nl | exact .t .np | exact .t .ni)
    | (simp at h)
theorem constCs_rep : ∀ (cs : List Value) (xs : List V), constCs cs = some xs → cs.length = xs.length ∧ ∀ j v, xs[j]? = some v → RepV R w (cs.getD j undef) v ∧ (cs.getD j undef).oneCell' = true
  | [], xs, h => by simp [constCs] at h; subst h; simp
  | c :: r, xs, h => by
    simp only [constCs] at h
    cases h1 : constC c with
    | none => simp [h1] at h
    | some x =>
      cases h2 : constCs r with
      | none => simp [h1, h2] at h
      | some ys =>
        simp [h1, h2] at h
        subst h
        obtain ⟨hl, hr⟩ := constCs_rep r ys h2
        refine ⟨by simp [hl], fun j v hj => ?_⟩
        cases j with
        | zero => simp at hj; subst hj; simpa using constC_rep h1
        | succ j => simp at hj; simpa using hr j v hj
theorem arr_getD (arr : Array Value) (j : Nat) (d : Value) : arr.toList.getD j d = arr.getD j d := by simp [List.getD_eq_getElem?_getD, Array.getD_eq_getD_getElem?]
theorem constV_rep {c : Value} {x : V} (h : constV c = some x) : RepV R w c x := by
  unfold constV at h
  split at h
  · rename_i cs
    cases h1 : constCs cs.toList with
    | none => simp [h1] at h
    | some xs =>
      simp [h1] at h
      subst h
      obtain ⟨hl, hr⟩ := constCs_rep (R := R) (w := w) cs.toList xs h1
      have hl' : cs.size = xs.length := by simpa using hl
      refine .ag cs xs hl' (fun j hj => ?_) (fun j v hv => ?_)
      · have := (hr j _ (List.getElem?_eq_getElem (by omega))).2
        rwa [arr_getD] at this
      · have := (hr j v hv).1
        rwa [arr_getD] at this
  · exact (constC_rep h).1
end

/-- The frame's slots. -/
def EnvRep (R : Rl) (w : World) (a : Act) (e : Env) : Prop := ∀ t, RepV R w (a.tmps.getD t undef) (e.get t)

theorem opd_rep {R : Rl} {w : World} {a : Act} {e : Env} (he : EnvRep R w a e) {x : Operand} {y : Opd} (h : compOpd x = some y) : RepV R w (a.eval x) (y.ev e) := by
  cases x with
  | tmp t => simp [compOpd] at h; subst h; exact he t
  | const v =>
    simp only [compOpd] at h
    cases h1 : constV v with
    | none => simp [h1] at h
    | some z => simp [h1] at h; subst h; exact constV_rep h1
  | func f => simp [compOpd] at h; subst h; exact .fn f #[] [] rfl (by simp)
  | global g => simp [compOpd] at h
theorem opds_rep {R : Rl} {w : World} {a : Act} {e : Env} (he : EnvRep R w a e) : ∀ (xs : List Operand) (ys : List Opd), compOpds xs = some ys → (xs.map a.eval).length = (ys.map (·.ev e)).length ∧ ∀ j v, (ys.map (·.ev e))[j]? = some v → RepV R w ((xs.map a.eval).getD j undef) v
  | [], ys, h => by simp [compOpds] at h; subst h; simp
  | x :: r, ys, h => by
    simp only [compOpds] at h
    cases h1 : compOpd x with
    | none => simp [h1] at h
    | some y =>
      cases h2 : compOpds r with
      | none => simp [h1, h2] at h
      | some zs =>
        simp [h1, h2] at h
        subst h
        obtain ⟨hl, hr⟩ := opds_rep he r zs h2
        refine ⟨by simpa using hl, fun j v hj => ?_⟩
        cases j with
        | zero => simp at hj; subst hj; simpa using opd_rep he h1
        | succ j => simp only [List.map_cons, List.getElem?_cons_succ] at hj; simpa using hr j v hj

/-! ### the operations that turn nothing -/
section
variable {P : Program} {o : Oper} {a : Act} {R : Rl} {w : World} {hp : HP} {dn : Nat → Prop} {me ck : Nat} {e : Env}

theorem mv_out (hi : HInv R w hp ck dn) (he : EnvRep R w a e) {x : Operand} {y : Opd} (ho : o.op = .move x ∨ o.op = .assign x) (hx : compOpd x = some y) : Out P o a R w hp dn me (y.ev e) hp ck := by
  refine Out.pure hi (a.eval x) ?_ (opd_rep he hx)
  rcases ho with ho | ho <;> simp [execOp, ho]

theorem pick_out (hi : HInv R w hp ck dn) (he : EnvRep R w a e) {c x y : Operand} {c' x' y' : Opd} (ho : o.op = .pick c x y) (hc : compOpd c = some c') (hx : compOpd x = some x') (hy : compOpd y = some y') {r : V} (hr : pick (c'.ev e) (x'.ev e) (y'.ev e) = some r) : Out P o a R w hp dn me r hp ck := by
  have rc := opd_rep he hc
  have rx := opd_rep he hx
  have ry := opd_rep he hy
  unfold pick at hr
  split at hr
  · rename_i h1
    rw [h1] at rc
    simp at hr
    subst hr
    refine Out.pure hi (a.eval x) ?_ rx
    simp [execOp, ho, repV_b rc, asBool]
  · rename_i h1
    rw [h1] at rc
    simp at hr
    subst hr
    refine Out.pure hi (a.eval y) ?_ ry
    simp [execOp, ho, repV_b rc, asBool]
  · simp at hr

theorem toList_loop (x : ByteArray) : ∀ (d i : Nat) (r : List UInt8), x.size - i = d → ByteArray.toList.loop x i r = r.reverse ++ x.data.toList.drop i
  | 0, i, r, h => by
    unfold ByteArray.toList.loop
    rw [if_neg (by omega), List.drop_of_length_le (by rw [Array.length_toList]; exact Nat.le_of_sub_eq_zero h)]
    simp
  | d + 1, i, r, h => by
    unfold ByteArray.toList.loop
    have hi : i < x.size := by omega
    have hi' : i < x.data.toList.length := by rw [Array.length_toList]; exact hi
    rw [if_pos hi, toList_loop x d (i + 1) _ (by omega), List.drop_eq_getElem_cons hi']
    have : x.get! i = x.data.toList[i] := by
      show x.data[i]! = _
      rw [getElem!_pos x.data i hi]
      simp
    simp [this]
theorem toList_eq (x : ByteArray) : x.toList = x.data.toList := by
  unfold ByteArray.toList
  rw [toList_loop x x.size 0 [] (by omega)]
  simp

theorem bytesLess_eq : ∀ x y, Op.bytesLess x y = bytesLess x y
  | _, [] => by cases ‹List UInt8› <;> simp [Op.bytesLess, bytesLess]
  | [], _ :: _ => by simp [Op.bytesLess, bytesLess]
  | a :: x, b :: y => by simp [Op.bytesLess, bytesLess, bytesLess_eq x y]

theorem bin_run {op : BinOp} {t : TypeId} {x y : V} {u v : Value} (hu : RepV R w u x) (hv : RepV R w v y) {r : V} (hr : bin op x y = some r) (xo yo : Operand) :
    ∃ z, (do eqGuard op t xo yo u v; binOp op t u v : Sem Value).run P w = .ok z w ∧ RepV R w z r := by
  unfold bin at hr
  split at hr
  · rename_i k m k' n
    have := repV_i hu
    have := repV_i hv
    subst u v
    by_cases hs : isShift op = true
    · rw [if_pos hs] at hr
      unfold shiftI at hr
      by_cases hn : n < 0
      · simp [hn] at hr
      · rw [if_neg hn] at hr
        cases op <;> simp [isShift] at hs <;> simp at hr <;> subst hr <;> refine ⟨_, ?_, .t (.i _ _)⟩ <;> simp [eqGuard, binOp, Op.shift, hn]
    · rw [if_neg hs] at hr
      by_cases hk : k = k'
      · subst hk
        rw [if_pos rfl] at hr
        cases op <;> simp [isShift] at hs <;> simp only [binI] at hr <;> first
          | (simp at hr; subst hr; refine ⟨_, ?_, .t (.i _ _)⟩; simp [eqGuard, binOp, Op.intArith, Op.intBits]; done)
          | (simp at hr; subst hr; refine ⟨_, ?_, .t (.b _)⟩; simp [eqGuard, binOp, Op.intCmp]; done)
          | (by_cases hn : n = 0
             · simp [hn] at hr
             · rw [if_neg hn] at hr
               simp at hr; subst hr; refine ⟨_, ?_, .t (.i _ _)⟩; simp [eqGuard, binOp, Op.intDiv, hn])
      · rw [if_neg hk] at hr
        cases hr
  · rename_i s s'
    obtain ⟨x1, rfl, h1⟩ := repV_s hu
    obtain ⟨x2, rfl, h2⟩ := repV_s hv
    have e1 : x1.toList = s := (toList_eq x1).trans h1
    have e2 : x2.toList = s' := (toList_eq x2).trans h2
    have l1 : x1.size = s.length := by rw [← h1, Array.length_toList]; rfl
    have l2 : x2.size = s'.length := by rw [← h2, Array.length_toList]; rfl
    cases op <;> simp only [binS] at hr <;> first
      | (cases hr; done)
      | (simp at hr; subst hr; refine ⟨_, ?_, .t (.b _)⟩; simp [eqGuard, binOp, Op.stringOp, e1, e2, bytesLess_eq]; done)
      | (by_cases hn : (s.length : Int) + s'.length > i64max
         · simp [hn] at hr
         · rw [if_neg hn] at hr
           simp at hr
           subst hr
           have hn' : ¬ ((x1.size : Int) + (x2.size : Int) > IntKind.i64.max) := by rw [l1, l2]; exact hn
           refine ⟨.string (x1 ++ x2), ?_, .t (.s _ _ ?_)⟩
           · have hn2 : ¬ (IntKind.i64.max < (x1.size : Int) + (x2.size : Int)) := hn'
             have hn3 : (x1.size : Int) + (x2.size : Int) ≤ 9223372036854775807 := by rw [l1, l2]; unfold i64max at hn; omega
             simp [eqGuard, binOp, Op.stringOp, hn2, hn3]
           · rw [← h1, ← h2]; simp)
  · cases hr

theorem bin_out (hi : HInv R w hp ck dn) (he : EnvRep R w a e) {op : BinOp} {t u : TypeId} {d : TypeDesc} {x y : Operand} {x' y' : Opd} (ho : o.op = .binOp op t x y u) (hd : P.underlying t = some d) (hok : (match d with | .int _ => true | .string => true | _ => false) = true)
    (hx : compOpd x = some x') (hy : compOpd y = some y') {r : V} (hr : bin op (x'.ev e) (y'.ev e) = some r) : Out P o a R w hp dn me r hp ck := by
  obtain ⟨z, h1, h2⟩ := bin_run (P := P) (opd_rep he hx) (opd_rep he hy) hr (t := t) x y
  exact Out.pure hi z (by simp only [execOp, ho]; rw [Sem.run_bind, h1]; rfl) h2

theorem equal_bool {t : TypeId} (hd : P.underlying t = some .bool) (x y : Bool) : (Op.equal t (.bool x) (.bool y)).run P w = .ok (x == y) w := by
  have : Op.equal t (.bool x) (.bool y) = Op.equalIn (9999 + 1) t (.bool x) (.bool y) := rfl
  rw [this]
  generalize 9999 = n
  simp [Op.equalIn, run_underlying hd]

theorem beq_out (hi : HInv R w hp ck dn) (he : EnvRep R w a e) {neg : Bool} {t u : TypeId} {x y : Operand} {x' y' : Opd} (ho : o.op = .binOp (if neg then .neq else .eql) t x y u) (hd : P.underlying t = some .bool)
    (hx : compOpd x = some x') (hy : compOpd y = some y') {r : V} (hr : beq neg (x'.ev e) (y'.ev e) = some r) : Out P o a R w hp dn me r hp ck := by
  have rx := opd_rep he hx
  have ry := opd_rep he hy
  unfold beq at hr
  split at hr
  · rename_i b b' h1 h2
    rw [h1] at rx
    rw [h2] at ry
    cases hr
    refine Out.pure hi (.bool (if neg then !(b == b') else b == b')) ?_ (.t (.b _))
    cases neg <;> simp [execOp, ho, repV_b rx, repV_b ry, eqGuard, binOp, equal_bool hd]
  · cases hr
end
end Go.Pev
