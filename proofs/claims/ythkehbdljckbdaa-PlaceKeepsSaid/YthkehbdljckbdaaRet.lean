/- What a function tells, for its callers. -/
import Derived.Test.YthkehbdljckbdaaSym
import Derived.IntWalk
set_option linter.unusedVariables false
set_option linter.unusedSimpArgs false
namespace Go.Pev
open Go

/-- The function tells x (as trees), whatever else it made. -/
def RetT (C : Cfg) (f : Nat) (args : List V) (x : V) : Prop := ∃ r h c, runL C f args [] 0 = some (r, h, c) ∧ resOf h r = some x
/-- It hands on a row of its own. -/
def RetO (C : Cfg) (f : Nat) (args : List V) (ty sz : Nat) (els : List (List T)) : Prop := ∃ k h c, runL C f args [] 0 = some (.ow k sz 0 els.length, h, c) ∧ h.get k = some (.row ty sz els false)

theorem RetT.of {C : Cfg} {f : Nat} {args : List V} {x : T} (h : ∃ h c, runL C f args [] 0 = some (.t x, h, c)) : RetT C f args (.t x) := by
  obtain ⟨h, c, h1⟩ := h
  exact ⟨_, h, c, h1, rfl⟩

section
variable {C : Cfg}
theorem callPure_ret {f : Nat} {ps : List V} {x : V} (h : RetT C f ps x) : ∃ r h', callPure (runL C) f ps = some (r, h') ∧ resOf h' r = some x := by
  obtain ⟨r, h', c, h1, h2⟩ := h
  exact ⟨r, h', by unfold callPure; rw [h1], h2⟩

theorem callEv_t {f : Nat} {args ps : List V} {s : St} {k : Key} {x : V} (hm : C.hpm f = false) (ho : C.own f = false) (hps : puresOf s.hp args = some ps) (h : RetT C f ps x) (hk : flatV x = true ∨ args.flatMap (keysOf s.hp) = []) : callEv C (runL C) f args s k = some (x, s.hp, s.ck) := by
  obtain ⟨r, h', h1, h2⟩ := callPure_ret h
  unfold callEv
  simp only [hm, Bool.false_eq_true, if_false, hps, h1, ho, h2]
  rcases hk with hk | hk
  · simp [hk]
  · simp [hk, freezeAll]

theorem callEv_k {f : Nat} {args ps : List V} {s : St} {k : Key} {x : V} (hm : C.hpm f = false) (ho : C.own f = false) (hps : puresOf s.hp args = some ps) (h : RetT C f ps x) (hk : flatV x = false) : callEv C (runL C) f args s k = some (x, freezeAll s.hp (args.flatMap (keysOf s.hp)), s.ck) := by
  obtain ⟨r, h', h1, h2⟩ := callPure_ret h
  unfold callEv
  simp only [hm, Bool.false_eq_true, if_false, hps, h1, ho, h2]
  simp [hk]

theorem callEv_o {f : Nat} {args ps : List V} {s : St} {k : Key} {ty sz : Nat} {els : List (List T)} (hm : C.hpm f = false) (ho : C.own f = true) (hps : puresOf s.hp args = some ps) (h : RetO C f ps ty sz els) : callEv C (runL C) f args s k = some (.ow k sz 0 els.length, (k, .row ty sz els false) :: freezeAll s.hp (args.flatMap (keysOf s.hp)), s.ck) := by
  obtain ⟨q, h', c, h1, h2⟩ := h
  unfold callEv callPure
  simp [hm, hps, h1, ho, h2]

theorem callQ_t {f : Nat} {args ps : List V} {h : HP} {x : V} (hps : puresOf h args = some ps) (hr : RetT C f ps x) (hk : flatV x = true ∨ args.flatMap (keysOf h) = []) : callQ (runL C) f args h = some x := by
  obtain ⟨r, h', h1, h2⟩ := callPure_ret hr
  unfold callQ
  simp only [hps, h1, h2]
  rcases hk with hk | hk <;> simp [hk]

/-- A call whose result is a row of its own, of plain cells. -/
theorem callQ_o {f : Nat} {args ps : List V} {h : HP} {ty sz : Nat} {els : List (List T)} (hps : puresOf h args = some ps) (hr : RetO C f ps ty sz els) (hk : (els.all fun c => c.all flatT) = true) : callQ (runL C) f args h = some (.t (.l els)) := by
  obtain ⟨q, h', c, h1, h2⟩ := hr
  have h3 : treeOf h' (.ow q sz 0 els.length) = some (.l els) := by simp [treeOf, h2]
  have h4 : freshR h' (.ow q sz 0 els.length) = true := by simp only [freshR, h2, hk]
  unfold callQ callPure
  simp only [hps, h1, resOf, resOf1, h3, h4, Option.map_some, Bool.or_true, if_true]
theorem RetO.tree {f : Nat} {args : List V} {ty sz : Nat} {els : List (List T)} (h : RetO C f args ty sz els) : RetT C f args (.t (.l els)) := by
  obtain ⟨q, h', c, h1, h2⟩ := h
  refine ⟨_, h', c, h1, ?_⟩
  have h3 : treeOf h' (.ow q sz 0 els.length) = some (.l els) := by simp [treeOf, h2]
  simp only [resOf, resOf1, h3, Option.map_some]

def isTr1 : V → Bool
  | .t _ => true
  | _ => false
def isTr : V → Bool
  | .t _ => true
  | .ag cs => cs.all isTr1
  | _ => false
theorem treesOf_tr (h : HP) : ∀ {cs : List V}, cs.all isTr1 = true → (∃ ts, treesOf h cs = some ts ∧ ts.map .t = cs) ∧ cs.flatMap (keysOf1 h) = []
  | [], _ => ⟨⟨[], rfl, rfl⟩, rfl⟩
  | c :: cs, hc => by
    simp only [List.all_cons, Bool.and_eq_true] at hc
    obtain ⟨⟨ts, h1, h2⟩, h3⟩ := treesOf_tr h hc.2
    cases c <;> simp [isTr1] at hc
    rename_i x
    exact ⟨⟨x :: ts, by simp [treesOf, treeOf, h1], by simp [h2]⟩, by simp [keysOf1, h3]⟩
theorem puresOf_tr (h : HP) : ∀ {args : List V}, args.all isTr = true → puresOf h args = some args ∧ args.flatMap (keysOf h) = []
  | [], _ => ⟨rfl, rfl⟩
  | a :: args, ha => by
    simp only [List.all_cons, Bool.and_eq_true] at ha
    obtain ⟨h1, h2⟩ := puresOf_tr h ha.2
    cases a <;> simp [isTr] at ha
    · exact ⟨by simp [puresOf, pureOf, h1], by simp [keysOf, h2]⟩
    · rename_i cs
      obtain ⟨⟨ts, t1, t2⟩, t3⟩ := treesOf_tr h (cs := cs) (List.all_eq_true.2 ha.1)
      exact ⟨by simp [puresOf, pureOf, h1, t1, t2], by simp [keysOf, h2, t3]⟩

/-- A call that is handed trees alone. -/
theorem callEv_tr {f : Nat} {args : List V} {x : V} (h : RetT C f args x) (hm : C.hpm f = false) (ho : C.own f = false) (ha : args.all isTr = true) (s : St) (k : Key) : callEv C (runL C) f args s k = some (x, s.hp, s.ck) :=
  callEv_t hm ho (puresOf_tr s.hp ha).1 h (.inr (puresOf_tr s.hp ha).2)
theorem callEv_tro {f : Nat} {args : List V} {ty sz : Nat} {els : List (List T)} (h : RetO C f args ty sz els) (hm : C.hpm f = false) (ho : C.own f = true) (ha : args.all isTr = true) (s : St) (k : Key) : callEv C (runL C) f args s k = some (.ow k sz 0 els.length, (k, .row ty sz els false) :: s.hp, s.ck) := by
  rw [callEv_o hm ho (puresOf_tr s.hp ha).1 h, (puresOf_tr s.hp ha).2]
  rfl
theorem callO_tr {f : Nat} {args : List V} {ty sz : Nat} {els : List (List T)} (h : RetO C f args ty sz els) (hm : C.hpm f = false) (ho : C.own f = true) (ha : args.all isTr = true) (hp : HP) (k : Key) : callO C (runL C) f args hp k = some (.ow k sz 0 els.length, .row ty sz els false) := by
  obtain ⟨q, h', c, h1, h2⟩ := h
  unfold callO callPure
  simp [(puresOf_tr hp ha).1, (puresOf_tr hp ha).2, h1, h2, hm, ho]
theorem callQ_tr {f : Nat} {args : List V} {x : V} (h : RetT C f args x) (ha : args.all isTr = true) (hp : HP) : callQ (runL C) f args hp = some x :=
  callQ_t (puresOf_tr hp ha).1 h (.inr (puresOf_tr hp ha).2)

theorem evL_loop_n {c : Pc} {s s1 : St} (h : evL C c s = some (.normal, s1)) : evL C (.loop c) s = evL C (.loop c) s1 := by
  rw [evL_loop, h]; rfl
theorem evL_loop_x {c : Pc} {s s1 : St} {e : Ex} (h : evL C c s = some (e, s1)) (he : e ≠ .normal) : evL C (.loop c) s = some (e, s1) := by
  rw [evL_loop, h]
  cases e with
  | normal => exact absurd rfl he
  | exit id => rfl
  | ret => rfl
end

theorem RetT.of_tu {C : Cfg} {f : Nat} {args : List V} {x : List T} (h : ∃ h c, runL C f args [] 0 = some (.tu (x.map .t), h, c)) : RetT C f args (.tu (x.map .t)) := by
  obtain ⟨h, c, h1⟩ := h
  refine ⟨_, h, c, h1, ?_⟩
  have : resOfs h (x.map .t) = some (x.map .t) := by
    clear h1
    induction x with
    | nil => rfl
    | cons a x ih => simp [resOfs, resOf1, ih]
  simp [resOf, this]

/-- A row of one's own that is handed on, as a tree. -/
theorem treeOf_ow {h : HP} {k : Key} {ty sz n : Nat} {els : List (List T)} {fz : Bool} (hg : h.get k = some (.row ty sz els fz)) (hn : els.length = n) : treeOf h (.ow k sz 0 n) = some (.l els) := by
  subst hn
  simp [treeOf, hg]
theorem pureOf_ow {h : HP} {k : Key} {ty sz n : Nat} {els : List (List T)} {fz : Bool} (hg : h.get k = some (.row ty sz els fz)) (hn : els.length = n) : pureOf h (.ow k sz 0 n) = some (.t (.l els)) := by
  show (treeOf h (.ow k sz 0 n)).map V.t = _
  rw [treeOf_ow hg hn]
  rfl
section
variable {C : Cfg}
/-- A call that is run on the caller's heap. -/
theorem callEv_h {f : Nat} {args : List V} {s : St} {r : V} {h' : HP} {c' : Nat} (hm : C.hpm f = true) (h : runL C f args s.hp (s.ck + 1) = some (r, h', c')) (k : Key) : callEv C (runL C) f args s k = some (r, h', c' + 1) := by
  unfold callEv
  rw [if_pos hm, h]
/-- A call whose one argument is a part of a row of one's own, up to its end; it hands on a row. -/
theorem callEv_owo {f : Nat} {k : Key} {ty sz ty2 sz2 off n : Nat} {els els2 : List (List T)} {fz : Bool} (h : RetO C f [.t (.l (els.drop off))] ty2 sz2 els2) (hn : off + n = els.length) (hm : C.hpm f = false) (ho : C.own f = true) (s : St) (k' : Key) (hg : s.hp.get k = some (.row ty sz els fz)) : callEv C (runL C) f [.ow k sz off n] s k' = some (.ow k' sz2 0 els2.length, (k', .row ty2 sz2 els2 false) :: freezeAll s.hp [k], s.ck) := by
  have hp : puresOf s.hp [.ow k sz off n] = some [.t (.l (els.drop off))] := by
    have : (els.drop off).take n = els.drop off := List.take_of_length_le (by simp; omega)
    have h1 : off + n ≤ els.length := by omega
    simp [puresOf, pureOf, treeOf, hg, h1, this]
  exact callEv_o hm ho hp h
/-- A call whose first argument is a row of one's own; what it tells may lead there. -/
theorem callEv_owk {f : Nat} {args : List V} {x : V} {k : Key} {ty sz n : Nat} {els : List (List T)} {fz : Bool} (h : RetT C f (.t (.l els) :: args) x) (hn : els.length = n) (hm : C.hpm f = false) (ho : C.own f = false) (ha : args.all isTr = true) (hx : flatV x = false) (s : St) (k' : Key) (hg : s.hp.get k = some (.row ty sz els fz)) : callEv C (runL C) f (.ow k sz 0 n :: args) s k' = some (x, freezeAll s.hp [k], s.ck) := by
  rw [callEv_k hm ho (by rw [puresOf, pureOf_ow hg hn, (puresOf_tr s.hp ha).1]) h hx, List.flatMap_cons, (puresOf_tr s.hp ha).2]
  rfl
/-- A call whose first argument is a row of one's own; what it tells leads nowhere. -/
theorem callEv_ow {f : Nat} {args : List V} {x : V} {k : Key} {ty sz n : Nat} {els : List (List T)} {fz : Bool} (h : RetT C f (.t (.l els) :: args) x) (hn : els.length = n) (hm : C.hpm f = false) (ho : C.own f = false) (ha : args.all isTr = true) (hx : flatV x = true) (s : St) (k' : Key) (hg : s.hp.get k = some (.row ty sz els fz)) : callEv C (runL C) f (.ow k sz 0 n :: args) s k' = some (x, s.hp, s.ck) :=
  callEv_t hm ho (by rw [puresOf, pureOf_ow hg hn, (puresOf_tr s.hp ha).1]) h (.inl hx)
end

/-- A slice of ints. -/
def iv (n : Int) : V := .t (.i .i64 n)
def bv (b : Bool) : V := .t (.b b)
def il (l : List Int) : T := .l (l.map fun n => [.i .i64 n])

theorem il_len (l : List Int) : (l.map fun n : Int => ([.i .i64 n] : List T)).length = l.length := by simp
theorem il_get (l : List Int) (i : Nat) : (l.map fun n : Int => ([.i .i64 n] : List T))[i]? = (l[i]?).map fun n => [.i .i64 n] := by simp
theorem ixS_il {l : List Int} {i : Nat} (h : i < l.length) : ixS 1 (.t (.l (l.map fun n : Int => [.i .i64 n]))) (.t (.i .i64 (i : Int))) = some (.pr [.i .i64 l[i]]) := by
  simp [ixS, isInt, h]
theorem contains_at {l : List Int} {i : Nat} {x : Int} (h : i < l.length) (hx : l[i] = x) : (l.drop i).contains x = true := by
  rw [List.drop_eq_getElem_cons h, List.contains_cons, hx]
  simp
theorem contains_not {l : List Int} {i : Nat} {x : Int} (h : i < l.length) (hx : ¬ l[i] = x) : (l.drop i).contains x = (l.drop (i + 1)).contains x := by
  have hx' : ¬ x = l[i] := fun e => hx e.symm
  rw [List.drop_eq_getElem_cons h, List.contains_cons]
  have : (x == l[i]) = false := by simpa using hx'
  rw [this, Bool.false_or]
theorem wrap_id {n : Int} (h1 : -9223372036854775808 ≤ n) (h2 : n ≤ 9223372036854775807) : IntKind.i64.wrap n = n := IntWalk.i64_in _ (by omega)

def ixC (sz : Nat) (c : Option (List T)) : Option V := match c with
  | some c => if c.length = sz then some (.pr c) else none
  | none => none
def ixB (b : Option UInt8) : Option V := match b with
  | some b => some (.t (.i .u8 b.toNat))
  | none => none

/-! ### single operations, as rules -/
section
variable (k : IntKind) (x y : Int) (a b : List UInt8) (p q : Bool)
theorem bin_add : bin .add (.t (.i k x)) (.t (.i k y)) = some (.t (.i k (k.wrap (x + y)))) := by simp [bin, isShift, binI]
theorem bin_sub : bin .sub (.t (.i k x)) (.t (.i k y)) = some (.t (.i k (k.wrap (x - y)))) := by simp [bin, isShift, binI]
theorem bin_mul : bin .mul (.t (.i k x)) (.t (.i k y)) = some (.t (.i k (k.wrap (x * y)))) := by simp [bin, isShift, binI]
theorem bin_quo : bin .quo (.t (.i k x)) (.t (.i k y)) = if y = 0 then none else some (.t (.i k (k.wrap (x.tdiv y)))) := by simp [bin, isShift, binI]
theorem bin_rem : bin .rem (.t (.i k x)) (.t (.i k y)) = if y = 0 then none else some (.t (.i k (x.tmod y))) := by simp [bin, isShift, binI]
theorem bin_and : bin .and (.t (.i k x)) (.t (.i k y)) = some (.t (.i k (k.wrap (BitVec.ofInt k.bits x &&& BitVec.ofInt k.bits y).toNat))) := by simp [bin, isShift, binI]
theorem bin_or : bin .or (.t (.i k x)) (.t (.i k y)) = some (.t (.i k (k.wrap (BitVec.ofInt k.bits x ||| BitVec.ofInt k.bits y).toNat))) := by simp [bin, isShift, binI]
theorem bin_xor : bin .xor (.t (.i k x)) (.t (.i k y)) = some (.t (.i k (k.wrap (BitVec.ofInt k.bits x ^^^ BitVec.ofInt k.bits y).toNat))) := by simp [bin, isShift, binI]
theorem bin_andNot : bin .andNot (.t (.i k x)) (.t (.i k y)) = some (.t (.i k (k.wrap (BitVec.ofInt k.bits x &&& ~~~ BitVec.ofInt k.bits y).toNat))) := by simp [bin, isShift, binI]
theorem bin_eql : bin .eql (.t (.i k x)) (.t (.i k y)) = some (.t (.b (x == y))) := by simp [bin, isShift, binI]
theorem bin_neq : bin .neq (.t (.i k x)) (.t (.i k y)) = some (.t (.b (x != y))) := by simp [bin, isShift, binI]
theorem bin_lss : bin .lss (.t (.i k x)) (.t (.i k y)) = some (.t (.b (decide (x < y)))) := by simp [bin, isShift, binI]
theorem bin_leq : bin .leq (.t (.i k x)) (.t (.i k y)) = some (.t (.b (decide (x ≤ y)))) := by simp [bin, isShift, binI]
theorem bin_gtr : bin .gtr (.t (.i k x)) (.t (.i k y)) = some (.t (.b (decide (y < x)))) := by simp [bin, isShift, binI]
theorem bin_geq : bin .geq (.t (.i k x)) (.t (.i k y)) = some (.t (.b (decide (y ≤ x)))) := by simp [bin, isShift, binI]
theorem bin_shl (k' : IntKind) : bin .shl (.t (.i k x)) (.t (.i k' y)) = shiftI .shl k x y := by simp [bin, isShift]
theorem bin_shr (k' : IntKind) : bin .shr (.t (.i k x)) (.t (.i k' y)) = shiftI .shr k x y := by simp [bin, isShift]
theorem bin_str (o : BinOp) : bin o (.t (.s a)) (.t (.s b)) = binS o a b := id rfl
theorem beq_bb (n : Bool) : beq n (.t (.b p)) (.t (.b q)) = some (.t (.b (if n then !(p == q) else p == q))) := id rfl
theorem pick_t (u v : V) : pick (.t (.b true)) u v = some u := id rfl
theorem pick_f (u v : V) : pick (.t (.b false)) u v = some v := id rfl
theorem un_not : un .not (.t (.b p)) = some (.t (.b (!p))) := id rfl
theorem un_neg : un .neg (.t (.i k x)) = some (.t (.i k (k.wrap (0 - x)))) := id rfl
theorem cvi_i (k' : IntKind) : cvi k' (.t (.i k x)) = some (.t (.i k' (k'.wrap x))) := id rfl
theorem len_t (xs : List (List T)) : len (.t (.l xs)) = some (.t (.i .i64 xs.length)) := id rfl
theorem len_ow (q : Key) (s o n : Nat) : len (.ow q s o n) = some (.t (.i .i64 n)) := id rfl
theorem len_nl : len .nl = some (.t (.i .i64 0)) := id rfl
theorem lenS_s : lenS (.t (.s a)) = some (.t (.i .i64 a.length)) := id rfl
theorem nilI_n (n : Bool) : isNilI n (.t .ni) = some (.t (.b (!n))) := id rfl
theorem nilI_e (n : Bool) : isNilI n (.t .er) = some (.t (.b n)) := id rfl
theorem nilP_n (n : Bool) : isNilP n (.t .np) = some (.t (.b (!n))) := id rfl
theorem nilP_p (n : Bool) (q : Key) (s i j : Nat) : isNilP n (.pt q s i j) = some (.t (.b n)) := id rfl
theorem ext_t (n : Nat) (vs : List V) : ext n (.tu vs) = vs[n]? := id rfl
theorem fad_pt (o : Nat) (q : Key) (s i j : Nat) : fad o (.pt q s i j) = some (.pt q s i (j + o)) := id rfl
theorem fad_pr (o : Nat) (cs : List T) : fad o (.pr cs) = some (.pr (cs.drop o)) := id rfl
theorem fld_ag (g : Bool) (o n : Nat) (cs : List V) : fld g o n (.ag cs) = loadOf g n (cs.drop o) := id rfl
theorem ixS_t (sz : Nat) (xs : List (List T)) : ixS sz (.t (.l xs)) (.t (.i k x)) = if 0 ≤ x then ixC sz (xs[x.toNat]?) else none := by
  simp only [ixS, isInt, ixC]
  split
  · split <;> simp_all
  · rfl
theorem ixS_ow (sz s o n : Nat) (q : Key) : ixS sz (.ow q s o n) (.t (.i k x)) = if 0 ≤ x ∧ s = sz ∧ x < n then some (.pt q sz (o + x.toNat) 0) else none := by
  simp only [ixS, isInt]
  by_cases h : 0 ≤ x <;> simp [h]
theorem ixs_s : ixs (.t (.s a)) (.t (.i k x)) = if 0 ≤ x then ixB (a[x.toNat]?) else none := by
  simp only [ixs, isInt, ixB]
  split
  · split <;> simp_all
  · rfl
end

attribute [simp] gcase_tt gcase_tf gcase_ft gcase_ff gcase_ud brc_t brc_f bin_add bin_sub bin_mul bin_quo bin_rem bin_and bin_or bin_xor bin_andNot bin_eql bin_neq bin_lss bin_leq bin_gtr bin_geq bin_shl bin_shr bin_str beq_bb pick_t pick_f un_not un_neg cvi_i len_t len_ow len_nl lenS_s nilI_n nilI_e nilP_n nilP_p ext_t fad_pt fad_pr fld_ag ixS_t ixS_ow ixs_s ixC ixB
attribute [simp] bnd_some evL_seq evL_rg evL_cd evL_ret evL_skip evL_exit evL_block evOps_nil evOps_c evG_none evG_some evPo Opd.ev thenC_n thenC_r thenC_e blockC_n blockC_r blockC_e putD_s putD_n envput envget_cons endReg_e keep_nil keep_cons
attribute [simp] hpget_cons hpput_cons binS shiftI isNilS loadOf load store ixA ixV isInt bound slS sls opt cells results resultsL results1 iv bv il envOf runFn
end Go.Pev
