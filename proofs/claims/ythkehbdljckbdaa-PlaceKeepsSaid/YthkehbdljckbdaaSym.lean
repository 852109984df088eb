/- Rules for reckoning with the pure evaluator by simp. -/
import Derived.Test.YthkehbdljckbdaaLim
set_option linter.unusedVariables false
set_option linter.unusedSimpArgs false
namespace Go.Pev
open Go

section
variable {C : Cfg} {run : Run}
/-- Binding; simp reckons what is bound, and not yet what comes behind. -/
def bnd {α β : Type} (x : Option α) (k : α → Option β) : Option β := x.bind k
theorem bnd_some {α β : Type} (a : α) (k : α → Option β) : bnd (some a) k = k a := id rfl
@[congr] theorem bnd_congr {α β : Type} {x y : Option α} (k : α → Option β) (h : x = y) : bnd x k = bnd y k := by rw [h]
@[congr] theorem evOps_congr {qs : List (Nat × Pop)} {s s' : St} (h : s = s') : evOps C run qs s = evOps C run qs s' := by rw [h]
@[congr] theorem evL_congr {c : Pc} {s s' : St} (h : s = s') : evL C c s = evL C c s' := by rw [h]
@[congr] theorem thenC_congr {x y : Option (Ex × St)} {k : St → Option (Ex × St)} (h : x = y) : thenC x k = thenC y k := by rw [h]
theorem evL_rg (ops : List (Nat × Pop)) (k kh : List Nat) (s : St) : evL C (.reg ops k kh) s = bnd (evOps C (runL C) ops s) fun s' => some (.normal, endReg k kh s') := evL_reg ops k kh s
theorem evOps_nil (s : St) : evOps C run [] s = some s := id rfl
theorem evOps_c (i : Nat) (p : Pop) (qs : List (Nat × Pop)) (s : St) : evOps C run ((i, p) :: qs) s = bnd (evG C run i p s) fun r => evOps C run qs ⟨putD s.env p.dst r.1, r.2.1, r.2.2⟩ := by
  simp only [evOps, evOp, bnd]
  cases evG C run i p s <;> rfl
theorem evG_none (i : Nat) (d : Option Nat) (p : Po) (s : St) : evG C run i ⟨d, p, none⟩ s = evPo C run (d.getD 0) i s p := id rfl
/-- By a guard's value. -/
def gcase {α : Type} (v : V) (b : Bool) (x y : Option α) : Option α := match v with
  | .t (.b c) => if c = b then x else y
  | .ud => y
  | _ => none
@[congr] theorem gcase_congr {α : Type} {v v' : V} {b : Bool} {x y : Option α} (h : v = v') : gcase v b x y = gcase v' b x y := by rw [h]
theorem gcase_tt {α : Type} (x y : Option α) : gcase (.t (.b true)) true x y = x := id rfl
theorem gcase_tf {α : Type} (x y : Option α) : gcase (.t (.b true)) false x y = y := id rfl
theorem gcase_ft {α : Type} (x y : Option α) : gcase (.t (.b false)) true x y = y := id rfl
theorem gcase_ff {α : Type} (x y : Option α) : gcase (.t (.b false)) false x y = x := id rfl
theorem gcase_ud {α : Type} (b : Bool) (x y : Option α) : gcase .ud b x y = y := id rfl
theorem evG_some (i : Nat) (d : Option Nat) (p : Po) (t : Nat) (b : Bool) (s : St) : evG C run i ⟨d, p, some (t, b)⟩ s = gcase (s.env.get t) b (evPo C run (d.getD 0) i s p) (some (.ud, s.hp, s.ck)) := by
  simp only [evG, gcase]
  generalize s.env.get t = v
  cases v with
  | t x => cases x <;> rfl
  | _ => rfl
/-- By a condition's value. -/
def brc {α : Type} (v : V) (x y : Option α) : Option α := match v with
  | .t (.b true) => x
  | .t (.b false) => y
  | _ => none
@[congr] theorem brc_congr {α : Type} {v v' : V} {x y : Option α} (h : v = v') : brc v x y = brc v' x y := by rw [h]
theorem brc_t {α : Type} (x y : Option α) : brc (.t (.b true)) x y = x := id rfl
theorem brc_f {α : Type} (x y : Option α) : brc (.t (.b false)) x y = y := id rfl
theorem evL_cd (x : Opd) (a b : Pc) (s : St) : evL C (.cond x a b) s = brc (x.ev s.env) (evL C a s) (evL C b s) := by
  rw [evL_cond]
  rfl
theorem thenC_n (s : St) (k : St → Option (Ex × St)) : thenC (some (.normal, s)) k = k s := id rfl
theorem thenC_e (eid : Nat) (s : St) (k : St → Option (Ex × St)) : thenC (some (.exit eid, s)) k = some (.exit eid, s) := id rfl
theorem thenC_r (s : St) (k : St → Option (Ex × St)) : thenC (some (.ret, s)) k = some (.ret, s) := id rfl
theorem blockC_n (eid : Nat) (s : St) : blockC eid (some (.normal, s)) = some (.normal, s) := id rfl
theorem blockC_r (eid : Nat) (s : St) : blockC eid (some (.ret, s)) = some (.ret, s) := id rfl
theorem blockC_e (eid i : Nat) (s : St) : blockC eid (some (.exit i, s)) = if i = eid then some (.normal, s) else some (.exit i, s) := id rfl
theorem putD_s (e : Env) (d : Nat) (v : V) : putD e (some d) v = e.put d v := id rfl
theorem putD_n (e : Env) (v : V) : putD e none v = e := id rfl
theorem envput (e : Env) (t : Nat) (v : V) : Env.put e t v = (t, v) :: e := id rfl
theorem envget_cons (t' : Nat) (v' : V) (r : Env) (t : Nat) : Env.get ((t', v') :: r) t = if t' = t then v' else Env.get r t := id rfl
theorem hpget_cons (k' : Key) (o' : Ob) (r : HP) (k : Key) : HP.get ((k', o') :: r) k = if k' = k then some o' else HP.get r k := id rfl
theorem hpput_cons (k' : Key) (o' : Ob) (r : HP) (k k2 : Key) (o : Ob) : HP.put ((k', o') :: r) k k2 o = if k' = k then (k2, o) :: r else (k', o') :: HP.put r k k2 o := id rfl
theorem keep_nil (e : Env) : Env.keep [] e = [] := id rfl
theorem keep_cons (t : Nat) (ts : List Nat) (e : Env) : Env.keep (t :: ts) e = (t, e.get t) :: Env.keep ts e := id rfl
theorem endReg_e (k kh : List Nat) (s : St) : endReg k kh s = ⟨Env.keep k s.env, s.hp.filter (fun p => !kh.contains p.1.s), s.ck + 1⟩ := id rfl
end

/-- The clone of a row, as the library has it. -/
def clo0 (ty sz : Nat) : List (Nat × Pop) := [(0, ⟨some 2, .nilv ty sz, none⟩)]
def clo1 : List (Nat × Pop) := [(0, ⟨some 3, .mv (.tmp 0), none⟩), (1, ⟨some 4, .isnilS false (.tmp 3), none⟩)]
def clo3 (ty sz by_ : Nat) : List (Nat × Pop) := [(0, ⟨some 5, .bslO ty sz [], none⟩), (1, ⟨some 6, .mv (.tmp 0), none⟩), (2, ⟨some 7, .app ty sz by_ (.tmp 5) (.tmp 6), none⟩), (3, ⟨some 2, .mv (.tmp 7), none⟩)]
def clob (ty sz by_ : Nat) : Pc := .seq (.reg (clo0 ty sz) [0] [2, 5, 7]) (.seq (.seq (.reg clo1 [0, 4] []) (.cond (.tmp 4) (.seq (.reg (clo0 ty sz) [2] []) .ret) .skip)) (.seq (.reg (clo3 ty sz by_) [2] []) .ret))
def cloF (ty sz by_ : Nat) : Pfn := ⟨1, 8, [.tmp 2], clob ty sz by_⟩

theorem clo_nil (C : Cfg) (ty sz by_ : Nat) (v : V) (hv : v = .nl ∨ v = .nz) (ck : Nat) : runFn (evL C) (cloF ty sz by_) [v] [] ck = some (.ow ⟨2, ck + 2, 0⟩ sz 0 0, [(⟨2, ck + 2, 0⟩, .row ty sz [] false)], ck + 3) := by
  rcases hv with rfl | rfl <;>
  simp [runFn, cloF, clob, clo0, clo1, clo3, evL_seq, evL_rg, bnd_some, evL_cd, brc_t, brc_f, evL_ret, evL_skip, evOps_nil, evOps_c, evG_none, evPo, Opd.ev, thenC_n, thenC_r, putD_s, envput, envget_cons, endReg_e, keep_nil, keep_cons, envOf, isNilS, results, resultsL, results1]

theorem clo_els (C : Cfg) (ty sz by_ : Nat) (v : V) (xs : List (List T)) (hv : isNilS false v = some (.t (.b false))) (hx : ∀ h, elsOf h sz v = some xs) (hb : xs.length * by_ ≤ 140737488355328) (hb0 : 0 < by_) (ck : Nat) : runFn (evL C) (cloF ty sz by_) [v] [] ck = some (.ow ⟨5, ck + 2, 2⟩ sz 0 xs.length, [(⟨5, ck + 2, 2⟩, .row ty sz xs false)], ck + 3) := by
  simp [runFn, cloF, clob, clo0, clo1, clo3, evL_seq, evL_rg, bnd_some, evL_cd, brc_t, brc_f, evL_ret, evL_skip, evOps_nil, evOps_c, evG_none, evPo, Opd.ev, thenC_n, thenC_r, putD_s, envput, envget_cons, endReg_e, keep_nil, keep_cons, envOf, hv, results, resultsL, results1, rowsOf, keysOfs, freezeAll, app, hx, hpget_cons, hpput_cons, hb, hb0]
end Go.Pev
