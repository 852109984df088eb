/- The machine's operations against the pure evaluator's: cuts, lengths, tests for nil, values that are built. -/
import Derived.Test.YthkehbdljckbdaaOps2
set_option linter.unusedVariables false
set_option linter.unusedSimpArgs false
namespace Go.Pev
open Go Go.RowKit

section
variable {P : Program} {o : Oper} {a : Act} {R : Rl} {w : World} {hp : HP} {dn : Nat → Prop} {me ck : Nat} {e : Env}

theorem equal_nilI {t : TypeId} {ms : Array (String × TypeId)} (hd : P.underlying t = some (.interface ms)) : (Op.equal t .nilIface .nilIface).run P w = .ok true w ∧ ∀ q v, (Op.equal t (.iface q v) .nilIface).run P w = .ok false w := by
  refine ⟨?_, fun q v => ?_⟩
  · have : Op.equal t .nilIface .nilIface = Op.equalIn (9999 + 1) t .nilIface .nilIface := rfl
    rw [this]
    generalize 9999 = n
    simp [Op.equalIn, run_underlying hd]
  · have : Op.equal t (.iface q v) .nilIface = Op.equalIn (9999 + 1) t (.iface q v) .nilIface := rfl
    rw [this]
    generalize 9999 = n
    simp [Op.equalIn, run_underlying hd]
theorem equal_nilP {t q : TypeId} (hd : P.underlying t = some (.pointer q)) : (Op.equal t (.pointer none) (.pointer none)).run P w = .ok true w ∧ ∀ ad, (Op.equal t (.pointer (some ad)) (.pointer none)).run P w = .ok false w := by
  refine ⟨?_, fun ad => ?_⟩
  · have : Op.equal t (.pointer none) (.pointer none) = Op.equalIn (9999 + 1) t (.pointer none) (.pointer none) := rfl
    rw [this]
    generalize 9999 = n
    simp [Op.equalIn, run_underlying hd]
  · have : Op.equal t (.pointer (some ad)) (.pointer none) = Op.equalIn (9999 + 1) t (.pointer (some ad)) (.pointer none) := rfl
    rw [this]
    generalize 9999 = n
    simp [Op.equalIn, run_underlying hd]

theorem isnilI_out (hi : HInv R w hp ck dn) (he : EnvRep R w a e) {neg : Bool} {t u : TypeId} {ms : Array (String × TypeId)} {x : Operand} {x' : Opd} (ho : o.op = .binOp (if neg then .neq else .eql) t x (.const .nilIface) u) (hd : P.underlying t = some (.interface ms))
    (hx : compOpd x = some x') {r : V} (hr : isNilI neg (x'.ev e) = some r) : Out P o a R w hp dn me r hp ck := by
  have rx := opd_rep he hx
  obtain ⟨e1, e2⟩ := equal_nilI (P := P) (w := w) hd
  have hcc : a.eval (.const .nilIface) = .nilIface := rfl
  unfold isNilI at hr
  split at hr
  · rename_i h1
    rw [h1] at rx
    cases hr
    have hv : a.eval x = .nilIface := by generalize a.eval x = z at rx; cases repV_tl rx; rfl
    refine Out.pure hi (.bool (!neg)) ?_ (.t (.b _))
    cases neg <;> cases x <;> simp [execOp, ho, hv, hcc, eqGuard, binOp, e1]
  · rename_i h1
    rw [h1] at rx
    cases hr
    obtain ⟨q, v, hv⟩ : ∃ q v, a.eval x = .iface q v := by generalize a.eval x = z at rx; cases repV_tl rx; exact ⟨_, _, rfl⟩
    refine Out.pure hi (.bool neg) ?_ (.t (.b _))
    cases neg <;> simp [execOp, ho, hv, hcc, eqGuard, binOp, e2]
  · cases hr

theorem equal_nilS {t q : TypeId} (hd : P.underlying t = some (.slice q)) (A : Option Addr) (n c : Nat) : (Op.equal t (.slice A n c) (.slice none 0 0)).run P w = .ok A.isNone w := by
  have : Op.equal t (.slice A n c) (.slice none 0 0) = Op.equalIn (9999 + 1) t (.slice A n c) (.slice none 0 0) := rfl
  rw [this]
  generalize 9999 = n
  cases A <;> simp [Op.equalIn, run_underlying hd]

theorem isnilS_out (hi : HInv R w hp ck dn) (he : EnvRep R w a e) {neg : Bool} {t u q : TypeId} {x : Operand} {x' : Opd} (ho : o.op = .binOp (if neg then .neq else .eql) t x (.const (.slice none 0 0)) u) (hd : P.underlying t = some (.slice q))
    (hx : compOpd x = some x') {r : V} (hr : isNilS neg (x'.ev e) = some r) : Out P o a R w hp dn me r hp ck := by
  have rx := opd_rep he hx
  have hcc : a.eval (.const (.slice none 0 0)) = .slice none 0 0 := rfl
  have hrun : ∀ A n c, a.eval x = .slice A n c → (execOp a.eval o).run P w = .ok (.value (.bool (if neg then !A.isNone else A.isNone))) w := by
    intro A n c hv
    have e1 := equal_nilS (P := P) (w := w) hd A n c
    cases neg <;> simp [execOp, ho, hv, hcc, eqGuard, binOp, e1]
  have hyes : ∀ n c, a.eval x = .slice none n c → Out P o a R w hp dn me (.t (.b (!neg))) hp ck := by
    intro n c hv
    refine Out.pure hi _ (hrun none n c hv) ?_
    cases neg <;> exact .t (.b _)
  have hno : ∀ A n c, a.eval x = .slice (some A) n c → Out P o a R w hp dn me (.t (.b neg)) hp ck := by
    intro A n c hv
    refine Out.pure hi _ (hrun (some A) n c hv) ?_
    cases neg <;> exact .t (.b _)
  unfold isNilS at hr
  split at hr
  · rename_i h1
    rw [h1] at rx
    cases hr
    obtain ⟨n, c, hv⟩ : ∃ n c, a.eval x = .slice none n c := by generalize a.eval x = z at rx; cases rx; exact ⟨_, _, rfl⟩
    exact hyes _ _ hv
  · rename_i h1
    rw [h1] at rx
    cases hr
    obtain ⟨n, c, hv⟩ : ∃ n c, a.eval x = .slice none n c := by generalize a.eval x = z at rx; cases rx; exact ⟨_, _, rfl⟩
    exact hyes _ _ hv
  · rename_i h1
    rw [h1] at rx
    cases hr
    obtain ⟨A, n, c, hv⟩ : ∃ A n c, a.eval x = .slice (some A) n c := by generalize a.eval x = z at rx; cases rx; exact ⟨_, _, _, rfl⟩
    exact hno _ _ _ hv
  · rename_i y ys h1
    rw [h1] at rx
    cases hr
    obtain ⟨A, c, sz, g, q', f, hv, _, _, hA, _⟩ := repT_l0 (repV_tl rx)
    rw [hA (by simp)] at hv
    exact hno _ _ _ hv
  · rename_i k sz off n h1
    rw [h1] at rx
    cases hr
    rcases repV_ow rx with ⟨g, tot, A, cap, hv, _, hl, _, hA⟩ | ⟨_, _, _, h0⟩
    · rw [hA (by omega)] at hv
      exact hno _ _ _ hv
    · omega
  · cases hr

theorem isnilP_out (hi : HInv R w hp ck dn) (he : EnvRep R w a e) {neg : Bool} {t u q : TypeId} {x : Operand} {x' : Opd} (ho : o.op = .binOp (if neg then .neq else .eql) t x (.const (.pointer none)) u) (hd : P.underlying t = some (.pointer q))
    (hx : compOpd x = some x') {r : V} (hr : isNilP neg (x'.ev e) = some r) : Out P o a R w hp dn me r hp ck := by
  have rx := opd_rep he hx
  obtain ⟨e1, e2⟩ := equal_nilP (P := P) (w := w) hd
  have hcc : a.eval (.const (.pointer none)) = .pointer none := rfl
  unfold isNilP at hr
  split at hr
  · rename_i h1
    rw [h1] at rx
    cases hr
    have hv : a.eval x = .pointer none := by generalize a.eval x = z at rx; cases repV_tl rx; rfl
    refine Out.pure hi (.bool (!neg)) ?_ (.t (.b _))
    cases neg <;> simp [execOp, ho, hv, hcc, eqGuard, binOp, e1]
  · rename_i h1
    rw [h1] at rx
    cases hr
    obtain ⟨ad, hv⟩ : ∃ ad, a.eval x = .pointer (some ad) := by generalize a.eval x = z at rx; cases rx; exact ⟨_, rfl⟩
    refine Out.pure hi (.bool neg) ?_ (.t (.b _))
    cases neg <;> simp [execOp, ho, hv, hcc, eqGuard, binOp, e2]
  · cases hr

def RepO (R : Rl) (w : World) : Option Value → Option V → Prop
  | none, none => True
  | some u, some v => RepV R w u v
  | _, _ => False
theorem opt_rep (he : EnvRep R w a e) {x : Option Operand} {x' : Option Opd} (h : compOpt x = some x') : RepO R w (x.map a.eval) (opt e x') := by
  cases x with
  | none => simp [compOpt] at h; subst h; trivial
  | some x =>
    simp only [compOpt] at h
    cases h1 : compOpd x with
    | none => simp [h1] at h
    | some y => simp [h1] at h; subst h; exact opd_rep he h1
theorem bound_none {dflt y n : Nat} (h : bound none dflt y = some n) : n = dflt := by simpa [bound] using h.symm
theorem bound_le {x : Option V} {dflt y n : Nat} (hd : dflt ≤ y) (h : bound x dflt y = some n) : n ≤ y := by
  unfold bound at h
  cases x with
  | none => simp at h; omega
  | some v =>
    simp only at h
    cases hm : isInt v with
    | none => simp [hm] at h
    | some m =>
      simp only [hm] at h
      by_cases hc : 0 ≤ m ∧ m ≤ (y : Int)
      · rw [if_pos hc] at h; cases h; omega
      · rw [if_neg hc] at h; cases h

/-- The bounds of a cut: of the text's length, or of the row's, the capacity above it. -/
theorem bounds_run {lo hi' : Option Value} {lo' hi2 : Option V} (hlo : RepO R w lo lo') (hhi : RepO R w hi' hi2) {len cap h l : Nat} (hc : len ≤ cap) (hh : bound hi2 len len = some h) (hl : bound lo' 0 h = some l) (isS : Bool) :
    (Instr.sliceBounds isS len cap lo hi' none).run P w = .ok (l, h, cap) w ∧ l ≤ h ∧ h ≤ len := by
  have h1 : h ≤ len := bound_le (Nat.le_refl _) hh
  have h2 : l ≤ h := bound_le (Nat.zero_le _) hl
  refine ⟨?_, h2, h1⟩
  have eh : (hi' = none ∧ h = len) ∨ ∃ v, hi' = some v ∧ ∀ code, (Instr.sliceBound v cap code).run P w = .ok h w := by
    cases hi' with
    | none =>
      cases hi2 with
      | none => simp [bound] at hh; exact .inl ⟨rfl, hh.symm⟩
      | some v => simp [RepO] at hhi
    | some u =>
      cases hi2 with
      | none => simp [RepO] at hhi
      | some v =>
        simp only [bound] at hh
        cases hm : isInt v with
        | none => simp [hm] at hh
        | some m =>
          obtain ⟨k, rfl⟩ := repV_isInt hhi hm
          simp only [hm] at hh
          by_cases hcc : 0 ≤ m ∧ m ≤ (len : Int)
          · rw [if_pos hcc] at hh
            cases hh
            have : m ≤ (cap : Int) := by omega
            exact .inr ⟨_, rfl, fun code => by simp [Instr.sliceBound, asIntOf, hcc.1, this]⟩
          · rw [if_neg hcc] at hh
            cases hh
  have el : (lo = none ∧ l = 0) ∨ ∃ v, lo = some v ∧ ∀ code, (Instr.sliceBound v h code).run P w = .ok l w := by
    cases lo with
    | none =>
      cases lo' with
      | none => simp [bound] at hl; exact .inl ⟨rfl, hl.symm⟩
      | some v => simp [RepO] at hlo
    | some u =>
      cases lo' with
      | none => simp [RepO] at hlo
      | some v =>
        simp only [bound] at hl
        cases hm : isInt v with
        | none => simp [hm] at hl
        | some m =>
          obtain ⟨k, rfl⟩ := repV_isInt hlo hm
          simp only [hm] at hl
          by_cases hcc : 0 ≤ m ∧ m ≤ (h : Int)
          · rw [if_pos hcc] at hl
            cases hl
            exact .inr ⟨_, rfl, fun code => by simp [Instr.sliceBound, asIntOf, hcc.1, hcc.2]⟩
          · rw [if_neg hcc] at hl
            cases hl
  unfold Instr.sliceBounds
  rcases eh with ⟨rfl, rfl⟩ | ⟨v, rfl, eh⟩ <;> rcases el with ⟨rfl, rfl⟩ | ⟨u, rfl, el⟩
  · simp
  · simp [el]
  · simp [eh]
  · simp [eh, el]

theorem extract_toList (x : ByteArray) (l h : Nat) (hh : h ≤ x.size) (hl : l ≤ h) : (x.extract l h).data.toList = (x.data.toList.take h).drop l := by
  rw [ByteArray.data_extract, Array.toList_extract]
  rw [List.extract_eq_take_drop, List.drop_take]

theorem slS_out (hi : HInv R w hp ck dn) (he : EnvRep R w a e) {t : TypeId} {x : Operand} {lo up : Option Operand} {x' : Opd} {lo' up' : Option Opd} (ho : o.op = .slice t x lo up none) (ht : P.underlying t = some .string)
    (hx : compOpd x = some x') (hlo : compOpt lo = some lo') (hup : compOpt up = some up') {r : V} (hr : slS (x'.ev e) (opt e lo') (opt e up') = some r) : Out P o a R w hp dn me r hp ck := by
  have rx := opd_rep he hx
  unfold slS at hr
  split at hr
  · rename_i s h1
    rw [h1] at rx
    obtain ⟨z, hz1, hz2⟩ := repV_s rx
    have hsz : z.size = s.length := by rw [← hz2, Array.length_toList]; rfl
    split at hr
    · rename_i h hh
      split at hr
      · rename_i l hl
        cases hr
        rw [← hsz] at hh
        obtain ⟨hb, h2, h3⟩ := bounds_run (P := P) (opt_rep he hlo) (opt_rep he hup) (Nat.le_refl z.size) hh hl false
        refine Out.pure hi (.string (z.extract l h)) ?_ (.t (.s _ _ ?_))
        · simp only [execOp, ho, hz1, Instr.sliceAt, Sem.run_bind, run_underlying ht, Result.andThen_ok, Option.map_none, Instr.slice]
          simp [hb]
        · rw [extract_toList z l h h3 h2, hz2]
      · cases hr
    · cases hr
  · cases hr

theorem sls_out (hi : HInv R w hp ck dn) (he : EnvRep R w a e) {t el : TypeId} {x : Operand} {lo up : Option Operand} {x' : Opd} {lo' up' : Option Opd} (ho : o.op = .slice t x lo up none) (ht : P.underlying t = some (.slice el)) {n : Nat} (hn : szOf P el = some n) (hn0 : 0 < n)
    (hx : compOpd x = some x') (hlo : compOpt lo = some lo') (hup : compOpt up = some up') {r : V} (hr : sls n (x'.ev e) (opt e lo') (opt e up') = some r) : Out P o a R w hp dn me r hp ck := by
  have rx := opd_rep he hx
  have hrun : ∀ (A : Option Addr) (len cap l h : Nat), a.eval x = .slice A len cap → (Instr.sliceBounds true len cap (lo.map a.eval) (up.map a.eval) none).run P w = .ok (l, h, cap) w →
      (execOp a.eval o).run P w = .ok (.value (.slice (if cap = l then A else A.map (·.add (l * n))) (h - l) (cap - l))) w := by
    intro A len cap l h hv hb
    simp only [execOp, ho, hv, Instr.sliceAt, Sem.run_bind, run_underlying ht, Result.andThen_ok, Option.map_none, Instr.slice]
    simp [hb, run_szOf hn]
  unfold sls at hr
  split at hr
  · rename_i k sz off len h1
    by_cases hs : sz = n
    · rw [if_pos hs] at hr
      subst hs
      rw [h1] at rx
      split at hr
      · rename_i h hh
        split at hr
        · rename_i l hl
          cases hr
          rcases repV_ow rx with ⟨g, tot, A, cap, hv, hμ, hlc, hcap, hA⟩ | ⟨hv, hμ, rfl, rfl⟩
          · obtain ⟨hb, h2, h3⟩ := bounds_run (P := P) (opt_rep he hlo) (opt_rep he hup) hlc hh hl true
            refine Out.pure hi _ (hrun _ _ _ _ _ hv hb) ?_
            refine .ow k sz (off + l) (h - l) g tot _ (cap - l) hμ (by omega) (by omega) (fun hp => ?_)
            rw [if_neg (by omega), hA (by omega)]
            simp only [Option.map_some, addr_add]
            rw [Nat.add_mul]
          · obtain ⟨hb, h2, h3⟩ := bounds_run (P := P) (opt_rep he hlo) (opt_rep he hup) (Nat.le_refl 0) hh hl true
            obtain rfl : h = 0 := by omega
            obtain rfl : l = 0 := by omega
            refine Out.pure hi _ (hrun _ _ _ _ _ hv hb) ?_
            simpa using RepV.owv (w := w) k sz hμ
        · cases hr
      · cases hr
    · rw [if_neg hs] at hr
      cases hr
  · rename_i xs h1
    rw [h1] at rx
    by_cases hs : (xs.all fun c => c.length == n) = true
    · rw [if_pos hs] at hr
      have hs' : ∀ c ∈ xs, c.length = n := by simpa using hs
      split at hr
      · rename_i h hh
        split at hr
        · rename_i l hl
          cases hr
          obtain ⟨A, cap, g, q, f, hv, hcap, hA, hS, hcell, hrep⟩ := repT_l (repV_tl rx) n hs'
          obtain ⟨hb, h2, h3⟩ := bounds_run (P := P) (opt_rep he hlo) (opt_rep he hup) hcap hh hl true
          refine Out.pure hi _ (hrun _ _ _ _ _ hv hb) ?_
          have hget : ∀ i j t, at2 ((xs.take h).drop l) i j = some t → at2 xs (l + i) j = some t ∧ l + i < h := by
            intro i j t ht
            obtain ⟨c, hc1, hc2⟩ := at2_elim ht
            rw [List.getElem?_drop, List.getElem?_take] at hc1
            by_cases hlt : l + i < h
            · rw [if_pos hlt] at hc1
              exact ⟨at2_some hc1 hc2, hlt⟩
            · rw [if_neg hlt] at hc1
              cases hc1
          refine .t (.l _ _ _ _ n g (q + l * n) (fun i j => f (l + i) j) (by simp; omega) (by omega) (fun hp => ?_) (fun hp => hS (by omega)) (fun c hc => ?_) (fun i j t ht => ?_) (fun i j t ht => hrep _ _ _ (hget i j t ht).1))
          · rw [if_neg (by omega), hA (by omega)]
            simp [addr_add]
          · exact hs' c (List.mem_of_mem_take (List.mem_of_mem_drop hc))
          · have := hcell _ _ _ (hget i j t ht).1
            rw [Nat.add_mul] at this
            rw [← this]
            congr 2
            omega
        · cases hr
      · cases hr
    · rw [if_neg hs] at hr
      cases hr
  · cases hr

theorem lenL_out (hi : HInv R w hp ck dn) (he : EnvRep R w a e) {as_ : Array Operand} {ts : Array TypeId} {t : TypeId} {x : Operand} {x' : Opd} (ho : o.op = .call { callee := .builtin .len, args := as_, argTypes := ts }) (ha : as_.toList = [x]) (hts : ts.toList = [t]) {el : TypeId} (ht : P.underlying t = some (.slice el))
    (hx : compOpd x = some x') {r : V} (hr : len (x'.ev e) = some r) : Out P o a R w hp dn me r hp ck := by
  have rx := opd_rep he hx
  have ha' : as_ = #[x] := by cases as_; simp at ha; simp [ha]
  have ht' : ts = #[t] := by cases ts; simp at hts; simp [hts]
  have hrun : ∀ (n : Nat) A c, a.eval x = .slice A n c → (execOp a.eval o).run P w = .ok (.value (.int .i64 n)) w := by
    intro n A c h
    simp [execOp, ho, ha', ht', resolve, invoke, builtin, h, Builtin.len_, run_underlying ht, goInt]
  unfold len at hr
  split at hr
  · rename_i k sz off n h1
    rw [h1] at rx
    cases hr
    rcases repV_ow rx with ⟨g, tot, A, cap, hv, _⟩ | ⟨hv, _, _, rfl⟩
    · exact Out.pure hi _ (hrun n _ _ hv) (.t (.i _ _))
    · exact Out.pure hi _ (hrun 0 _ _ hv) (.t (.i _ _))
  · rename_i h1
    rw [h1] at rx
    cases hr
    have hv : a.eval x = .slice none 0 0 := by generalize a.eval x = z at rx; cases rx; rfl
    exact Out.pure hi _ (hrun 0 _ _ hv) (.t (.i _ _))
  · rename_i xs h1
    rw [h1] at rx
    cases hr
    obtain ⟨A, c, sz, g, q, f, hv, _⟩ := repT_l0 (repV_tl rx)
    exact Out.pure hi _ (hrun xs.length _ _ hv) (.t (.i _ _))
  · cases hr

theorem lenS_out (hi : HInv R w hp ck dn) (he : EnvRep R w a e) {as_ : Array Operand} {ts : Array TypeId} {t : TypeId} {x : Operand} {x' : Opd} (ho : o.op = .call { callee := .builtin .len, args := as_, argTypes := ts }) (ha : as_.toList = [x]) (hts : ts.toList = [t]) (ht : P.underlying t = some .string)
    (hx : compOpd x = some x') {r : V} (hr : lenS (x'.ev e) = some r) : Out P o a R w hp dn me r hp ck := by
  have rx := opd_rep he hx
  have ha' : as_ = #[x] := by cases as_; simp at ha; simp [ha]
  have ht' : ts = #[t] := by cases ts; simp at hts; simp [hts]
  unfold lenS at hr
  split at hr
  · rename_i s h1
    rw [h1] at rx
    cases hr
    obtain ⟨z, hz1, hz2⟩ := repV_s rx
    have hsz : z.size = s.length := by rw [← hz2, Array.length_toList]; rfl
    rw [← hsz]
    exact Out.pure hi (.int .i64 z.size) (by simp [execOp, ho, ha', ht', resolve, invoke, builtin, hz1, Builtin.len_, run_underlying ht, goInt]) (.t (.i _ _))
  · cases hr

theorem lenc_out (hi : HInv R w hp ck dn) {as_ : Array Operand} {ts : Array TypeId} {t : TypeId} {x : Operand} (ho : o.op = .call { callee := .builtin .len, args := as_, argTypes := ts }) (ha : as_.toList = [x]) (hts : ts.toList = [t]) {n : Nat} {el : TypeId} (ht : P.underlying t = some (.array n el)) :
    Out P o a R w hp dn me (.t (.i .i64 n)) hp ck := by
  have ha' : as_ = #[x] := by cases as_; simp at ha; simp [ha]
  have ht' : ts = #[t] := by cases ts; simp at hts; simp [hts]
  exact Out.pure hi (.int .i64 n) (by simp [execOp, ho, ha', ht', resolve, invoke, builtin, Builtin.len_, run_underlying ht, goInt]) (.t (.i _ _))

theorem minmax_run (mx : Bool) : ∀ (vs : List Value) (xs : List V) (u : Value) (v : V), RepV R w u v → vs.length = xs.length → (∀ j x, xs[j]? = some x → RepV R w (vs.getD j undef) x) → ∀ {r : V}, minmax mx v xs = some r →
    ∃ z, (vs.foldlM (if mx then Builtin.max2 else Builtin.min2) u).run P w = .ok z w ∧ RepV R w z r
  | [], [], u, v, huv, _, _, r, hr => by
    simp [minmax] at hr
    subst hr
    exact ⟨u, rfl, huv⟩
  | c :: vs, x :: xs, u, v, huv, hl, h, r, hr => by
    unfold minmax at hr
    split at hr
    · rename_i heq; cases heq
    · rename_i k p k' q rest heq
      cases heq
      have h0 := h 0 _ rfl
      simp at h0
      have hu := repV_i huv
      have hc := repV_i h0
      subst hu hc
      by_cases hk : k = k'
      · rw [if_pos hk] at hr
        subst hk
        have hstep : ((if mx then Builtin.max2 else Builtin.min2) (.int k p) (.int k q)).run P w = .ok (.int k (if mx then (if p < q then q else p) else (if q < p then q else p))) w := by
          cases mx <;> simp [Builtin.min2, Builtin.max2]
        obtain ⟨z, h1, h2⟩ := minmax_run mx vs xs _ _ (.t (.i k (if mx then (if p < q then q else p) else (if q < p then q else p)))) (by simpa using hl) (fun j x hj => by simpa using h (j + 1) x (by simpa using hj)) hr
        refine ⟨z, ?_, h2⟩
        rw [List.foldlM_cons, Sem.run_bind, hstep]
        exact h1
      · rw [if_neg hk] at hr
        cases hr
    · cases hr
  | [], _ :: _, _, _, _, hl, _, _, _ => by simp at hl
  | _ :: _, [], _, _, _, hl, _, _, _ => by simp at hl

theorem mm_out (hi : HInv R w hp ck dn) (he : EnvRep R w a e) {mx : Bool} {as_ : Array Operand} {ts : Array TypeId} {xs : List Opd} (ho : o.op = .call { callee := .builtin (if mx then .max else .min), args := as_, argTypes := ts }) (hx : compOpds as_.toList = some xs) {v : V} {rest : List V} (hv : xs.map (·.ev e) = v :: rest) {r : V} (hr : minmax mx v rest = some r) :
    Out P o a R w hp dn me r hp ck := by
  obtain ⟨h1, h2⟩ := opds_rep he _ _ hx
  rw [hv] at h1 h2
  cases hl : as_.toList.map a.eval with
  | nil => rw [hl] at h1; simp at h1
  | cons u us =>
    rw [hl] at h1 h2
    obtain ⟨z, hz1, hz2⟩ := minmax_run (P := P) mx us rest u v (by simpa using h2 0 v rfl) (by simpa using h1) (fun j x hj => by simpa using h2 (j + 1) x (by simpa using hj)) hr
    refine Out.pure hi z ?_ hz2
    cases mx with
    | true =>
      simp only [if_true] at hz1
      simp [execOp, ho, resolve, invoke, builtin, Builtin.max_, hl, hz1]
    | false =>
      simp only [Bool.false_eq_true, if_false] at hz1
      simp [execOp, ho, resolve, invoke, builtin, Builtin.min_, hl, hz1]
end
end Go.Pev
