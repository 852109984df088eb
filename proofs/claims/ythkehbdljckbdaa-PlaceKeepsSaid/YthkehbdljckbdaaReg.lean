/- Regions, in the text's order and in any other. -/
import Derived.Test.YthkehbdljckbdaaPo
import Derived.Test.YthkehbdljckbdaaDraw
import Derived.Orders
set_option linter.unusedVariables false
set_option linter.unusedSimpArgs false
namespace Go.Pev
open Go Go.RowKit

section
variable {P : Program} {run : Run} {C : Cfg} {ops : Array Oper} {Q : Exit → Act → World → Prop} {N rid : Nat} {A : Ann} {draw : Bool}

theorem yielded_of {R : Rl} {w : World} {a : Act} {e : Env} (he : EnvRep R w a e) {j t : Nat} (hj : (ops[j]?).bind (·.dst) = some t) : (∀ b, e.get t = .t (.b b) → yielded ops a.tmps j = some b) ∧ (e.get t = .ud → yielded ops a.tmps j = none) := by
  have hu : ∀ x, a.tmps.getD t undef = x → (∀ b, x = .bool b → yielded ops a.tmps j = some b) ∧ (x = undef → yielded ops a.tmps j = none) := by
    intro x hx
    unfold yielded
    rw [hj]
    simp only [Option.bind_some]
    rw [Array.getD_eq_getD_getElem?] at hx
    cases h : a.tmps[t]? with
    | none =>
      rw [h] at hx
      refine ⟨fun b hb => ?_, fun _ => rfl⟩
      rw [hb] at hx
      cases hx
    | some y =>
      rw [h] at hx
      simp only [Option.getD_some] at hx
      subst hx
      refine ⟨fun b hb => by rw [hb], fun hb => by rw [hb]; rfl⟩
  have := he t
  refine ⟨fun b hb => ?_, fun hb => ?_⟩
  · rw [hb] at this
    exact (hu _ rfl).1 b (repV_b this)
  · rw [hb] at this
    exact (hu _ rfl).2 (repV_ud this)

theorem put_inv {R R' : Rl} {w w' : World} {a : Act} {s : St} {dn dn' : Nat → Prop} (hi : Inv R w a s dn N) {d : Option Tmp} (hd : dstOk N d = true) {v : Value} {r : V} (hv : RepV R' w' v r) {h' : HP} {c' : Nat} (hg : Grow R w s.hp R' w' h') (hh : HInv R' w' h' c' dn') : Inv R' w' (a.put d v) ⟨putD s.env d r, h', c'⟩ dn' N := by
  have ha := hg.agree hi.hi
  cases d with
  | none => exact ⟨hi.df, hi.sz, fun t => (hi.env t).mono ha, hh⟩
  | some d =>
    have hlt : d < a.tmps.size := by rw [hi.sz]; simpa [dstOk] using hd
    refine ⟨hi.df, by simp [Act.put, hi.sz], fun t => ?_, hh⟩
    simp only [putD, Env.get_put, Act.put]
    by_cases ht : t = d
    · subst ht
      rw [if_pos rfl, Array.getD_eq_getD_getElem?, Array.getElem?_setIfInBounds_self_of_lt hlt]
      exact hv
    · rw [if_neg ht, Array.getD_eq_getD_getElem?, Array.getElem?_setIfInBounds_ne (Ne.symm ht), ← Array.getD_eq_getD_getElem?]
      exact (hi.env t).mono ha

theorem callO_call {d me : Nat} {s : St} {f : Nat} {as : List Opd} {r : V × HP × Nat} (h : evPo C run d me s (.callo f as) = some r) : evPo C run d me s (.call f as) = some r := by
  simp only [evPo] at h ⊢
  rw [Option.map_eq_some_iff] at h
  obtain ⟨q, ha, hb⟩ := h
  subst hb
  unfold callO at ha
  unfold callEv
  cases hf : (as.map (·.ev s.env)).flatMap (keysOf s.hp) with
  | cons _ _ => rw [hf] at ha; cases ha
  | nil =>
    rw [hf] at ha
    cases hp : puresOf s.hp (as.map (·.ev s.env)) with
    | none => rw [hp] at ha; cases ha
    | some ps =>
      rw [hp] at ha
      simp only at ha
      split at ha
      · rename_i k sz off n h' hc
        split at ha
        · rename_i ty sz' els hg
          split at ha
          · rename_i hcond
            cases ha
            have ho : C.own f = true ∧ C.hpm f = false := by simpa using hcond.1
            rw [ho.2]
            simp only [Bool.false_eq_true, if_false, hc, ho.1, hg, hcond.2, and_self, if_true, freezeAll]
          · cases ha
        · cases ha
      · cases ha
theorem wrapD_ev {d me i : Nat} {s : St} {p : Po} {r : V × HP × Nat} (h : evPo C run d me s (wrapD A rid ops i draw p) = some r) : evPo C run d me s p = some r := by
  unfold wrapD at h
  cases draw with
  | false => simpa using h
  | true =>
    simp only [if_true] at h
    cases p <;> simp only at h <;> try exact h
    case store n a x =>
      cases hz : looseLoads ops (Region.before ops) i with
      | nil => rw [hz] at h; exact h
      | cons z zs =>
        rw [hz] at h
        simp only at h
        split at h
        · simp only [evPo] at h ⊢
          split at h
          · exact h
          · cases h
        · simp only [evPo] at h ⊢
          split at h
          · exact h
          · cases h
    case load ag n x =>
      split at h
      · simp only [evPo] at h ⊢
        split at h
        · exact h
        · cases h
      · exact h
    case call f xs =>
      split at h
      · exact callO_call h
      · simp only [evPo] at h ⊢
        split at h
        · rename_i hcl
          split at h
          · rw [hcl]; exact h
          · cases h
        · cases h
    case bslT n xs =>
      cases hz : looseLoads ops (Region.before ops) i with
      | nil => rw [hz] at h; exact h
      | cons z zs =>
        rw [hz] at h
        simp only [evPo] at h ⊢
        cases hk : keysOfs s.hp s.env xs with
        | nil => rw [hk] at h; exact h
        | cons _ _ => rw [hk] at h; cases h
theorem op_sound (hrun : RunOk P run) {R : Rl} {w : World} {a : Act} {s s' : St} {dn : Nat → Prop} (hi : Inv R w a s dn N) {me : Nat} (hd : ¬ dn me) {o : Oper} (ho : ops[me]? = some o) {p : Pop} (hp : compPop P A N rid draw ops me o = some p) (hr : evOp C run me p s = some s') {K : Act → World → Prop}
    (hK : ∀ a' w' R', Inv R' w' a' s' (plus dn me) N → Grow R w s.hp R' w' s'.hp → K a' w') : wpOp P ops Q me K a w := by
  unfold compPop at hp
  split at hp
  · rename_i po g hpo hg
    split at hp
    · rename_i hdo
      cases hp
      unfold evOp at hr
      cases hev : evG C run me ⟨o.dst, wrapD A rid ops me draw po, g⟩ s with
      | none => simp [hev] at hr
      | some x =>
        obtain ⟨v, h', c'⟩ := x
        simp [hev] at hr
        subst hr
        unfold wpOp
        rw [ho]
        have hdo' : ∀ {v h' c'}, evPo C run (o.dst.getD 0) me s (wrapD A rid ops me draw po) = some (v, h', c') → (∀ a' w' R', Inv R' w' a' ⟨putD s.env o.dst v, h', c'⟩ (plus dn me) N → Grow R w s.hp R' w' h' → K a' w') → o.wp P a w K Q := by
          intro v h' c' he hK
          exact po_sound hrun hi.hi hi.env hd hpo (wrapD_ev he) K Q fun u w' R' h1 h2 h3 => hK _ _ R' (put_inv hi hdo h1 h2 h3) h2
        have hskip : v = .ud → h' = s.hp → c' = s.ck → K (a.put o.dst undef) w := by
          rintro rfl rfl rfl
          exact hK _ _ R (put_inv hi hdo .ud (Grow.refl _ _ _) (hi.hi.plus me)) (Grow.refl _ _ _)
        unfold evG at hev
        unfold compGuard at hg
        cases hgu : o.guard with
        | none =>
          rw [hgu] at hg
          cases hg
          simp only [Region.wanted, hgu, if_true]
          exact .inl (hdo' hev hK)
        | some q =>
          obtain ⟨j, want⟩ := q
          rw [hgu] at hg
          simp only at hg
          split at hg
          · rename_i t ht
            cases hg
            obtain ⟨y1, y2⟩ := yielded_of (ops := ops) hi.env ht
            simp only [Region.wanted, hgu]
            simp only at hev
            cases hx : s.env.get t <;> rw [hx] at hev <;> (try simp only at hev) <;> first
              | (cases hev; done)
              | (rw [y2 hx]; simp only [Option.some.injEq, Prod.mk.injEq] at hev; obtain ⟨e1, e2, e3⟩ := hev; exact hskip e1.symm e2.symm e3.symm)
              | skip
            rename_i y
            cases y <;> (try simp only at hev) <;> first | (cases hev; done) | skip
            rename_i x
            rw [y1 x hx]
            by_cases hw : x = want
            · rw [if_pos hw] at hev
              subst hw
              simp only [beq_self_eq_true, if_true]
              exact .inl (hdo' hev hK)
            · rw [if_neg hw] at hev
              simp only [Option.some.injEq, Prod.mk.injEq] at hev
              obtain ⟨e1, e2, e3⟩ := hev
              rw [if_neg (by simpa using hw)]
              exact hskip e1.symm e2.symm e3.symm
          · cases hg
    · cases hp
  · cases hp

def QOk (P : Program) (A : Ann) (N rid : Nat) (draw : Bool) (ops : Array Oper) (qs : List (Nat × Pop)) : Prop := ∀ i p, (i, p) ∈ qs → ∃ o, ops[i]? = some o ∧ compPop P A N rid draw ops i o = some p

theorem ops_sound (hrun : RunOk P run) : ∀ (qs : List (Nat × Pop)) {R : Rl} {w : World} {a : Act} {s s' : St} {dn : Nat → Prop}, Inv R w a s dn N → QOk P A N rid draw ops qs → (qs.map Prod.fst).Nodup → (∀ i ∈ qs.map Prod.fst, ¬ dn i) → evOps C run qs s = some s' →
    (∀ a' w' R' dn', Inv R' w' a' s' dn' N → Grow R w s.hp R' w' s'.hp → Q .normal a' w') → wpOps P ops Q (qs.map Prod.fst) a w
  | [], R, w, a, s, s', dn, hi, _, _, _, hr, hQ => by
    simp [evOps] at hr
    subst hr
    exact hQ a w R dn hi (Grow.refl _ _ _)
  | (i, p) :: qs, R, w, a, s, s', dn, hi, hq, hn, hd, hr, hQ => by
    rw [evOps_cons] at hr
    cases h1 : evOp C run i p s with
    | none => simp [h1] at hr
    | some s1 =>
      simp only [h1, Option.bind_some] at hr
      obtain ⟨o, ho, hp⟩ := hq i p List.mem_cons_self
      rw [List.map_cons, wpOps_cons]
      simp only [List.map_cons, List.nodup_cons] at hn
      refine op_sound hrun hi (hd i (by simp)) ho hp h1 fun a' w' R' hi' hg => ?_
      refine ops_sound hrun qs hi' (fun i' p' h => hq i' p' (List.mem_cons_of_mem _ h)) hn.2 (fun j hj => ?_) hr (fun a2 w2 R2 dn2 h2 hg2 => hQ a2 w2 R2 dn2 h2 (hg.trans hg2))
      rintro (h | rfl)
      · exact hd j (by simp only [List.map_cons, List.mem_cons]; exact .inr hj) h
      · exact hn.1 hj

theorem compOps_spec : ∀ (l : List Oper) (i : Nat) (qs : List (Nat × Pop)), compOps P A N rid draw ops i l = some qs → qs.map Prod.fst = (List.range l.length).map (· + i) ∧ ∀ j p, (j, p) ∈ qs → ∃ o, i ≤ j ∧ l[j - i]? = some o ∧ compPop P A N rid draw ops j o = some p
  | [], i, qs, h => by simp [compOps] at h; subst h; simp
  | o :: l, i, qs, h => by
    simp only [compOps] at h
    cases h1 : compPop P A N rid draw ops i o with
    | none => simp [h1] at h
    | some p =>
      cases h2 : compOps P A N rid draw ops (i + 1) l with
      | none => simp [h1, h2] at h
      | some ps =>
        simp [h1, h2] at h
        subst h
        obtain ⟨g1, g2⟩ := compOps_spec l (i + 1) ps h2
        refine ⟨?_, fun j q hq => ?_⟩
        · rw [List.map_cons, g1, List.length_cons, List.range_succ_eq_map, List.map_cons, List.map_map]
          congr 1
          · simp
          · exact List.map_congr_left fun x _ => by simp only [Function.comp]; omega
        · rcases List.mem_cons.1 hq with e | e
          · cases e
            exact ⟨o, Nat.le_refl _, by simp, h1⟩
          · obtain ⟨o', a1, a2, a3⟩ := g2 j q e
            refine ⟨o', by omega, ?_, a3⟩
            rw [show j - i = (j - (i + 1)) + 1 by omega, List.getElem?_cons_succ]
            exact a2

theorem compOps_q {qs : List (Nat × Pop)} (h : compOps P A N rid draw ops 0 ops.toList = some qs) : qs.map Prod.fst = List.range ops.size ∧ QOk P A N rid draw ops qs := by
  obtain ⟨h1, h2⟩ := compOps_spec ops.toList 0 qs h
  refine ⟨by simpa using h1, fun j p hj => ?_⟩
  obtain ⟨o, _, a2, a3⟩ := h2 j p hj
  exact ⟨o, by simpa using a2, a3⟩

/-! ### any order -/
def Closed (ops : Array Oper) (listed : Array Bool) : Prop := ∀ i o, ops[i]? = some o → listed.getD i true = true → ∀ e ∈ o.after, Region.binds .any e = true → listed.getD e.on false = true

theorem bef_listed {bef : Array Nat} (he : edgesOk ops = true) (hb : befOk ops bef = true) (hs : smallOk ops bef = true) {listed : Array Bool} (hsz : listed.size = ops.size) (hc : Closed ops listed) : ∀ (n x : Nat), x ≤ n → (∀ o, ops[x]? = some o → ∀ e ∈ o.after, Region.binds .any e = true → listed.getD e.on false = true) → ∀ j, (bef.getD x 0).testBit j = true → x < ops.size → listed.getD j false = true := by
  intro n
  induction n using Nat.strongRecOn with
  | _ n ih =>
    intro x hx hd j hj hxn
    have ho : ops[x]? = some ops[x] := Array.getElem?_eq_getElem hxn
    unfold befOk at hb
    unfold edgesOk at he
    have hb1 := List.all_eq_true.1 hb x (by simpa using hxn)
    rw [ho] at hb1
    simp only at hb1
    have hjn : j < ops.size := by
      rcases Nat.lt_or_ge j ops.size with h | h
      · exact h
      · exfalso
        have hlt : bef.getD x 0 < 2 ^ ops.size := by
          rw [Array.getD_eq_getD_getElem?]
          cases hbx : bef[x]? with
          | none => exact Nat.two_pow_pos ops.size
          | some y =>
            simp only [Option.getD_some]
            unfold smallOk at hs
            rw [Array.all_eq_true'] at hs
            simpa using hs y (Array.mem_of_getElem? hbx)
        have := Nat.testBit_lt_two_pow (Nat.lt_of_lt_of_le hlt (Nat.pow_le_pow_right (by omega) h))
        rw [this] at hj
        cases hj
    have hb2 := List.all_eq_true.1 hb1 j (by simpa using hjn)
    rw [hj] at hb2
    simp only [Bool.not_true, Bool.false_or] at hb2
    rw [Array.any_eq_true'] at hb2
    obtain ⟨e, hem, he2⟩ := hb2
    rw [Bool.and_eq_true] at he2
    obtain ⟨hbi, hor⟩ := he2
    have hon := hd _ ho e hem hbi
    have he1 := List.all_eq_true.1 he x (by simpa using hxn)
    rw [ho] at he1
    simp only at he1
    rw [Array.all_eq_true'] at he1
    have hlt := he1 e hem
    rw [hbi] at hlt
    have hlt2 : e.on < x := by simpa using hlt
    rcases Bool.or_eq_true_iff.1 hor with h | h
    · have : e.on = j := by simpa using h
      rwa [← this]
    · refine ih e.on (by omega) e.on (Nat.le_refl _) (fun o hoo => ?_) j h (by omega)
      refine hc e.on o hoo ?_
      rw [Array.getD_eq_getD_getElem?] at hon ⊢
      cases hl : listed[e.on]? with
      | none => rfl
      | some b => rw [hl] at hon; exact hon

theorem binds_any {md : Region.Mode} {e : Edge} (h : Region.binds .any e = true) : Region.binds md e = true := by
  unfold Region.binds at h ⊢
  split <;> simp_all

theorem freeAll_mid {lo : Bool} {bef : Array Nat} {i : Nat} {p : Pop} {post : List (Nat × Pop)} : ∀ (pre : List (Nat × Pop)), freeAll lo bef (pre ++ (i, p) :: post) = true → (∀ y ∈ pre, (bef.getD i 0).testBit y.1 = true ∨ free2 lo y.2 p = true) ∧ freeAll lo bef (pre ++ post) = true
  | [], h => by
    simp only [List.nil_append, freeAll, Bool.and_eq_true] at h
    exact ⟨by simp, h.2⟩
  | (j, y) :: pre, h => by
    simp only [List.cons_append, freeAll, Bool.and_eq_true] at h
    obtain ⟨h1, h2⟩ := freeAll_mid pre h.2
    have h3 := List.all_eq_true.1 h.1
    refine ⟨fun z hz => ?_, ?_⟩
    · rcases List.mem_cons.1 hz with rfl | hz
      · exact Bool.or_eq_true_iff.1 (h3 (i, p) (by simp))
      · exact h1 z hz
    · simp only [List.cons_append, freeAll, Bool.and_eq_true]
      refine ⟨List.all_eq_true.2 fun z hz => h3 z ?_, h2⟩
      rcases List.mem_append.1 hz with hz | hz
      · exact List.mem_append.2 (.inl hz)
      · exact List.mem_append.2 (.inr (List.mem_cons_of_mem _ hz))

theorem mem_split {i : Nat} : ∀ (qs : List (Nat × Pop)), i ∈ qs.map Prod.fst → ∃ pre p post, qs = pre ++ (i, p) :: post
  | [], h => by simp at h
  | (j, p) :: qs, h => by
    by_cases e : i = j
    · subst e; exact ⟨[], p, qs, rfl⟩
    · obtain ⟨pre, q, post, hq⟩ := mem_split qs (by simp only [List.map_cons, List.mem_cons] at h; exact h.resolve_left e)
      exact ⟨(j, p) :: pre, q, post, by rw [hq]; rfl⟩

theorem any_sound (hrun : RunOk P run) {lo : Bool} {bef : Array Nat} (he : edgesOk ops = true) (hb : befOk ops bef = true) (hs : smallOk ops bef = true) : ∀ (fuel : Nat) (qs : List (Nat × Pop)) (listed : Array Bool) {R : Rl} {w : World} {a : Act} {s s' : St} {dn : Nat → Prop}, fuel = qs.length → listed.size = ops.size → Closed ops listed →
    (∀ i, i ∈ qs.map Prod.fst ↔ i < ops.size ∧ listed.getD i true = false) → (qs.map Prod.fst).Nodup → freeAll lo bef qs = true → (lo = true → ∀ q ∈ qs, okL q.2.op = true) → Inv R w a s dn N → QOk P A N rid draw ops qs → (∀ i ∈ qs.map Prod.fst, ¬ dn i) → evOps C run qs s = some s' →
    (∀ a' w' R' dn' s'', Eqv lo s' s'' → Inv R' w' a' s'' dn' N → Grow R w s.hp R' w' s''.hp → Q .normal a' w') → wpAny P .any ops Q fuel listed a w := by
  intro fuel
  have hrdy : ∀ (listed : Array Bool) i, i ∈ Region.ready .any ops listed → i < ops.size ∧ listed.getD i true = false ∧ ∀ o, ops[i]? = some o → ∀ e ∈ o.after, Region.binds .any e = true → listed.getD e.on false = true := by
    intro listed i hi
    unfold Region.ready at hi
    rw [List.mem_filter] at hi
    obtain ⟨h1, h2⟩ := hi
    have hlt : i < ops.size := by simpa using h1
    rw [Bool.and_eq_true] at h2
    refine ⟨hlt, by simpa using h2.1, fun o ho e hem hbe => ?_⟩
    rw [ho] at h2
    simp only [Option.map_some, Option.getD_some] at h2
    have h3 := h2.2
    rw [Array.all_eq_true'] at h3
    have := h3 e hem
    rw [binds_any hbe] at this
    simpa using this
  induction fuel with
  | zero =>
    intro qs listed R w a s s' dn hf hsz hc hm hnd hfa hok hi hq hd hr hQ
    have hqs : qs = [] := List.eq_nil_of_length_eq_zero hf.symm
    subst hqs
    simp [evOps] at hr
    subst hr
    refine ⟨?_, hQ a w R dn s (Eqv.refl _) hi (Grow.refl _ _ _)⟩
    apply Classical.byContradiction
    intro hne
    obtain ⟨i, hii⟩ := List.exists_mem_of_ne_nil _ hne
    obtain ⟨h1, h2, _⟩ := hrdy listed i hii
    have := (hm i).2 ⟨h1, h2⟩
    simp at this
  | succ fuel ih =>
    intro qs listed R w a s s' dn hf hsz hc hm hnd hfa hok hi hq hd hr hQ
    have hget : ∀ j, listed.getD j false = true ↔ j < ops.size ∧ listed.getD j true = true := by
      intro j
      rw [Array.getD_eq_getD_getElem?, Array.getD_eq_getD_getElem?]
      cases hl : listed[j]? with
      | none =>
        have := Array.getElem?_eq_none_iff.1 hl
        simp
        omega
      | some b =>
        have := (Array.getElem?_eq_some_iff.1 hl).1
        simp
        omega
    refine ⟨fun hnil => ?_, fun i hii => ?_⟩
    · exfalso
      -- the first that is left is ready
      have hex : ∃ m, m < ops.size ∧ listed.getD m true = false ∧ ∀ j, j < m → listed.getD j true = true := by
        have hne : ∃ m, m < ops.size ∧ listed.getD m true = false := by
          cases qs with
          | nil => simp at hf
          | cons q qs => exact ⟨q.1, (hm q.1).1 (by simp)⟩
        obtain ⟨m, hmm⟩ := hne
        induction m using Nat.strongRecOn with
        | _ m ihm =>
          by_cases hall : ∀ j, j < m → listed.getD j true = true
          · exact ⟨m, hmm.1, hmm.2, hall⟩
          · have ⟨j, hj⟩ := Classical.not_forall.1 hall
            have ⟨hj1, hj2⟩ := Classical.not_imp.1 hj
            exact ihm j hj1 ⟨by omega, by simpa using hj2⟩
      obtain ⟨m, m1, m2, m3⟩ := hex
      have hin : m ∈ Region.ready .any ops listed := by
        unfold Region.ready
        rw [List.mem_filter]
        have ho : ops[m]? = some ops[m] := Array.getElem?_eq_getElem m1
        refine ⟨by simpa using m1, ?_⟩
        rw [ho, m2]
        simp only [Bool.not_false, Bool.true_and, Option.map_some, Option.getD_some]
        rw [Array.all_eq_true']
        intro e hem
        unfold edgesOk at he
        have he1 := List.all_eq_true.1 he m (by simpa using m1)
        rw [ho] at he1
        simp only at he1
        rw [Array.all_eq_true'] at he1
        have hlt := he1 e hem
        cases hbe : Region.binds .any e with
        | false => rfl
        | true =>
          rw [hbe] at hlt
          have hlt2 : e.on < m := by simpa using hlt
          rw [(hget e.on).2 ⟨by omega, m3 _ hlt2⟩]
          simp
      rw [hnil] at hin
      simp at hin
    · obtain ⟨h1, h2, h3⟩ := hrdy listed i hii
      obtain ⟨pre, p, post, rfl⟩ := mem_split qs ((hm i).2 ⟨h1, h2⟩)
      obtain ⟨f1, f2⟩ := freeAll_mid pre hfa
      have hmapp : (pre ++ (i, p) :: post).map Prod.fst = pre.map Prod.fst ++ i :: post.map Prod.fst := by simp
      have hnd2 : (pre.map Prod.fst ++ post.map Prod.fst).Nodup ∧ i ∉ pre.map Prod.fst ++ post.map Prod.fst := by
        rw [hmapp, List.nodup_append] at hnd
        obtain ⟨n1, n2, n3⟩ := hnd
        rw [List.nodup_cons] at n2
        refine ⟨List.nodup_append.2 ⟨n1, n2.2, fun x hx y hy => n3 x hx y (List.mem_cons_of_mem _ hy)⟩, fun h => ?_⟩
        rcases List.mem_append.1 h with h | h
        · exact n3 i h i List.mem_cons_self rfl
        · exact n2.1 h
      have hfree : ∀ y ∈ pre, free2 lo y.2 p = true := by
        intro y hy
        refine (f1 y hy).resolve_left fun hb' => ?_
        have hl := bef_listed he hb hs hsz hc i i (Nat.le_refl _) h3 y.1 hb' h1
        have hm2 := (hm y.1).1 (by rw [hmapp]; exact List.mem_append.2 (.inl (List.mem_map.2 ⟨y, hy, rfl⟩)))
        have := ((hget y.1).1 hl).2
        rw [hm2.2] at this
        cases this
      obtain ⟨s2, e1, e2⟩ := front pre hr hfree hok (fun _ d => (hi.hi.fresh (k := ⟨d, s.ck, i⟩) rfl (hd i (by rw [hmapp]; simp))).2) (fun h => hnd2.2 (List.mem_append.2 (.inl h)))
      rw [evOps_cons] at e1
      cases hx : evOp C run i p s with
      | none => simp [hx] at e1
      | some s1 =>
        simp only [hx, Option.bind_some] at e1
        obtain ⟨o, ho, hpo⟩ := hq i p (by simp)
        refine op_sound hrun hi (hd i (by rw [hmapp]; simp)) ho hpo hx fun a' w' R' hi' hg => ?_
        have hset : ∀ j d, (listed.setIfInBounds i true).getD j d = if j = i then true else listed.getD j d := by
          intro j d
          rw [Array.getD_eq_getD_getElem?, Array.getD_eq_getD_getElem?, Array.getElem?_setIfInBounds]
          by_cases hji : j = i
          · subst hji
            rw [if_pos rfl, if_pos (by omega), if_pos rfl]
            rfl
          · rw [if_neg (Ne.symm hji), if_neg hji]
        refine ih (pre ++ post) (listed.setIfInBounds i true) (by simp at hf ⊢; omega) (by simpa using hsz) ?_ ?_ (by rw [List.map_append]; exact hnd2.1) f2 (fun e q hq => hok e q (by
          rcases List.mem_append.1 hq with h | h
          · exact List.mem_append.2 (.inl h)
          · exact List.mem_append.2 (.inr (List.mem_cons_of_mem _ h)))) hi' (fun j q hj => hq j q ?_) ?_ e1 (fun a2 w2 R2 dn2 s3 h4 h5 h6 => hQ a2 w2 R2 dn2 s3 (e2.trans h4) h5 (hg.trans h6))
        · intro j oj hoj hlj e hem hbe
          rw [hset]
          by_cases hei : e.on = i
          · rw [if_pos hei]
          · rw [if_neg hei]
            rw [hset] at hlj
            by_cases hji : j = i
            · subst hji
              exact h3 oj hoj e hem hbe
            · rw [if_neg hji] at hlj
              exact hc j oj hoj hlj e hem hbe
        · intro j
          rw [List.map_append]
          constructor
          · intro hj
            have hji : j ≠ i := fun e => hnd2.2 (e ▸ hj)
            have := (hm j).1 (by rw [hmapp]; exact List.mem_append.2 ((List.mem_append.1 hj).imp id (List.mem_cons_of_mem _)))
            rw [hset, if_neg hji]
            exact this
          · rintro ⟨g1, g2⟩
            rw [hset] at g2
            by_cases hji : j = i
            · rw [if_pos hji] at g2; cases g2
            · rw [if_neg hji] at g2
              have := (hm j).2 ⟨g1, g2⟩
              rw [hmapp] at this
              rcases List.mem_append.1 this with h | h
              · exact List.mem_append.2 (.inl h)
              · exact List.mem_append.2 (.inr ((List.mem_cons.1 h).resolve_left hji))
        · rcases List.mem_append.1 hj with h | h
          · exact List.mem_append.2 (.inl h)
          · exact List.mem_append.2 (.inr (List.mem_cons_of_mem _ h))
        · intro j hj
          rw [List.map_append] at hj
          rintro (h | rfl)
          · refine hd j ?_ h
            rw [hmapp]
            rcases List.mem_append.1 hj with h | h
            · exact List.mem_append.2 (.inl h)
            · exact List.mem_append.2 (.inr (List.mem_cons_of_mem _ h))
          · exact hnd2.2 hj
end
end Go.Pev
