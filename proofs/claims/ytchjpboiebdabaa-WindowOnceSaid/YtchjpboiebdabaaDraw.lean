/- Operations of an open order: whoever stands apart may change places. No machine in sight. -/
import Derived.Test.YtchjpboiebdabaaComp
import Derived.Test.YtchjpboiebdabaaRel
set_option linter.unusedVariables false
set_option linter.unusedSimpArgs false
namespace Go.Pev
open Go

structure Eqv (s s' : St) : Prop where
  env : ∀ t, s.env.get t = s'.env.get t
  hp : s.hp = s'.hp
  ck : s.ck = s'.ck
theorem Eqv.refl (s : St) : Eqv s s := ⟨fun _ => rfl, rfl, rfl⟩
theorem Eqv.symm {s s' : St} (h : Eqv s s') : Eqv s' s := ⟨fun t => (h.env t).symm, h.hp.symm, h.ck.symm⟩
theorem Eqv.trans {a b c : St} (h : Eqv a b) (k : Eqv b c) : Eqv a c := ⟨fun t => (h.env t).trans (k.env t), h.hp.trans k.hp, h.ck.trans k.ck⟩

def AgreeOn (ts : List Nat) (e e' : Env) : Prop := ∀ t ∈ ts, e.get t = e'.get t

theorem opd_congr {e e' : Env} {x : Opd} (h : AgreeOn x.rd e e') : x.ev e = x.ev e' := by
  cases x with
  | tmp t => exact h t (by simp [Opd.rd])
  | c v => rfl
theorem opdo_congr {e e' : Env} {x : Option Opd} (h : AgreeOn (Opd.rdo x) e e') : opt e x = opt e' x := by
  cases x with
  | none => rfl
  | some x => exact congrArg some (opd_congr h)
theorem AgreeOn.l {a b : List Nat} {e e' : Env} (h : AgreeOn (a ++ b) e e') : AgreeOn a e e' := fun t ht => h t (List.mem_append.2 (.inl ht))
theorem AgreeOn.r {a b : List Nat} {e e' : Env} (h : AgreeOn (a ++ b) e e') : AgreeOn b e e' := fun t ht => h t (List.mem_append.2 (.inr ht))
theorem opds_congr {e e' : Env} : ∀ {xs : List Opd} (h : AgreeOn (xs.flatMap (·.rd)) e e'), xs.map (·.ev e) = xs.map (·.ev e')
  | [], _ => rfl
  | x :: xs, h => by
    rw [List.flatMap_cons] at h
    simp only [List.map_cons]
    rw [opd_congr h.l, opds_congr h.r]
theorem buildV_congr {e e' : Env} : ∀ {ps : List (Nat × Nat × Opd)} (z : List V) (h : AgreeOn (ps.flatMap fun p => p.2.2.rd) e e'), buildV z e ps = buildV z e' ps
  | [], z, _ => rfl
  | (o, n, x) :: ps, z, h => by
    rw [List.flatMap_cons] at h
    simp only [buildV]
    rw [opd_congr h.l]
    cases cells (x.ev e') with
    | none => rfl
    | some cs => simp only [buildV_congr (over z o cs) h.r]
theorem rowsOf_congr {e e' : Env} (hp : HP) (n : Nat) : ∀ {xs : List Opd} (h : AgreeOn (xs.flatMap (·.rd)) e e'), rowsOf hp e n xs = rowsOf hp e' n xs ∧ keysOfs hp e xs = keysOfs hp e' xs
  | [], _ => ⟨rfl, rfl⟩
  | x :: xs, h => by
    rw [List.flatMap_cons] at h
    simp only [rowsOf, keysOfs]
    rw [opd_congr h.l, (rowsOf_congr hp n h.r).1, (rowsOf_congr hp n h.r).2]
    exact ⟨rfl, rfl⟩

theorem callEv_congr (C : Cfg) (run : Run) (f : Nat) (as : List V) {s s' : St} (hh : s.hp = s'.hp) (hc : s.ck = s'.ck) (k : Key) : callEv C run f as s k = callEv C run f as s' k := by
  unfold callEv
  rw [hh, hc]

theorem evPo_congr (C : Cfg) (run : Run) (d me : Nat) {s s' : St} {p : Po} (he : AgreeOn p.rd s.env s'.env) (hh : s.hp = s'.hp) (hc : s.ck = s'.ck) : evPo C run d me s p = evPo C run d me s' p := by
  cases p <;> simp only [Po.rd] at he <;> simp only [evPo]
  case pick c a b => rw [opd_congr he.l.l, opd_congr he.l.r, opd_congr he.r, hh, hc]
  case build z ps => rw [buildV_congr z he, hh, hc]
  case bslT n ps => rw [hh, (rowsOf_congr s'.hp n he).1, (rowsOf_congr s'.hp n he).2, hc]
  case bslO t n ps => rw [hh, (rowsOf_congr s'.hp n he).1, (rowsOf_congr s'.hp n he).2, hc]
  case mkfn f cs => rw [opds_congr he, hh, hc]
  case mm b xs => rw [opds_congr he, hh, hc]
  case call f as => rw [opds_congr he, hc, callEv_congr C run f _ hh hc]
  case callq f as => rw [opds_congr he, hh, hc]
  case callv x as => rw [opd_congr he.l, opds_congr he.r, hc]; simp only [callEv_congr C run _ _ hh hc]
  case slS x lo hi => rw [opd_congr he.l.l, opdo_congr he.l.r, opdo_congr he.r, hh, hc]
  case sls n x lo hi => rw [opd_congr he.l.l, opdo_congr he.l.r, opdo_congr he.r, hh, hc]
  case nilv => rw [hh, hc]
  case alloc => rw [hh, hc]
  case lenc => rw [hh, hc]
  case store n x y => rw [opd_congr he.l, opd_congr he.r, hh, hc]
  case bin o x y => rw [opd_congr he.l, opd_congr he.r, hh, hc]
  case beq o x y => rw [opd_congr he.l, opd_congr he.r, hh, hc]
  case mks t n b z x y => rw [opd_congr he.l, opd_congr he.r, hh, hc]
  case ixS n x y => rw [opd_congr he.l, opd_congr he.r, hh, hc]
  case ixA n m x y => rw [opd_congr he.l, opd_congr he.r, hh, hc]
  case ixV b n m x y => rw [opd_congr he.l, opd_congr he.r, hh, hc]
  case ixs x y => rw [opd_congr he.l, opd_congr he.r, hh, hc]
  case app t n b x y => rw [opd_congr he.l, opd_congr he.r, hh, hc]
  all_goals rw [opd_congr he, hh, hc]

theorem evG_congr (C : Cfg) (run : Run) (me : Nat) {s s' : St} {p : Pop} (he : AgreeOn p.rd s.env s'.env) (hh : s.hp = s'.hp) (hc : s.ck = s'.ck) : evG C run me p s = evG C run me p s' := by
  unfold Pop.rd at he
  unfold evG
  rw [evPo_congr C run (p.dst.getD 0) me he.r hh hc]
  cases hg : p.g with
  | none => rfl
  | some q =>
    obtain ⟨t, want⟩ := q
    rw [hg] at he
    have := he t (by simp)
    simp only [this, hh, hc]

theorem map3 {x : Option V} {h h2 : HP} {c c2 : Nat} {v : V} {h' : HP} {c' : Nat} (hr : x.map (·, h, c) = some (v, h', c')) : h' = h ∧ c' = c ∧ ∀ (h2 : HP) (c2 : Nat), x.map (·, h2, c2) = some (v, h2, c2) := by
  cases x with
  | none => cases hr
  | some y => cases hr; exact ⟨rfl, rfl, fun _ _ => rfl⟩

/-- Nothing of the heap. -/
theorem evPo_cls0 (C : Cfg) (run : Run) (d me : Nat) {s : St} {p : Po} (hp : p.cls = 0) {v : V} {h : HP} {c : Nat} (hr : evPo C run d me s p = some (v, h, c)) : h = s.hp ∧ c = s.ck ∧ ∀ h2 c2, evPo C run d me ⟨s.env, h2, c2⟩ p = some (v, h2, c2) := by
  cases p
  case mv x => simp only [evPo] at hr ⊢; cases hr; exact ⟨rfl, rfl, fun _ _ => rfl⟩
  case pick => simp only [evPo] at hr ⊢; exact map3 (h2 := []) (c2 := 0) hr
  case build z ps =>
    simp only [evPo] at hr ⊢
    cases hb : buildV z s.env ps with
    | none => simp [hb] at hr
    | some r => simp [hb] at hr; obtain ⟨rfl, rfl, rfl⟩ := hr; exact ⟨rfl, rfl, fun _ _ => rfl⟩
  case nchk x =>
    simp only [evPo] at hr ⊢
    cases hx : x.ev s.env <;> rw [hx] at hr <;> first | (cases hr; done) | (cases hr; exact ⟨rfl, rfl, fun _ _ => rfl⟩)
  case bin => simp only [evPo] at hr ⊢; exact map3 (h2 := []) (c2 := 0) hr
  case beq => simp only [evPo] at hr ⊢; exact map3 (h2 := []) (c2 := 0) hr
  case isnilI => simp only [evPo] at hr ⊢; exact map3 (h2 := []) (c2 := 0) hr
  case isnilS => simp only [evPo] at hr ⊢; exact map3 (h2 := []) (c2 := 0) hr
  case isnilP => simp only [evPo] at hr ⊢; exact map3 (h2 := []) (c2 := 0) hr
  case un => simp only [evPo] at hr ⊢; exact map3 (h2 := []) (c2 := 0) hr
  case cvi => simp only [evPo] at hr ⊢; exact map3 (h2 := []) (c2 := 0) hr
  case cvs x =>
    simp only [evPo] at hr ⊢
    split at hr
    · rename_i y hy; cases hr; exact ⟨rfl, rfl, fun _ _ => by simp only [hy]⟩
    · cases hr
  case mkfn => simp only [evPo] at hr ⊢; cases hr; exact ⟨rfl, rfl, fun _ _ => rfl⟩
  case slS => simp only [evPo] at hr ⊢; exact map3 (h2 := []) (c2 := 0) hr
  case sls => simp only [evPo] at hr ⊢; exact map3 (h2 := []) (c2 := 0) hr
  case fad => simp only [evPo] at hr ⊢; exact map3 (h2 := []) (c2 := 0) hr
  case fld => simp only [evPo] at hr ⊢; exact map3 (h2 := []) (c2 := 0) hr
  case ixS => simp only [evPo] at hr ⊢; exact map3 (h2 := []) (c2 := 0) hr
  case ixA => simp only [evPo] at hr ⊢; exact map3 (h2 := []) (c2 := 0) hr
  case ixs => simp only [evPo] at hr ⊢; exact map3 (h2 := []) (c2 := 0) hr
  case ixV => simp only [evPo] at hr ⊢; exact map3 (h2 := []) (c2 := 0) hr
  case ext => simp only [evPo] at hr ⊢; exact map3 (h2 := []) (c2 := 0) hr
  case lenS => simp only [evPo] at hr ⊢; exact map3 (h2 := []) (c2 := 0) hr
  case lenL => simp only [evPo] at hr ⊢; exact map3 (h2 := []) (c2 := 0) hr
  case lenc => simp only [evPo] at hr ⊢; cases hr; exact ⟨rfl, rfl, fun _ _ => rfl⟩
  case mm b xs =>
    simp only [evPo] at hr ⊢
    cases hx : xs.map (·.ev s.env) with
    | nil => rw [hx] at hr; cases hr
    | cons v0 r => rw [hx] at hr; exact map3 (h2 := []) (c2 := 0) hr
  all_goals (simp [Po.cls] at hp)

/-- It reads the heap. -/
theorem evPo_cls1 (C : Cfg) (run : Run) (d me : Nat) {s : St} {p : Po} (hp : p.cls = 1 ∨ p.cls = 4) {v : V} {h : HP} {c : Nat} (hr : evPo C run d me s p = some (v, h, c)) : h = s.hp ∧ c = s.ck := by
  cases p <;> simp [Po.cls] at hp <;> simp only [evPo] at hr
  case load => have := map3 (h2 := []) (c2 := 0) hr; exact ⟨this.1, this.2.1⟩
  case callq => have := map3 (h2 := []) (c2 := 0) hr; exact ⟨this.1, this.2.1⟩

theorem keys_of_get {h : HP} {k : Key} {o : Ob} (hk : h.get k = some o) : k ∈ h.map Prod.fst := by
  induction h with
  | nil => cases hk
  | cons p r ih =>
    obtain ⟨k', o'⟩ := p
    simp only [HP.get] at hk
    by_cases e : k' = k
    · subst e; simp
    · rw [if_neg e] at hk
      simp only [List.map_cons, List.mem_cons]
      exact .inr (ih hk)

theorem load_cons {h : HP} {k : Key} {ob : Ob} (hk : k ∉ h.map Prod.fst) {agg : Bool} {n : Nat} {x r : V} (hl : load h agg n x = some r) : load ((k, ob) :: h) agg n x = some r := by
  have hg : ∀ q o, h.get q = some o → HP.get ((k, ob) :: h) q = some o := by
    intro q o hq
    simp only [HP.get]
    rw [if_neg]
    · exact hq
    · rintro rfl
      exact hk (keys_of_get hq)
  cases x <;> simp only [load] at hl ⊢ <;> try exact hl
  rename_i q sz i j
  cases ho : h.get q with
  | none => simp [ho] at hl
  | some o =>
    rw [ho] at hl
    rw [hg _ _ ho]
    exact hl

section
variable {h : HP} {k : Key} {ob : Ob}
theorem get_cons (hk : k ∉ h.map Prod.fst) {q : Key} {o : Ob} (hq : h.get q = some o) : HP.get ((k, ob) :: h) q = some o := by
  simp only [HP.get]
  rw [if_neg]
  · exact hq
  · rintro rfl
    exact hk (keys_of_get hq)
theorem treeOf_cons (hk : k ∉ h.map Prod.fst) {v : V} {t : T} (ht : treeOf h v = some t) : treeOf ((k, ob) :: h) v = some t := by
  cases v <;> simp only [treeOf] at ht ⊢ <;> try exact ht
  rename_i q sz off len
  cases ho : h.get q with
  | none => simp [ho] at ht
  | some o => rw [ho] at ht; rw [get_cons hk ho]; exact ht
theorem treesOf_cons (hk : k ∉ h.map Prod.fst) : ∀ {cs : List V} {ts : List T}, treesOf h cs = some ts → treesOf ((k, ob) :: h) cs = some ts
  | [], ts, ht => ht
  | c :: cs, ts, ht => by
    simp only [treesOf] at ht ⊢
    cases h1 : treeOf h c with
    | none => simp [h1] at ht
    | some x =>
      cases h2 : treesOf h cs with
      | none => simp [h1, h2] at ht
      | some xs => rw [treeOf_cons hk h1, treesOf_cons hk h2]; rw [h1, h2] at ht; exact ht
theorem keysOf1_cons (hk : k ∉ h.map Prod.fst) {v x : V} (hc : capOf h v = some x) : keysOf1 ((k, ob) :: h) v = keysOf1 h v := by
  cases v <;> try rfl
  rename_i q sz i j
  rcases i with _ | i <;> try rfl
  rcases j with _ | j <;> try rfl
  simp only [capOf] at hc
  cases ho : h.get q with
  | none => simp [ho] at hc
  | some o => simp only [keysOf1]; rw [ho, get_cons hk ho]
theorem capOf_cons (hk : k ∉ h.map Prod.fst) {v x : V} (hc : capOf h v = some x) : capOf ((k, ob) :: h) v = some x := by
  cases v <;> try exact hc
  · rename_i q sz off len
    simp only [capOf] at hc ⊢
    cases ht : treeOf h (.ow q sz off len) with
    | none => simp [ht] at hc
    | some t => rw [treeOf_cons hk ht]; rw [ht] at hc; exact hc
  · rename_i q sz i j
    rcases i with _ | i <;> try (exact hc)
    rcases j with _ | j <;> try (exact hc)
    simp only [capOf] at hc ⊢
    cases ho : h.get q with
    | none => simp [ho] at hc
    | some o =>
      rw [ho] at hc
      rw [get_cons hk ho]
      cases o with
      | row _ _ _ _ => exact hc
      | box ty cs =>
        simp only at hc ⊢
        cases hts : treesOf h cs with
        | none => simp [hts] at hc
        | some ts => rw [treesOf_cons hk hts]; rw [hts] at hc; exact hc
theorem capsOf_cons (hk : k ∉ h.map Prod.fst) : ∀ {vs xs : List V}, capsOf h vs = some xs → capsOf ((k, ob) :: h) vs = some xs ∧ vs.flatMap (keysOf1 ((k, ob) :: h)) = vs.flatMap (keysOf1 h)
  | [], xs, hc => ⟨hc, rfl⟩
  | v :: vs, xs, hc => by
    simp only [capsOf] at hc ⊢
    cases h1 : capOf h v with
    | none => simp [h1] at hc
    | some x =>
      cases h2 : capsOf h vs with
      | none => simp [h1, h2] at hc
      | some ys =>
        obtain ⟨g1, g2⟩ := capsOf_cons hk h2
        rw [capOf_cons hk h1, g1, List.flatMap_cons, List.flatMap_cons, g2, keysOf1_cons hk h1]
        rw [h1, h2] at hc
        exact ⟨hc, rfl⟩
theorem treesKeys_cons (hk : k ∉ h.map Prod.fst) : ∀ {cs : List V} {ts : List T}, treesOf h cs = some ts → cs.flatMap (keysOf1 ((k, ob) :: h)) = cs.flatMap (keysOf1 h)
  | [], ts, _ => rfl
  | c :: cs, ts, ht => by
    simp only [treesOf] at ht
    cases h1 : treeOf h c with
    | none => simp [h1] at ht
    | some x =>
      cases h2 : treesOf h cs with
      | none => simp [h1, h2] at ht
      | some xs =>
        rw [List.flatMap_cons, List.flatMap_cons, treesKeys_cons hk h2]
        cases c <;> first | rfl | (simp [treeOf] at h1; done)
theorem pureOf_cons (hk : k ∉ h.map Prod.fst) {v x : V} (hc : pureOf h v = some x) : pureOf ((k, ob) :: h) v = some x ∧ keysOf ((k, ob) :: h) v = keysOf h v := by
  cases v <;> try exact ⟨hc, rfl⟩
  · rename_i q sz off len
    simp only [pureOf] at hc ⊢
    cases ht : treeOf h (.ow q sz off len) with
    | none => simp [ht] at hc
    | some t => rw [treeOf_cons hk ht]; rw [ht] at hc; exact ⟨hc, rfl⟩
  · rename_i cs
    simp only [pureOf] at hc ⊢
    cases hts : treesOf h cs with
    | none => simp [hts] at hc
    | some ts => rw [treesOf_cons hk hts]; rw [hts] at hc; exact ⟨hc, treesKeys_cons hk hts⟩
  · rename_i f caps
    simp only [pureOf] at hc ⊢
    cases hcs : capsOf h caps with
    | none => simp [hcs] at hc
    | some cs =>
      obtain ⟨g1, g2⟩ := capsOf_cons (ob := ob) hk hcs
      rw [g1]; rw [hcs] at hc; exact ⟨hc, g2⟩
theorem puresOf_cons (hk : k ∉ h.map Prod.fst) : ∀ {vs xs : List V}, puresOf h vs = some xs → puresOf ((k, ob) :: h) vs = some xs ∧ vs.flatMap (keysOf ((k, ob) :: h)) = vs.flatMap (keysOf h)
  | [], xs, hc => ⟨hc, rfl⟩
  | v :: vs, xs, hc => by
    simp only [puresOf] at hc ⊢
    cases h1 : pureOf h v with
    | none => simp [h1] at hc
    | some x =>
      cases h2 : puresOf h vs with
      | none => simp [h1, h2] at hc
      | some ys =>
        obtain ⟨g1, g2⟩ := puresOf_cons hk h2
        obtain ⟨g3, g4⟩ := pureOf_cons (ob := ob) hk h1
        rw [g3, g1, List.flatMap_cons, List.flatMap_cons, g2, g4]
        rw [h1, h2] at hc
        exact ⟨hc, rfl⟩
theorem callQ_cons (hk : k ∉ h.map Prod.fst) {run : Run} {f : Nat} {args : List V} {r : V} (hc : callQ run f args h = some r) : callQ run f args ((k, ob) :: h) = some r := by
  unfold callQ at hc ⊢
  cases hps : puresOf h args with
  | none => simp [hps] at hc
  | some ps =>
    obtain ⟨g1, g2⟩ := puresOf_cons (ob := ob) hk hps
    rw [g1, g2]
    rw [hps] at hc
    exact hc
end

/-- It makes a variable. -/
theorem evPo_cls2 (C : Cfg) (run : Run) (d me : Nat) {s : St} {p : Po} (hp : p.cls = 2) {v : V} {h : HP} {c : Nat} (hr : evPo C run d me s p = some (v, h, c)) : c = s.ck ∧ ∃ ob, h = (⟨d, s.ck, me⟩, ob) :: s.hp := by
  cases p <;> simp [Po.cls] at hp <;> simp only [evPo] at hr
  cases hr
  exact ⟨rfl, _, rfl⟩

section
variable {C : Cfg} {run : Run}

theorem evG_cls0 {me : Nat} {s : St} {p : Pop} (hp : p.op.cls = 0) {v : V} {h : HP} {c : Nat} (hr : evG C run me p s = some (v, h, c)) : h = s.hp ∧ c = s.ck ∧ ∀ h2 c2, evG C run me p ⟨s.env, h2, c2⟩ = some (v, h2, c2) := by
  unfold evG at hr ⊢
  cases hg : p.g with
  | none => rw [hg] at hr; exact evPo_cls0 C run _ me hp hr
  | some q =>
    obtain ⟨t, want⟩ := q
    rw [hg] at hr
    simp only at hr ⊢
    cases hx : s.env.get t <;> rw [hx] at hr <;> (try simp only at hr ⊢) <;> first
      | (cases hr; done)
      | (cases hr; exact ⟨rfl, rfl, fun _ _ => rfl⟩)
      | skip
    rename_i y
    cases y <;> (try simp only at hr ⊢) <;> first | (cases hr; done) | skip
    rename_i x
    by_cases hw : x = want
    · rw [if_pos hw] at hr
      simp only [if_pos hw]
      exact evPo_cls0 C run _ me hp hr
    · rw [if_neg hw] at hr
      cases hr
      simp only [if_neg hw]
      exact ⟨trivial, trivial, fun _ _ => trivial⟩

theorem evG_cls1 {me : Nat} {s : St} {p : Pop} (hp : p.op.cls = 1 ∨ p.op.cls = 4) {v : V} {h : HP} {c : Nat} (hr : evG C run me p s = some (v, h, c)) : h = s.hp ∧ c = s.ck := by
  unfold evG at hr
  cases hg : p.g with
  | none => rw [hg] at hr; exact evPo_cls1 C run _ me hp hr
  | some q =>
    obtain ⟨t, want⟩ := q
    rw [hg] at hr
    simp only at hr
    cases hx : s.env.get t <;> rw [hx] at hr <;> (try simp only at hr) <;> first
      | (cases hr; done)
      | (cases hr; exact ⟨rfl, rfl⟩)
      | skip
    rename_i y
    cases y <;> (try simp only at hr) <;> first | (cases hr; done) | skip
    rename_i x
    by_cases hw : x = want
    · rw [if_pos hw] at hr
      exact evPo_cls1 C run _ me hp hr
    · rw [if_neg hw] at hr
      cases hr
      exact ⟨rfl, rfl⟩

theorem evG_load {me : Nat} {s : St} {p : Pop} (hp : p.op.cls = 1 ∨ p.op.cls = 4) {v : V} {h : HP} {c : Nat} (hr : evG C run me p s = some (v, h, c)) {k : Key} (hk : k ∉ s.hp.map Prod.fst) (ob : Ob) (c2 : Nat) : evG C run me p ⟨s.env, (k, ob) :: s.hp, c2⟩ = some (v, (k, ob) :: s.hp, c2) := by
  have hl : ∀ {v h c}, evPo C run (p.dst.getD 0) me s p.op = some (v, h, c) → evPo C run (p.dst.getD 0) me ⟨s.env, (k, ob) :: s.hp, c2⟩ p.op = some (v, (k, ob) :: s.hp, c2) := by
    intro v h c hr
    cases hop : p.op <;> rw [hop] at hp hr
    case load ag n x =>
      simp only [evPo] at hr ⊢
      cases hx : load s.hp ag n (x.ev s.env) with
      | none => simp [hx] at hr
      | some r =>
        simp [hx] at hr
        rw [load_cons hk hx, hr.1]
        rfl
    case callq f as =>
      simp only [evPo] at hr ⊢
      cases hx : callQ run f (as.map (·.ev s.env)) s.hp with
      | none => simp [hx] at hr
      | some r =>
        simp [hx] at hr
        rw [callQ_cons hk hx, hr.1]
        rfl
    all_goals (simp [Po.cls] at hp)
  unfold evG at hr ⊢
  cases hg : p.g with
  | none => rw [hg] at hr; exact hl hr
  | some q =>
    obtain ⟨t, want⟩ := q
    rw [hg] at hr
    simp only at hr ⊢
    cases hx : s.env.get t <;> rw [hx] at hr <;> (try simp only at hr ⊢) <;> first
      | (cases hr; done)
      | (cases hr; rfl)
      | skip
    rename_i y
    cases y <;> (try simp only at hr ⊢) <;> first | (cases hr; done) | skip
    rename_i x
    by_cases hw : x = want
    · rw [if_pos hw] at hr
      simp only [if_pos hw]
      exact hl hr
    · rw [if_neg hw] at hr
      cases hr
      simp only [if_neg hw]

theorem evG_cls2 {me : Nat} {s : St} {p : Pop} (hp : p.op.cls = 2) {v : V} {h : HP} {c : Nat} (hr : evG C run me p s = some (v, h, c)) : c = s.ck ∧ (h = s.hp ∨ ∃ ob, h = (⟨p.dst.getD 0, s.ck, me⟩, ob) :: s.hp) := by
  unfold evG at hr
  cases hg : p.g with
  | none =>
    rw [hg] at hr
    obtain ⟨h1, h2⟩ := evPo_cls2 C run _ me hp hr
    exact ⟨h1, .inr h2⟩
  | some q =>
    obtain ⟨t, want⟩ := q
    rw [hg] at hr
    simp only at hr
    cases hx : s.env.get t <;> rw [hx] at hr <;> (try simp only at hr) <;> first
      | (cases hr; done)
      | (cases hr; exact ⟨rfl, .inl rfl⟩)
      | skip
    rename_i y
    cases y <;> (try simp only at hr) <;> first | (cases hr; done) | skip
    rename_i x
    by_cases hw : x = want
    · rw [if_pos hw] at hr
      obtain ⟨h1, h2⟩ := evPo_cls2 C run _ me hp hr
      exact ⟨h1, .inr h2⟩
    · rw [if_neg hw] at hr
      cases hr
      exact ⟨rfl, .inl rfl⟩

/-! ### changing places -/
theorem putD_get (e : Env) (d : Option Nat) (v : V) (t : Nat) : (putD e d v).get t = if d = some t then v else e.get t := by
  cases d with
  | none => simp [putD]
  | some d =>
    simp only [putD, Env.get_put]
    by_cases h : t = d
    · subst h; simp
    · rw [if_neg h, if_neg (by intro e; cases e; exact h rfl)]

theorem evOp_eqv {me : Nat} {p : Pop} {s s1 sb : St} (h : evOp C run me p s = some s1) (he : Eqv s sb) : ∃ sb1, evOp C run me p sb = some sb1 ∧ Eqv s1 sb1 := by
  unfold evOp at h ⊢
  rw [← evG_congr C run me (p := p) (fun t _ => he.env t) he.hp he.ck]
  cases hr : evG C run me p s with
  | none => simp [hr] at h
  | some r =>
    simp [hr] at h
    subst h
    exact ⟨_, rfl, fun t => by simp only [putD_get]; rw [he.env], rfl, rfl⟩
theorem evOps_eqv {qs : List (Nat × Pop)} : ∀ {s s1 sb : St}, evOps C run qs s = some s1 → Eqv s sb → ∃ sb1, evOps C run qs sb = some sb1 ∧ Eqv s1 sb1 := by
  induction qs with
  | nil => intro s s1 sb h he; simp [evOps] at h; subst h; exact ⟨sb, rfl, he⟩
  | cons q qs ih =>
    intro s s1 sb h he
    obtain ⟨me, p⟩ := q
    simp only [evOps] at h ⊢
    cases hr : evOp C run me p s with
    | none => simp [hr] at h
    | some s2 =>
      simp [hr] at h
      obtain ⟨sb2, h1, h2⟩ := evOp_eqv hr he
      rw [h1]
      exact ih h h2

theorem meets_not {a b : List Nat} (h : (!meets a b) = true) {t : Nat} (ha : t ∈ a) (hb : t ∈ b) : False := by
  simp only [meets, Bool.not_eq_true', List.any_eq_false] at h
  exact h t ha (by simpa using hb)

theorem swap2 {i j : Nat} {x y : Pop} {s s1 s2 : St} (hy : evOp C run j y s = some s1) (hx : evOp C run i x s1 = some s2) (hf : free2 y x = true) (hk : x.op.cls = 2 → (⟨x.dst.getD 0, s.ck, i⟩ : Key) ∉ s.hp.map Prod.fst) :
    ∃ s1' s2', evOp C run i x s = some s1' ∧ evOp C run j y s1' = some s2' ∧ Eqv s2 s2' := by
  unfold free2 at hf
  rw [Bool.and_eq_true, Bool.and_eq_true] at hf
  obtain ⟨⟨f1, f2⟩, f3⟩ := hf
  have hdx : ∀ t, y.dst = some t → t ∉ x.rd ∧ x.dst ≠ some t := by
    intro t ht
    refine ⟨fun h => ?_, fun h => ?_⟩
    · exact meets_not f1 (t := t) (by simp [ht]) (List.mem_append.2 (.inl h))
    · exact meets_not f1 (t := t) (by simp [ht]) (List.mem_append.2 (.inr (by simp [h])))
  have hdy : ∀ t, x.dst = some t → t ∉ y.rd := fun t ht h => meets_not f2 (t := t) (by simp [ht]) h
  unfold evOp at hy hx
  cases hry : evG C run j y s with
  | none => simp [hry] at hy
  | some ry =>
    obtain ⟨vy, hpy, cy⟩ := ry
    simp [hry] at hy
    subst hy
    cases hrx : evG C run i x ⟨putD s.env y.dst vy, hpy, cy⟩ with
    | none => simp [hrx] at hx
    | some rx =>
      obtain ⟨vx, hpx, cx⟩ := rx
      simp [hrx] at hx
      subst hx
      have ax : AgreeOn x.rd (putD s.env y.dst vy) s.env := fun t ht => by
        rw [putD_get, if_neg]
        intro e
        exact (hdx t e).1 ht
      have ay : AgreeOn y.rd (putD s.env x.dst vx) s.env := fun t ht => by
        rw [putD_get, if_neg]
        intro e
        exact hdy t e ht
      have hend : ∀ hp0 c0 hp1 c1, evG C run i x s = some (vx, hp0, c0) → evG C run j y ⟨putD s.env x.dst vx, hp0, c0⟩ = some (vy, hp1, c1) → hp1 = hpx → c1 = cx → ∃ s1' s2', evOp C run i x s = some s1' ∧ evOp C run j y s1' = some s2' ∧ Eqv ⟨putD (putD s.env y.dst vy) x.dst vx, hpx, cx⟩ s2' := by
        intro hp0 c0 hp1 c1 h1 h2 h3 h4
        refine ⟨⟨putD s.env x.dst vx, hp0, c0⟩, ⟨putD (putD s.env x.dst vx) y.dst vy, hp1, c1⟩, by simp [evOp, h1], by simp [evOp, h2], fun t => ?_, h3.symm, h4.symm⟩
        simp only [putD_get]
        by_cases hxt : x.dst = some t
        · rw [if_pos hxt, if_neg, if_pos hxt]
          intro hyt
          exact (hdx t hyt).2 hxt
        · rw [if_neg hxt]
          by_cases hyt : y.dst = some t
          · rw [if_pos hyt, if_pos hyt]
          · rw [if_neg hyt, if_neg hyt, if_neg hxt]
      unfold heapMay at f3
      simp only [Bool.or_eq_true, Bool.and_eq_true, beq_iff_eq] at f3
      rcases f3 with ((h0 | h0) | ⟨h1, h2⟩) | ⟨h1, h2⟩
      · obtain ⟨rfl, rfl, g3⟩ := evG_cls0 h0 hry
        have e1 : evG C run i x s = some (vx, hpx, cx) := by rw [← hrx]; exact (evG_congr C run i (p := x) (s := ⟨putD s.env y.dst vy, s.hp, s.ck⟩) (s' := s) ax rfl rfl).symm
        exact hend hpx cx hpx cx e1 (by rw [← g3 hpx cx]; exact evG_congr C run j (p := y) ay rfl rfl) rfl rfl
      · obtain ⟨g1, g2, g3⟩ := evG_cls0 h0 hrx
        simp only at g1 g2 g3
        have e1 : evG C run i x s = some (vx, s.hp, s.ck) := by rw [← g3 s.hp s.ck]; exact (evG_congr C run i (p := x) (s := ⟨putD s.env y.dst vy, s.hp, s.ck⟩) (s' := s) ax rfl rfl).symm
        exact hend s.hp s.ck hpy cy e1 (by rw [← hry]; exact evG_congr C run j (p := y) ay rfl rfl) g1.symm g2.symm
      · obtain ⟨rfl, rfl⟩ := evG_cls1 h1 hry
        obtain ⟨g1, g2⟩ := evG_cls1 h2 hrx
        simp only at g1 g2
        have e1 : evG C run i x s = some (vx, hpx, cx) := by rw [← hrx]; exact (evG_congr C run i (p := x) (s := ⟨putD s.env y.dst vy, s.hp, s.ck⟩) (s' := s) ax rfl rfl).symm
        refine hend hpx cx s.hp s.ck e1 ?_ g1.symm g2.symm
        rw [g1, g2, ← hry]
        exact evG_congr C run j (p := y) ay rfl rfl
      · obtain ⟨rfl, rfl⟩ := evG_cls1 h1 hry
        obtain ⟨g1, g2⟩ := evG_cls2 h2 hrx
        simp only at g1 g2
        have e1 : evG C run i x s = some (vx, hpx, cx) := by rw [← hrx]; exact (evG_congr C run i (p := x) (s := ⟨putD s.env y.dst vy, s.hp, s.ck⟩) (s' := s) ax rfl rfl).symm
        refine hend hpx cx hpx cx e1 ?_ rfl rfl
        have hcg : evG C run j y ⟨putD s.env x.dst vx, hpx, cx⟩ = evG C run j y ⟨s.env, hpx, cx⟩ := evG_congr C run j (p := y) ay rfl rfl
        rw [hcg]
        rcases g2 with g2 | ⟨ob, g2⟩
        · rw [g2, g1]
          exact hry
        · rw [g2]
          exact evG_load h1 hry (hk h2) ob cx

theorem evOps_cons (i : Nat) (p : Pop) (qs : List (Nat × Pop)) (s : St) : evOps C run ((i, p) :: qs) s = (evOp C run i p s).bind (evOps C run qs) := by
  simp only [evOps]
  cases evOp C run i p s <;> rfl

/-- It may be moved ahead. -/
theorem front {i : Nat} {x : Pop} {post : List (Nat × Pop)} : ∀ (pre : List (Nat × Pop)) {s s' : St}, evOps C run (pre ++ (i, x) :: post) s = some s' → (∀ y ∈ pre, free2 y.2 x = true) → (x.op.cls = 2 → (⟨x.dst.getD 0, s.ck, i⟩ : Key) ∉ s.hp.map Prod.fst) →
    ∃ s'', evOps C run ((i, x) :: (pre ++ post)) s = some s'' ∧ Eqv s' s''
  | [], s, s', h, _, _ => ⟨s', h, Eqv.refl _⟩
  | (j, y) :: pre, s, s', h, hf, hk => by
    rw [List.cons_append, evOps_cons] at h
    cases hy : evOp C run j y s with
    | none => simp [hy] at h
    | some s1 =>
      simp only [hy, Option.bind_some] at h
      have hfy : free2 y x = true := hf (j, y) List.mem_cons_self
      have hk1 : x.op.cls = 2 → (⟨x.dst.getD 0, s1.ck, i⟩ : Key) ∉ s1.hp.map Prod.fst := by
        intro hc
        have hs1 : s1.hp = s.hp ∧ s1.ck = s.ck := by
          unfold free2 at hfy
          rw [Bool.and_eq_true, Bool.and_eq_true] at hfy
          have h3 := hfy.2
          unfold heapMay at h3
          simp only [Bool.or_eq_true, Bool.and_eq_true, beq_iff_eq] at h3
          unfold evOp at hy
          cases hry : evG C run j y s with
          | none => simp [hry] at hy
          | some ry =>
            obtain ⟨vy, hpy, cy⟩ := ry
            simp [hry] at hy
            subst hy
            rcases h3 with ((h0 | h0) | ⟨h1, h2⟩) | ⟨h1, h2⟩
            · obtain ⟨a1, a2, _⟩ := evG_cls0 h0 hry; exact ⟨a1, a2⟩
            · omega
            · omega
            · exact evG_cls1 h1 hry
        rw [hs1.1, hs1.2]
        exact hk hc
      obtain ⟨s2, h2, e2⟩ := front pre h (fun z hz => hf z (List.mem_cons_of_mem _ hz)) hk1
      rw [evOps_cons] at h2
      cases hx : evOp C run i x s1 with
      | none => simp [hx] at h2
      | some sx =>
        simp only [hx, Option.bind_some] at h2
        obtain ⟨t1, t2, a1, a2, a3⟩ := swap2 hy hx hfy hk
        obtain ⟨s3, h3, e3⟩ := evOps_eqv h2 a3
        refine ⟨s3, ?_, e2.trans e3⟩
        rw [evOps_cons, a1, Option.bind_some, List.cons_append, evOps_cons, a2, Option.bind_some]
        exact h3
end
end Go.Pev
