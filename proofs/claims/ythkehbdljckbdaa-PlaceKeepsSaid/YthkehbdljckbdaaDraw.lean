/- Operations of an open order: whoever stands apart may change places. No machine in sight. -/
import Derived.Test.YthkehbdljckbdaaComp
import Derived.Test.YthkehbdljckbdaaHpe
set_option linter.unusedVariables false
set_option linter.unusedSimpArgs false
namespace Go.Pev
open Go

structure Eqv (lo : Bool) (s s' : St) : Prop where
  env : ∀ t, s.env.get t = s'.env.get t
  hp : HPe s.hp s'.hp
  st : lo = false → s.hp = s'.hp
  ck : s.ck = s'.ck
theorem Eqv.refl {lo : Bool} (s : St) : Eqv lo s s := ⟨fun _ => rfl, .refl _, fun _ => rfl, rfl⟩
theorem Eqv.symm {lo : Bool} {s s' : St} (h : Eqv lo s s') : Eqv lo s' s := ⟨fun t => (h.env t).symm, h.hp.symm, fun e => (h.st e).symm, h.ck.symm⟩
theorem Eqv.trans {lo : Bool} {a b c : St} (h : Eqv lo a b) (k : Eqv lo b c) : Eqv lo a c := ⟨fun t => (h.env t).trans (k.env t), h.hp.trans k.hp, fun e => (h.st e).trans (k.st e), h.ck.trans k.ck⟩

def AgreeOn (ts : List Nat) (e e' : Env) : Prop := ∀ t ∈ ts, e.get t = e'.get t

theorem opd_congr {e e' : Env} {x : Opd} (h : AgreeOn x.rd e e') : x.ev e = x.ev e' := by
  cases x with
  | tmp t => exact h t (by simp [Opd.rd])
  | c v => rfl
theorem opdo_congr {e e' : Env} {x : Option Opd} (h : AgreeOn (Opd.rdo x) e e') : opt e x = opt e' x := by
  cases x with
  | none => rfl
  | some x => exact congrArg some (opd_congr h)
theorem AgreeOn.l {a b : List Nat} {e e' : Env} (h : AgreeOn (a ++ b) e e') : AgreeOn a e e' := fun t ht => h t (List.mem_append.2 (.inl ht))
theorem AgreeOn.r {a b : List Nat} {e e' : Env} (h : AgreeOn (a ++ b) e e') : AgreeOn b e e' := fun t ht => h t (List.mem_append.2 (.inr ht))
theorem opds_congr {e e' : Env} : ∀ {xs : List Opd} (h : AgreeOn (xs.flatMap (·.rd)) e e'), xs.map (·.ev e) = xs.map (·.ev e')
  | [], _ => rfl
  | x :: xs, h => by
    rw [List.flatMap_cons] at h
    simp only [List.map_cons]
    rw [opd_congr h.l, opds_congr h.r]
theorem buildV_congr {e e' : Env} : ∀ {ps : List (Nat × Nat × Opd)} (z : List V) (h : AgreeOn (ps.flatMap fun p => p.2.2.rd) e e'), buildV z e ps = buildV z e' ps
  | [], z, _ => rfl
  | (o, n, x) :: ps, z, h => by
    rw [List.flatMap_cons] at h
    simp only [buildV]
    rw [opd_congr h.l]
    cases cells (x.ev e') with
    | none => rfl
    | some cs => simp only [buildV_congr (over z o cs) h.r]
theorem rowsOf_congr {e e' : Env} (hp : HP) (n : Nat) : ∀ {xs : List Opd} (h : AgreeOn (xs.flatMap (·.rd)) e e'), rowsOf hp e n xs = rowsOf hp e' n xs ∧ keysOfs hp e xs = keysOfs hp e' xs
  | [], _ => ⟨rfl, rfl⟩
  | x :: xs, h => by
    rw [List.flatMap_cons] at h
    simp only [rowsOf, keysOfs]
    rw [opd_congr h.l, (rowsOf_congr hp n h.r).1, (rowsOf_congr hp n h.r).2]
    exact ⟨rfl, rfl⟩

theorem callEv_congr (C : Cfg) (run : Run) (f : Nat) (as : List V) {s s' : St} (hh : s.hp = s'.hp) (hc : s.ck = s'.ck) (k : Key) : callEv C run f as s k = callEv C run f as s' k := by
  unfold callEv
  rw [hh, hc]

theorem evPo_congr (C : Cfg) (run : Run) (d me : Nat) {s s' : St} {p : Po} (he : AgreeOn p.rd s.env s'.env) (hh : s.hp = s'.hp) (hc : s.ck = s'.ck) : evPo C run d me s p = evPo C run d me s' p := by
  cases p <;> simp only [Po.rd] at he <;> simp only [evPo]
  case pick c a b => rw [opd_congr he.l.l, opd_congr he.l.r, opd_congr he.r, hh, hc]
  case build z ps => rw [buildV_congr z he, hh, hc]
  case bslT n ps => rw [hh, (rowsOf_congr s'.hp n he).1, (rowsOf_congr s'.hp n he).2, hc]
  case callo f as => rw [opds_congr he, hh, hc]
  case callR f as => rw [opds_congr he, hc, hh, callEv_congr C run f _ hh hc]
  case storeR n x y => rw [opd_congr he.l, opd_congr he.r, hh, hc]
  case bslF n ps => rw [hh, (rowsOf_congr s'.hp n he).1, (rowsOf_congr s'.hp n he).2, hc]
  case storeD n x y zs =>
    have hz : zs.all (fun z => apart (x.ev s.env) (s.env.get z)) = zs.all (fun z => apart (x.ev s.env) (s'.env.get z)) := by
      rw [Bool.eq_iff_iff, List.all_eq_true, List.all_eq_true]
      exact ⟨fun h z hz => by rw [← he.r z hz]; exact h z hz, fun h z hz => by rw [he.r z hz]; exact h z hz⟩
    rw [hz, opd_congr he.l.l, opd_congr he.l.r, hh, hc]
  case bslO t n ps => rw [hh, (rowsOf_congr s'.hp n he).1, (rowsOf_congr s'.hp n he).2, hc]
  case mkfn f cs => rw [opds_congr he, hh, hc]
  case mm b xs => rw [opds_congr he, hh, hc]
  case call f as => rw [opds_congr he, hc, callEv_congr C run f _ hh hc]
  case callq f as => rw [opds_congr he, hh, hc]
  case callv x as => rw [opd_congr he.l, opds_congr he.r, hc]; simp only [callEv_congr C run _ _ hh hc]
  case slS x lo hi => rw [opd_congr he.l.l, opdo_congr he.l.r, opdo_congr he.r, hh, hc]
  case sls n x lo hi => rw [opd_congr he.l.l, opdo_congr he.l.r, opdo_congr he.r, hh, hc]
  case nilv => rw [hh, hc]
  case alloc => rw [hh, hc]
  case lenc => rw [hh, hc]
  case store n x y => rw [opd_congr he.l, opd_congr he.r, hh, hc]
  case bin o x y => rw [opd_congr he.l, opd_congr he.r, hh, hc]
  case beq o x y => rw [opd_congr he.l, opd_congr he.r, hh, hc]
  case mks t n b z x y => rw [opd_congr he.l, opd_congr he.r, hh, hc]
  case ixS n x y => rw [opd_congr he.l, opd_congr he.r, hh, hc]
  case ixA n m x y => rw [opd_congr he.l, opd_congr he.r, hh, hc]
  case ixV b n m x y => rw [opd_congr he.l, opd_congr he.r, hh, hc]
  case ixs x y => rw [opd_congr he.l, opd_congr he.r, hh, hc]
  case app t n b x y => rw [opd_congr he.l, opd_congr he.r, hh, hc]
  all_goals rw [opd_congr he, hh, hc]

theorem evG_congr (C : Cfg) (run : Run) (me : Nat) {s s' : St} {p : Pop} (he : AgreeOn p.rd s.env s'.env) (hh : s.hp = s'.hp) (hc : s.ck = s'.ck) : evG C run me p s = evG C run me p s' := by
  unfold Pop.rd at he
  unfold evG
  rw [evPo_congr C run (p.dst.getD 0) me he.r hh hc]
  cases hg : p.g with
  | none => rfl
  | some q =>
    obtain ⟨t, want⟩ := q
    rw [hg] at he
    have := he t (by simp)
    simp only [this, hh, hc]

theorem map3 {x : Option V} {h h2 : HP} {c c2 : Nat} {v : V} {h' : HP} {c' : Nat} (hr : x.map (·, h, c) = some (v, h', c')) : h' = h ∧ c' = c ∧ ∀ (h2 : HP) (c2 : Nat), x.map (·, h2, c2) = some (v, h2, c2) := by
  cases x with
  | none => cases hr
  | some y => cases hr; exact ⟨rfl, rfl, fun _ _ => rfl⟩

/-- Nothing of the heap. -/
theorem evPo_cls0 (C : Cfg) (run : Run) (d me : Nat) {s : St} {p : Po} (hp : p.cls = 0) {v : V} {h : HP} {c : Nat} (hr : evPo C run d me s p = some (v, h, c)) : h = s.hp ∧ c = s.ck ∧ ∀ h2 c2, evPo C run d me ⟨s.env, h2, c2⟩ p = some (v, h2, c2) := by
  cases p
  case mv x => simp only [evPo] at hr ⊢; cases hr; exact ⟨rfl, rfl, fun _ _ => rfl⟩
  case pick => simp only [evPo] at hr ⊢; exact map3 (h2 := []) (c2 := 0) hr
  case build z ps =>
    simp only [evPo] at hr ⊢
    cases hb : buildV z s.env ps with
    | none => simp [hb] at hr
    | some r => simp [hb] at hr; obtain ⟨rfl, rfl, rfl⟩ := hr; exact ⟨rfl, rfl, fun _ _ => rfl⟩
  case nchk x =>
    simp only [evPo] at hr ⊢
    cases hx : x.ev s.env <;> rw [hx] at hr <;> first | (cases hr; done) | (cases hr; exact ⟨rfl, rfl, fun _ _ => rfl⟩)
  case bin => simp only [evPo] at hr ⊢; exact map3 (h2 := []) (c2 := 0) hr
  case beq => simp only [evPo] at hr ⊢; exact map3 (h2 := []) (c2 := 0) hr
  case isnilI => simp only [evPo] at hr ⊢; exact map3 (h2 := []) (c2 := 0) hr
  case isnilS => simp only [evPo] at hr ⊢; exact map3 (h2 := []) (c2 := 0) hr
  case isnilP => simp only [evPo] at hr ⊢; exact map3 (h2 := []) (c2 := 0) hr
  case un => simp only [evPo] at hr ⊢; exact map3 (h2 := []) (c2 := 0) hr
  case cvi => simp only [evPo] at hr ⊢; exact map3 (h2 := []) (c2 := 0) hr
  case cvs x =>
    simp only [evPo] at hr ⊢
    split at hr
    · rename_i y hy; cases hr; exact ⟨rfl, rfl, fun _ _ => by simp only [hy]⟩
    · cases hr
  case mkfn => simp only [evPo] at hr ⊢; cases hr; exact ⟨rfl, rfl, fun _ _ => rfl⟩
  case slS => simp only [evPo] at hr ⊢; exact map3 (h2 := []) (c2 := 0) hr
  case sls => simp only [evPo] at hr ⊢; exact map3 (h2 := []) (c2 := 0) hr
  case fad => simp only [evPo] at hr ⊢; exact map3 (h2 := []) (c2 := 0) hr
  case fld => simp only [evPo] at hr ⊢; exact map3 (h2 := []) (c2 := 0) hr
  case ixS => simp only [evPo] at hr ⊢; exact map3 (h2 := []) (c2 := 0) hr
  case ixA => simp only [evPo] at hr ⊢; exact map3 (h2 := []) (c2 := 0) hr
  case ixs => simp only [evPo] at hr ⊢; exact map3 (h2 := []) (c2 := 0) hr
  case ixV => simp only [evPo] at hr ⊢; exact map3 (h2 := []) (c2 := 0) hr
  case ext => simp only [evPo] at hr ⊢; exact map3 (h2 := []) (c2 := 0) hr
  case lenS => simp only [evPo] at hr ⊢; exact map3 (h2 := []) (c2 := 0) hr
  case lenL => simp only [evPo] at hr ⊢; exact map3 (h2 := []) (c2 := 0) hr
  case lenc => simp only [evPo] at hr ⊢; cases hr; exact ⟨rfl, rfl, fun _ _ => rfl⟩
  case mm b xs =>
    simp only [evPo] at hr ⊢
    cases hx : xs.map (·.ev s.env) with
    | nil => rw [hx] at hr; cases hr
    | cons v0 r => rw [hx] at hr; exact map3 (h2 := []) (c2 := 0) hr
  all_goals (simp [Po.cls] at hp)

/-- It reads the heap. -/
theorem evPo_cls1 (C : Cfg) (run : Run) (d me : Nat) {s : St} {p : Po} (hp : p.cls = 1 ∨ p.cls = 4) {v : V} {h : HP} {c : Nat} (hr : evPo C run d me s p = some (v, h, c)) : h = s.hp ∧ c = s.ck := by
  cases p <;> simp [Po.cls] at hp <;> simp only [evPo] at hr
  case load => have := map3 (h2 := []) (c2 := 0) hr; exact ⟨this.1, this.2.1⟩
  case loadB =>
    split at hr
    · have := map3 (h2 := []) (c2 := 0) hr; exact ⟨this.1, this.2.1⟩
    · cases hr
  case callq => have := map3 (h2 := []) (c2 := 0) hr; exact ⟨this.1, this.2.1⟩
  case cvbs x =>
    split at hr
    · rename_i xs _
      cases hu : u8s xs with
      | none => simp [hu] at hr
      | some r => simp [hu] at hr; exact ⟨hr.2.1.symm, hr.2.2.symm⟩
    · cases hr
  case bslF sz ps =>
    split at hr
    · cases hu : rowsOf s.hp s.env sz ps with
      | none => simp [hu] at hr
      | some r => simp [hu] at hr; exact ⟨hr.2.1.symm, hr.2.2.symm⟩
    · cases hr

theorem keys_of_get {h : HP} {k : Key} {o : Ob} (hk : h.get k = some o) : k ∈ h.map Prod.fst := by
  induction h with
  | nil => cases hk
  | cons p r ih =>
    obtain ⟨k', o'⟩ := p
    simp only [HP.get] at hk
    by_cases e : k' = k
    · subst e; simp
    · rw [if_neg e] at hk
      simp only [List.map_cons, List.mem_cons]
      exact .inr (ih hk)

theorem load_cons {h : HP} {k : Key} {ob : Ob} (hk : k ∉ h.map Prod.fst) {agg : Bool} {n : Nat} {x r : V} (hl : load h agg n x = some r) : load ((k, ob) :: h) agg n x = some r := by
  have hg : ∀ q o, h.get q = some o → HP.get ((k, ob) :: h) q = some o := by
    intro q o hq
    simp only [HP.get]
    rw [if_neg]
    · exact hq
    · rintro rfl
      exact hk (keys_of_get hq)
  cases x <;> simp only [load] at hl ⊢ <;> try exact hl
  rename_i q sz i j
  cases ho : h.get q with
  | none => simp [ho] at hl
  | some o =>
    rw [ho] at hl
    rw [hg _ _ ho]
    exact hl

section
variable {h : HP} {k : Key} {ob : Ob}
theorem get_cons (hk : k ∉ h.map Prod.fst) {q : Key} {o : Ob} (hq : h.get q = some o) : HP.get ((k, ob) :: h) q = some o := by
  simp only [HP.get]
  rw [if_neg]
  · exact hq
  · rintro rfl
    exact hk (keys_of_get hq)
theorem treeOf_cons (hk : k ∉ h.map Prod.fst) {v : V} {t : T} (ht : treeOf h v = some t) : treeOf ((k, ob) :: h) v = some t := by
  cases v <;> simp only [treeOf] at ht ⊢ <;> try exact ht
  rename_i q sz off len
  cases ho : h.get q with
  | none => simp [ho] at ht
  | some o => rw [ho] at ht; rw [get_cons hk ho]; exact ht
theorem treesOf_cons (hk : k ∉ h.map Prod.fst) : ∀ {cs : List V} {ts : List T}, treesOf h cs = some ts → treesOf ((k, ob) :: h) cs = some ts
  | [], ts, ht => ht
  | c :: cs, ts, ht => by
    simp only [treesOf] at ht ⊢
    cases h1 : treeOf h c with
    | none => simp [h1] at ht
    | some x =>
      cases h2 : treesOf h cs with
      | none => simp [h1, h2] at ht
      | some xs => rw [treeOf_cons hk h1, treesOf_cons hk h2]; rw [h1, h2] at ht; exact ht
theorem keysOf1_cons (hk : k ∉ h.map Prod.fst) {v x : V} (hc : capOf h v = some x) : keysOf1 ((k, ob) :: h) v = keysOf1 h v := by
  cases v <;> try rfl
  rename_i q sz i j
  rcases i with _ | i <;> try rfl
  rcases j with _ | j <;> try rfl
  simp only [capOf] at hc
  cases ho : h.get q with
  | none => simp [ho] at hc
  | some o => simp only [keysOf1]; rw [ho, get_cons hk ho]
theorem capOf_cons (hk : k ∉ h.map Prod.fst) {v x : V} (hc : capOf h v = some x) : capOf ((k, ob) :: h) v = some x := by
  cases v <;> try exact hc
  · rename_i q sz off len
    simp only [capOf] at hc ⊢
    cases ht : treeOf h (.ow q sz off len) with
    | none => simp [ht] at hc
    | some t => rw [treeOf_cons hk ht]; rw [ht] at hc; exact hc
  · rename_i q sz i j
    rcases i with _ | i <;> try (exact hc)
    rcases j with _ | j <;> try (exact hc)
    simp only [capOf] at hc ⊢
    cases ho : h.get q with
    | none => simp [ho] at hc
    | some o =>
      rw [ho] at hc
      rw [get_cons hk ho]
      cases o with
      | row _ _ _ _ => exact hc
      | box ty cs =>
        simp only at hc ⊢
        cases hts : treesOf h cs with
        | none => simp [hts] at hc
        | some ts => rw [treesOf_cons hk hts]; rw [hts] at hc; exact hc
theorem capsOf_cons (hk : k ∉ h.map Prod.fst) : ∀ {vs xs : List V}, capsOf h vs = some xs → capsOf ((k, ob) :: h) vs = some xs ∧ vs.flatMap (keysOf1 ((k, ob) :: h)) = vs.flatMap (keysOf1 h)
  | [], xs, hc => ⟨hc, rfl⟩
  | v :: vs, xs, hc => by
    simp only [capsOf] at hc ⊢
    cases h1 : capOf h v with
    | none => simp [h1] at hc
    | some x =>
      cases h2 : capsOf h vs with
      | none => simp [h1, h2] at hc
      | some ys =>
        obtain ⟨g1, g2⟩ := capsOf_cons hk h2
        rw [capOf_cons hk h1, g1, List.flatMap_cons, List.flatMap_cons, g2, keysOf1_cons hk h1]
        rw [h1, h2] at hc
        exact ⟨hc, rfl⟩
theorem treesKeys_cons (hk : k ∉ h.map Prod.fst) : ∀ {cs : List V} {ts : List T}, treesOf h cs = some ts → cs.flatMap (keysOf1 ((k, ob) :: h)) = cs.flatMap (keysOf1 h)
  | [], ts, _ => rfl
  | c :: cs, ts, ht => by
    simp only [treesOf] at ht
    cases h1 : treeOf h c with
    | none => simp [h1] at ht
    | some x =>
      cases h2 : treesOf h cs with
      | none => simp [h1, h2] at ht
      | some xs =>
        rw [List.flatMap_cons, List.flatMap_cons, treesKeys_cons hk h2]
        cases c <;> first | rfl | (simp [treeOf] at h1; done)
theorem pureOf_cons (hk : k ∉ h.map Prod.fst) {v x : V} (hc : pureOf h v = some x) : pureOf ((k, ob) :: h) v = some x ∧ keysOf ((k, ob) :: h) v = keysOf h v := by
  cases v <;> try exact ⟨hc, rfl⟩
  · rename_i q sz off len
    simp only [pureOf] at hc ⊢
    cases ht : treeOf h (.ow q sz off len) with
    | none => simp [ht] at hc
    | some t => rw [treeOf_cons hk ht]; rw [ht] at hc; exact ⟨hc, rfl⟩
  · rename_i cs
    simp only [pureOf] at hc ⊢
    cases hts : treesOf h cs with
    | none => simp [hts] at hc
    | some ts => rw [treesOf_cons hk hts]; rw [hts] at hc; exact ⟨hc, treesKeys_cons hk hts⟩
  · rename_i f caps
    simp only [pureOf] at hc ⊢
    cases hcs : capsOf h caps with
    | none => simp [hcs] at hc
    | some cs =>
      obtain ⟨g1, g2⟩ := capsOf_cons (ob := ob) hk hcs
      rw [g1]; rw [hcs] at hc; exact ⟨hc, g2⟩
theorem puresOf_cons (hk : k ∉ h.map Prod.fst) : ∀ {vs xs : List V}, puresOf h vs = some xs → puresOf ((k, ob) :: h) vs = some xs ∧ vs.flatMap (keysOf ((k, ob) :: h)) = vs.flatMap (keysOf h)
  | [], xs, hc => ⟨hc, rfl⟩
  | v :: vs, xs, hc => by
    simp only [puresOf] at hc ⊢
    cases h1 : pureOf h v with
    | none => simp [h1] at hc
    | some x =>
      cases h2 : puresOf h vs with
      | none => simp [h1, h2] at hc
      | some ys =>
        obtain ⟨g1, g2⟩ := puresOf_cons hk h2
        obtain ⟨g3, g4⟩ := pureOf_cons (ob := ob) hk h1
        rw [g3, g1, List.flatMap_cons, List.flatMap_cons, g2, g4]
        rw [h1, h2] at hc
        exact ⟨hc, rfl⟩
theorem rowsOf_cons (hk : k ∉ h.map Prod.fst) (e : Env) (n : Nat) : ∀ {xs : List Opd} {r : List (List T)}, rowsOf h e n xs = some r → rowsOf ((k, ob) :: h) e n xs = some r ∧ keysOfs ((k, ob) :: h) e xs = keysOfs h e xs
  | [], r, hr => ⟨hr, rfl⟩
  | x :: xs, r, hr => by
    simp only [rowsOf, keysOfs] at hr ⊢
    cases h1 : treesC h (x.ev e) with
    | none => simp [h1] at hr
    | some c =>
      cases h2 : rowsOf h e n xs with
      | none => simp [h1, h2] at hr
      | some cs =>
        obtain ⟨g1, g2⟩ := rowsOf_cons hk e n h2
        rw [g1, g2]
        rw [h1, h2] at hr
        unfold treesC at h1 ⊢
        cases hc : cells (x.ev e) with
        | none => simp [hc] at h1
        | some vs =>
          rw [hc] at h1
          simp only at h1 ⊢
          rw [treesOf_cons hk h1]
          refine ⟨hr, ?_⟩
          congr 1
          cases hx : x.ev e <;> try rfl
          rw [hx] at hc
          cases hc
          exact treesKeys_cons hk h1
theorem elsOf_cons (hk : k ∉ h.map Prod.fst) {sz : Nat} {v : V} {xs : List (List T)} (hr : elsOf h sz v = some xs) : elsOf ((k, ob) :: h) sz v = some xs := by
  unfold elsOf at hr ⊢
  cases ht : treeOf h v with
  | none => simp [ht] at hr
  | some t => rw [treeOf_cons hk ht]; rw [ht] at hr; exact hr
theorem isBox_cons (hk : k ∉ h.map Prod.fst) {v : V} (hb : isBox h v = true) : isBox ((k, ob) :: h) v = true := by
  cases v <;> try (simp [isBox] at hb; done)
  · rename_i q sz i j
    simp only [isBox] at hb ⊢
    cases ho : h.get q with
    | none => rw [ho] at hb; cases hb
    | some o => rw [get_cons hk ho]; rw [ho] at hb; exact hb
  · rfl
theorem callO_cons (hk : k ∉ h.map Prod.fst) {C : Cfg} {run : Run} {f : Nat} {args : List V} {new : Key} {r : V × Ob} (hc : callO C run f args h new = some r) : callO C run f args ((k, ob) :: h) new = some r := by
  unfold callO at hc ⊢
  cases hps : puresOf h args with
  | none =>
    rw [hps] at hc
    cases hf : args.flatMap (keysOf h) <;> rw [hf] at hc <;> cases hc
  | some ps =>
    obtain ⟨g1, g2⟩ := puresOf_cons (ob := ob) hk hps
    rw [g1, g2]
    rw [hps] at hc
    exact hc
theorem callQ_cons (hk : k ∉ h.map Prod.fst) {run : Run} {f : Nat} {args : List V} {r : V} (hc : callQ run f args h = some r) : callQ run f args ((k, ob) :: h) = some r := by
  unfold callQ at hc ⊢
  cases hps : puresOf h args with
  | none => simp [hps] at hc
  | some ps =>
    obtain ⟨g1, g2⟩ := puresOf_cons (ob := ob) hk hps
    rw [g1, g2]
    rw [hps] at hc
    exact hc
end

/-- It makes a variable. -/
theorem evPo_cls2 (C : Cfg) (run : Run) (d me : Nat) {s : St} {p : Po} (hp : p.cls = 2) {v : V} {h : HP} {c : Nat} (hr : evPo C run d me s p = some (v, h, c)) : c = s.ck ∧ ∃ ob, h = (⟨d, s.ck, me⟩, ob) :: s.hp ∧ ∀ h2, evPo C run d me ⟨s.env, h2, s.ck⟩ p = some (v, (⟨d, s.ck, me⟩, ob) :: h2, s.ck) := by
  cases p <;> simp [Po.cls] at hp <;> simp only [evPo] at hr ⊢
  · cases hr
    exact ⟨rfl, _, rfl, fun _ => rfl⟩
  · split at hr
    · rename_i n m hn hm
      split at hr
      · rename_i hc
        cases hr
        refine ⟨rfl, _, rfl, fun h2 => ?_⟩
        simp only [if_pos hc]
      · cases hr
    · cases hr

section
variable {C : Cfg} {run : Run}

theorem evG_cls0 {me : Nat} {s : St} {p : Pop} (hp : p.op.cls = 0) {v : V} {h : HP} {c : Nat} (hr : evG C run me p s = some (v, h, c)) : h = s.hp ∧ c = s.ck ∧ ∀ h2 c2, evG C run me p ⟨s.env, h2, c2⟩ = some (v, h2, c2) := by
  unfold evG at hr ⊢
  cases hg : p.g with
  | none => rw [hg] at hr; exact evPo_cls0 C run _ me hp hr
  | some q =>
    obtain ⟨t, want⟩ := q
    rw [hg] at hr
    simp only at hr ⊢
    cases hx : s.env.get t <;> rw [hx] at hr <;> (try simp only at hr ⊢) <;> first
      | (cases hr; done)
      | (cases hr; exact ⟨rfl, rfl, fun _ _ => rfl⟩)
      | skip
    rename_i y
    cases y <;> (try simp only at hr ⊢) <;> first | (cases hr; done) | skip
    rename_i x
    by_cases hw : x = want
    · rw [if_pos hw] at hr
      simp only [if_pos hw]
      exact evPo_cls0 C run _ me hp hr
    · rw [if_neg hw] at hr
      cases hr
      simp only [if_neg hw]
      exact ⟨trivial, trivial, fun _ _ => trivial⟩

theorem evG_cls1 {me : Nat} {s : St} {p : Pop} (hp : p.op.cls = 1 ∨ p.op.cls = 4) {v : V} {h : HP} {c : Nat} (hr : evG C run me p s = some (v, h, c)) : h = s.hp ∧ c = s.ck := by
  unfold evG at hr
  cases hg : p.g with
  | none => rw [hg] at hr; exact evPo_cls1 C run _ me hp hr
  | some q =>
    obtain ⟨t, want⟩ := q
    rw [hg] at hr
    simp only at hr
    cases hx : s.env.get t <;> rw [hx] at hr <;> (try simp only at hr) <;> first
      | (cases hr; done)
      | (cases hr; exact ⟨rfl, rfl⟩)
      | skip
    rename_i y
    cases y <;> (try simp only at hr) <;> first | (cases hr; done) | skip
    rename_i x
    by_cases hw : x = want
    · rw [if_pos hw] at hr
      exact evPo_cls1 C run _ me hp hr
    · rw [if_neg hw] at hr
      cases hr
      exact ⟨rfl, rfl⟩

theorem evG_load {me : Nat} {s : St} {p : Pop} (hp : p.op.cls = 1 ∨ p.op.cls = 4) {v : V} {h : HP} {c : Nat} (hr : evG C run me p s = some (v, h, c)) {k : Key} (hk : k ∉ s.hp.map Prod.fst) (ob : Ob) (c2 : Nat) : evG C run me p ⟨s.env, (k, ob) :: s.hp, c2⟩ = some (v, (k, ob) :: s.hp, c2) := by
  have hl : ∀ {v h c}, evPo C run (p.dst.getD 0) me s p.op = some (v, h, c) → evPo C run (p.dst.getD 0) me ⟨s.env, (k, ob) :: s.hp, c2⟩ p.op = some (v, (k, ob) :: s.hp, c2) := by
    intro v h c hr
    cases hop : p.op <;> rw [hop] at hp hr
    case load ag n x =>
      simp only [evPo] at hr ⊢
      cases hx : load s.hp ag n (x.ev s.env) with
      | none => simp [hx] at hr
      | some r =>
        simp [hx] at hr
        rw [load_cons hk hx, hr.1]
        rfl
    case loadB ag n x =>
      simp only [evPo] at hr ⊢
      split at hr
      · rename_i hb
        rw [if_pos (isBox_cons hk hb)]
        cases hx : load s.hp ag n (x.ev s.env) with
        | none => simp [hx] at hr
        | some r =>
          simp [hx] at hr
          rw [load_cons hk hx, hr.1]
          rfl
      · cases hr
    case callq f as =>
      simp only [evPo] at hr ⊢
      cases hx : callQ run f (as.map (·.ev s.env)) s.hp with
      | none => simp [hx] at hr
      | some r =>
        simp [hx] at hr
        rw [callQ_cons hk hx, hr.1]
        rfl
    case cvbs x =>
      simp only [evPo] at hr ⊢
      split at hr
      · rename_i xs hx
        rw [elsOf_cons hk hx]
        simp only
        cases hu : u8s xs with
        | none => simp [hu] at hr
        | some r => simp [hu] at hr; rw [← hr.1]; rfl
      · cases hr
    case bslF sz ps =>
      simp only [evPo] at hr ⊢
      split at hr
      · rename_i hks
        cases hu : rowsOf s.hp s.env sz ps with
        | none => simp [hu] at hr
        | some r =>
          obtain ⟨g1, g2⟩ := rowsOf_cons (ob := ob) hk s.env sz hu
          rw [g1, g2, hks]
          simp [hu] at hr; rw [← hr.1]; rfl
      · cases hr
    all_goals (simp [Po.cls] at hp)
  unfold evG at hr ⊢
  cases hg : p.g with
  | none => rw [hg] at hr; exact hl hr
  | some q =>
    obtain ⟨t, want⟩ := q
    rw [hg] at hr
    simp only at hr ⊢
    cases hx : s.env.get t <;> rw [hx] at hr <;> (try simp only at hr ⊢) <;> first
      | (cases hr; done)
      | (cases hr; rfl)
      | skip
    rename_i y
    cases y <;> (try simp only at hr ⊢) <;> first | (cases hr; done) | skip
    rename_i x
    by_cases hw : x = want
    · rw [if_pos hw] at hr
      simp only [if_pos hw]
      exact hl hr
    · rw [if_neg hw] at hr
      cases hr
      simp only [if_neg hw]

theorem evG_cls2 {me : Nat} {s : St} {p : Pop} (hp : p.op.cls = 2) {v : V} {h : HP} {c : Nat} (hr : evG C run me p s = some (v, h, c)) : c = s.ck ∧ ((h = s.hp ∧ ∀ h2, evG C run me p ⟨s.env, h2, s.ck⟩ = some (v, h2, s.ck)) ∨ ∃ ob, h = (⟨p.dst.getD 0, s.ck, me⟩, ob) :: s.hp ∧ ∀ h2, evG C run me p ⟨s.env, h2, s.ck⟩ = some (v, (⟨p.dst.getD 0, s.ck, me⟩, ob) :: h2, s.ck)) := by
  unfold evG at hr ⊢
  cases hg : p.g with
  | none =>
    rw [hg] at hr
    obtain ⟨h1, h2⟩ := evPo_cls2 C run _ me hp hr
    exact ⟨h1, .inr h2⟩
  | some q =>
    obtain ⟨t, want⟩ := q
    rw [hg] at hr
    simp only at hr ⊢
    cases hx : s.env.get t <;> rw [hx] at hr <;> (try simp only at hr ⊢) <;> first
      | (cases hr; done)
      | (cases hr; exact ⟨rfl, .inl ⟨rfl, fun _ => rfl⟩⟩)
      | skip
    rename_i y
    cases y <;> (try simp only at hr ⊢) <;> first | (cases hr; done) | skip
    rename_i x
    by_cases hw : x = want
    · rw [if_pos hw] at hr
      simp only [if_pos hw]
      obtain ⟨h1, h2⟩ := evPo_cls2 C run _ me hp hr
      exact ⟨h1, .inr h2⟩
    · rw [if_neg hw] at hr
      cases hr
      simp only [if_neg hw]
      exact ⟨trivial, .inl ⟨trivial, fun _ => trivial⟩⟩

/-- The same said of another order of the heap. -/
theorem evPo_hpe {d me : Nat} {s : St} {p : Po} (hp : okL p = true) {v : V} {h : HP} {c : Nat} (hr : evPo C run d me s p = some (v, h, c)) {h2 : HP} (e : HPe s.hp h2) : ∃ h', evPo C run d me ⟨s.env, h2, s.ck⟩ p = some (v, h', c) ∧ HPe h h' := by
  by_cases h0 : p.cls = 0
  · obtain ⟨rfl, rfl, g⟩ := evPo_cls0 C run d me h0 hr
    exact ⟨h2, g h2 _, e⟩
  by_cases h1 : p.cls = 1 ∨ p.cls = 4
  · obtain ⟨rfl, rfl⟩ := evPo_cls1 C run d me h1 hr
    refine ⟨h2, ?_, e⟩
    cases p <;> simp [Po.cls] at h1 <;> simp only [evPo] at hr ⊢
    case load ag n x => rw [← load_e e]; rw [Option.map_eq_some_iff] at hr ⊢; obtain ⟨a, ha, hb⟩ := hr; cases hb; exact ⟨_, ha, rfl⟩
    case loadB ag n x =>
      rw [← load_e e, ← isBox_e e]
      split at hr
      · rename_i hb
        rw [if_pos hb]
        rw [Option.map_eq_some_iff] at hr ⊢; obtain ⟨a, ha, hb⟩ := hr; cases hb; exact ⟨_, ha, rfl⟩
      · cases hr
    case callq f as => rw [← callQ_e e]; rw [Option.map_eq_some_iff] at hr ⊢; obtain ⟨a, ha, hb⟩ := hr; cases hb; exact ⟨_, ha, rfl⟩
    case cvbs x =>
      cases hx : elsOf s.hp 1 (x.ev s.env) with
      | none => rw [hx] at hr; cases hr
      | some xs =>
        rw [hx] at hr
        rw [← elsOf_e e, hx]
        simp only at hr ⊢
        rw [Option.map_eq_some_iff] at hr ⊢; obtain ⟨a, ha, hb⟩ := hr; cases hb; exact ⟨_, ha, rfl⟩
    case bslF sz ps =>
      cases hx : keysOfs s.hp s.env ps with
      | cons _ _ => rw [hx] at hr; cases hr
      | nil =>
        rw [hx] at hr
        rw [← keysOfs_e e, hx, ← rowsOf_e e]
        simp only at hr ⊢
        rw [Option.map_eq_some_iff] at hr ⊢; obtain ⟨a, ha, hb⟩ := hr; cases hb; exact ⟨_, ha, rfl⟩
  by_cases hc2 : p.cls = 2
  · obtain ⟨rfl, ob, rfl, g⟩ := evPo_cls2 C run d me hc2 hr
    exact ⟨_, g h2, e.cons _ _⟩
  cases p <;> simp [Po.cls, okL] at hp h0 h1 hc2 <;> simp only [evPo] at hr ⊢
  case store n a x =>
    rw [Option.map_eq_some_iff] at hr
    obtain ⟨q, ha, hb⟩ := hr
    cases hb
    obtain ⟨h', g1, g2⟩ := store_e e ha
    exact ⟨h', by rw [g1]; rfl, g2⟩
  case callo f as =>
    rw [← callO_e e]
    rw [Option.map_eq_some_iff] at hr
    obtain ⟨q, ha, hb⟩ := hr
    cases hb
    exact ⟨_, by rw [ha]; rfl, e.cons _ _⟩
  case storeR n a x =>
    rw [← isRow_e e]
    split at hr
    · rename_i hz
      rw [if_pos hz]
      rw [Option.map_eq_some_iff] at hr
      obtain ⟨q, ha, hb⟩ := hr
      cases hb
      obtain ⟨h', g1, g2⟩ := store_e e ha
      exact ⟨h', by rw [g1]; rfl, g2⟩
    · cases hr
  case storeD n a x zs =>
    split at hr
    · rename_i hz
      rw [if_pos hz]
      rw [Option.map_eq_some_iff] at hr
      obtain ⟨q, ha, hb⟩ := hr
      cases hb
      obtain ⟨h', g1, g2⟩ := store_e e ha
      exact ⟨h', by rw [g1]; rfl, g2⟩
    · cases hr
theorem evG_hpe {me : Nat} {s : St} {p : Pop} (hp : okL p.op = true) {v : V} {h : HP} {c : Nat} (hr : evG C run me p s = some (v, h, c)) {h2 : HP} (e : HPe s.hp h2) : ∃ h', evG C run me p ⟨s.env, h2, s.ck⟩ = some (v, h', c) ∧ HPe h h' := by
  unfold evG at hr ⊢
  cases hg : p.g with
  | none => rw [hg] at hr; exact evPo_hpe hp hr e
  | some q =>
    obtain ⟨t, want⟩ := q
    rw [hg] at hr
    simp only at hr ⊢
    cases hx : s.env.get t <;> rw [hx] at hr <;> (try simp only at hr ⊢) <;> first
      | (cases hr; done)
      | (cases hr; exact ⟨h2, rfl, e⟩)
      | skip
    rename_i y
    cases y <;> (try simp only at hr ⊢) <;> first | (cases hr; done) | skip
    rename_i x
    by_cases hw : x = want
    · rw [if_pos hw] at hr
      simp only [if_pos hw]
      exact evPo_hpe hp hr e
    · rw [if_neg hw] at hr
      cases hr
      simp only [if_neg hw]
      exact ⟨h2, rfl, e⟩
theorem evPo_seenR {d me d2 i : Nat} {s : St} {ag : Bool} {m n : Nat} {p a w : Opd} {v : V} {h : HP} {c : Nat} (hr : evPo C run d2 i s (.storeR n a w) = some (v, h, c)) : c = s.ck ∧ ∀ r, evPo C run d me ⟨s.env, h, s.ck⟩ (.loadB ag m p) = some (r, h, s.ck) ↔ evPo C run d me ⟨s.env, s.hp, s.ck⟩ (.loadB ag m p) = some (r, s.hp, s.ck) := by
  simp only [evPo] at hr ⊢
  split at hr
  · rename_i hz
    rw [Option.map_eq_some_iff] at hr
    obtain ⟨q, ha, hb⟩ := hr
    cases hb
    refine ⟨rfl, fun r => ?_⟩
    have hbx := store_box ha hz
    constructor
    · intro hh
      split at hh
      · rename_i hb
        obtain ⟨g1, g2⟩ := load_kept (fun q ty cs => (hbx q ty cs).1) hb ag m
        rw [if_pos g1, g2]
        rw [Option.map_eq_some_iff] at hh ⊢
        obtain ⟨a, ha, hb⟩ := hh; cases hb; exact ⟨_, ha, rfl⟩
      · cases hh
    · intro hh
      split at hh
      · rename_i hb
        obtain ⟨g1, g2⟩ := load_kept (fun q ty cs => (hbx q ty cs).2) hb ag m
        rw [if_pos g1, g2]
        rw [Option.map_eq_some_iff] at hh ⊢
        obtain ⟨a, ha, hb⟩ := hh; cases hb; exact ⟨_, ha, rfl⟩
      · cases hh
  · cases hr
/-- What a load sees is not touched. -/
theorem evPo_seen {d me d2 i : Nat} {s : St} {x y : Po} (hs : seen y x = true) {v : V} {h : HP} {c : Nat} (hr : evPo C run d2 i s x = some (v, h, c)) : c = s.ck ∧ ∀ r, evPo C run d me ⟨s.env, h, s.ck⟩ y = some (r, h, s.ck) ↔ evPo C run d me ⟨s.env, s.hp, s.ck⟩ y = some (r, s.hp, s.ck) := by
  cases y <;> cases x <;> simp only [seen] at hs <;> try (cases hs; done)
  case loadB.storeR => exact evPo_seenR hr
  case load.storeD ag m p n a w zs =>
    cases p with
    | c v => simp at hs
    | tmp t =>
      simp only [evPo] at hr
      split at hr
      · rename_i hz
        rw [Option.map_eq_some_iff] at hr
        obtain ⟨q, ha, hb⟩ := hr
        cases hb
        refine ⟨rfl, fun r => ?_⟩
        have hap := List.all_eq_true.1 hz t (by simpa using hs)
        have := store_load ha hap ag m
        simp only [evPo, Opd.ev, this]
        simp only [Option.map_eq_some_iff]
        constructor
        · rintro ⟨a, ha, hb⟩; cases hb; exact ⟨_, ha, rfl⟩
        · rintro ⟨a, ha, hb⟩; cases hb; exact ⟨_, ha, rfl⟩
      · cases hr
theorem evG_seen {j i : Nat} {s : St} {x y : Pop} (hs : seen y.op x.op = true) {v : V} {h : HP} {c : Nat} (hr : evG C run i x s = some (v, h, c)) : c = s.ck ∧ ∀ r, evG C run j y ⟨s.env, h, s.ck⟩ = some (r, h, s.ck) ↔ evG C run j y ⟨s.env, s.hp, s.ck⟩ = some (r, s.hp, s.ck) := by
  have hx : (c = s.ck ∧ h = s.hp) ∨ evPo C run (x.dst.getD 0) i s x.op = some (v, h, c) := by
    unfold evG at hr
    cases hg : x.g with
    | none => rw [hg] at hr; exact .inr hr
    | some q =>
      obtain ⟨t, want⟩ := q
      rw [hg] at hr
      simp only at hr
      cases hx : s.env.get t <;> rw [hx] at hr <;> (try simp only at hr) <;> first
        | (cases hr; done)
        | (cases hr; exact .inl ⟨rfl, rfl⟩)
        | skip
      rename_i y
      cases y <;> (try simp only at hr) <;> first | (cases hr; done) | skip
      rename_i b
      by_cases hw : b = want
      · rw [if_pos hw] at hr; exact .inr hr
      · rw [if_neg hw] at hr; cases hr; exact .inl ⟨rfl, rfl⟩
  rcases hx with ⟨rfl, rfl⟩ | hx
  · exact ⟨rfl, fun _ => Iff.rfl⟩
  obtain ⟨rfl, g⟩ := evPo_seen (d := y.dst.getD 0) (me := j) hs hx
  refine ⟨rfl, fun r => ?_⟩
  unfold evG
  cases hg : y.g with
  | none => exact g r
  | some q =>
    obtain ⟨t, want⟩ := q
    simp only
    cases hx : s.env.get t <;> (try simp only) <;> try (constructor <;> intro hh <;> cases hh <;> rfl)
    rename_i z
    cases z <;> (try simp only) <;> try (constructor <;> intro hh <;> cases hh <;> rfl)
    rename_i b
    by_cases hw : b = want
    · rw [if_pos hw, if_pos hw]; exact g r
    · rw [if_neg hw, if_neg hw]; constructor <;> intro hh <;> cases hh <;> rfl
theorem seen_cls {y x : Po} (h : seen y x = true) : y.cls = 1 ∧ x.cls = 5 := by
  cases y <;> cases x <;> simp only [seen] at h <;> try (cases h; done)
  all_goals exact ⟨rfl, rfl⟩
theorem kept_cls {y x : Po} (h : kept y x = true) : y.cls = 1 ∧ x.cls = 3 := by
  cases y <;> cases x <;> simp only [kept] at h <;> try (cases h; done)
  all_goals exact ⟨rfl, rfl⟩
theorem mem_of_get {h : HP} {k : Key} {o : Ob} (hk : h.get k = some o) : (k, o) ∈ h := by
  induction h with
  | nil => cases hk
  | cons p r ih =>
    obtain ⟨k', o'⟩ := p
    simp only [HP.get] at hk
    by_cases e : k' = k
    · subst e; rw [if_pos rfl] at hk; cases hk; exact List.mem_cons_self
    · rw [if_neg e] at hk; exact List.mem_cons_of_mem _ (ih hk)
theorem evG_kept {j i : Nat} {s : St} {x y : Pop} (hs : kept y.op x.op = true) {v : V} {h : HP} {c : Nat} (hr : evG C run i x s = some (v, h, c)) {r : V} (hy : evG C run j y ⟨s.env, s.hp, s.ck⟩ = some (r, s.hp, s.ck)) : evG C run j y ⟨s.env, h, c⟩ = some (r, h, c) := by
  have hx : ∀ q ty cs, s.hp.get q = some (.box ty cs) → h.get q = some (.box ty cs) := by
    have h1 : h = s.hp ∨ evPo C run (x.dst.getD 0) i s x.op = some (v, h, c) := by
      unfold evG at hr
      cases hg : x.g with
      | none => rw [hg] at hr; exact .inr hr
      | some q =>
        obtain ⟨t, want⟩ := q
        rw [hg] at hr
        simp only at hr
        cases hx : s.env.get t <;> rw [hx] at hr <;> (try simp only at hr) <;> first
          | (cases hr; done)
          | (cases hr; exact .inl rfl)
          | skip
        rename_i y
        cases y <;> (try simp only at hr) <;> first | (cases hr; done) | skip
        rename_i b
        by_cases hw : b = want
        · rw [if_pos hw] at hr; exact .inr hr
        · rw [if_neg hw] at hr; cases hr; exact .inl rfl
    rcases h1 with rfl | h1
    · exact fun _ _ _ h => h
    · cases hx : x.op <;> rw [hx] at hs h1 <;> cases hy2 : y.op <;> rw [hy2] at hs <;> simp only [kept] at hs <;> try (cases hs; done)
      simp only [evPo] at h1
      split at h1
      · split at h1
        · rename_i hall
          cases h1
          intro q ty cs hq
          have := List.all_eq_true.1 hall _ (mem_of_get hq)
          simpa [keptB] using this
        · cases h1
      · cases h1
  have hl : ∀ {r}, evPo C run (y.dst.getD 0) j ⟨s.env, s.hp, s.ck⟩ y.op = some (r, s.hp, s.ck) → evPo C run (y.dst.getD 0) j ⟨s.env, h, c⟩ y.op = some (r, h, c) := by
    intro r hh
    cases hy2 : y.op <;> rw [hy2] at hs hh <;> cases hx2 : x.op <;> rw [hx2] at hs <;> simp only [kept] at hs <;> try (cases hs; done)
    simp only [evPo] at hh ⊢
    split at hh
    · rename_i hb
      obtain ⟨g1, g2⟩ := load_kept hx hb _ _
      rw [if_pos g1, g2]
      rw [Option.map_eq_some_iff] at hh ⊢
      obtain ⟨a, ha, hb⟩ := hh; cases hb; exact ⟨_, ha, rfl⟩
    · cases hh
  unfold evG at hy ⊢
  cases hg : y.g with
  | none => rw [hg] at hy; exact hl hy
  | some q =>
    obtain ⟨t, want⟩ := q
    rw [hg] at hy
    simp only at hy ⊢
    cases hx : s.env.get t <;> rw [hx] at hy <;> (try simp only at hy ⊢) <;> first
      | (cases hy; done)
      | (cases hy; rfl)
      | skip
    rename_i z
    cases z <;> (try simp only at hy ⊢) <;> first | (cases hy; done) | skip
    rename_i b
    by_cases hw : b = want
    · rw [if_pos hw] at hy
      simp only [if_pos hw]
      exact hl hy
    · rw [if_neg hw] at hy
      cases hy
      simp only [if_neg hw]
theorem evG_cls8 {me : Nat} {s : St} {p : Pop} (hp : p.op.cls = 8) {v : V} {h : HP} {c : Nat} (hr : evG C run me p s = some (v, h, c)) : c = s.ck ∧ ((h = s.hp ∧ ∀ h2, evG C run me p ⟨s.env, h2, s.ck⟩ = some (v, h2, s.ck)) ∨ ∃ ob, h = (⟨p.dst.getD 0, s.ck, me⟩, ob) :: s.hp ∧ ∀ k' ob', k' ∉ s.hp.map Prod.fst → evG C run me p ⟨s.env, (k', ob') :: s.hp, s.ck⟩ = some (v, (⟨p.dst.getD 0, s.ck, me⟩, ob) :: (k', ob') :: s.hp, s.ck)) := by
  have hl : ∀ {v h c}, evPo C run (p.dst.getD 0) me s p.op = some (v, h, c) → c = s.ck ∧ ∃ ob, h = (⟨p.dst.getD 0, s.ck, me⟩, ob) :: s.hp ∧ ∀ k' ob', k' ∉ s.hp.map Prod.fst → evPo C run (p.dst.getD 0) me ⟨s.env, (k', ob') :: s.hp, s.ck⟩ p.op = some (v, (⟨p.dst.getD 0, s.ck, me⟩, ob) :: (k', ob') :: s.hp, s.ck) := by
    intro v h c hh
    cases hop : p.op <;> rw [hop] at hp hh <;> try (simp [Po.cls] at hp; done)
    simp only [evPo] at hh ⊢
    rw [Option.map_eq_some_iff] at hh
    obtain ⟨q, ha, hb⟩ := hh
    cases hb
    exact ⟨rfl, _, rfl, fun k' ob' hk => by rw [callO_cons hk ha]; rfl⟩
  unfold evG at hr ⊢
  cases hg : p.g with
  | none =>
    rw [hg] at hr
    obtain ⟨h1, h2⟩ := hl hr
    exact ⟨h1, .inr h2⟩
  | some q =>
    obtain ⟨t, want⟩ := q
    rw [hg] at hr
    simp only at hr ⊢
    cases hx : s.env.get t <;> rw [hx] at hr <;> (try simp only at hr ⊢) <;> first
      | (cases hr; done)
      | (cases hr; exact ⟨rfl, .inl ⟨rfl, fun _ => rfl⟩⟩)
      | skip
    rename_i y
    cases y <;> (try simp only at hr ⊢) <;> first | (cases hr; done) | skip
    rename_i x
    by_cases hw : x = want
    · rw [if_pos hw] at hr
      simp only [if_pos hw]
      obtain ⟨h1, h2⟩ := hl hr
      exact ⟨h1, .inr h2⟩
    · rw [if_neg hw] at hr
      cases hr
      simp only [if_neg hw]
      exact ⟨trivial, .inl ⟨trivial, fun _ => trivial⟩⟩

/-! ### changing places -/
theorem putD_get (e : Env) (d : Option Nat) (v : V) (t : Nat) : (putD e d v).get t = if d = some t then v else e.get t := by
  cases d with
  | none => simp [putD]
  | some d =>
    simp only [putD, Env.get_put]
    by_cases h : t = d
    · subst h; simp
    · rw [if_neg h, if_neg (by intro e; cases e; exact h rfl)]

theorem evOp_eqv {lo : Bool} {me : Nat} {p : Pop} {s s1 sb : St} (hl : lo = true → okL p.op = true) (h : evOp C run me p s = some s1) (he : Eqv lo s sb) : ∃ sb1, evOp C run me p sb = some sb1 ∧ Eqv lo s1 sb1 := by
  unfold evOp at h ⊢
  have hcg : evG C run me p sb = evG C run me p ⟨s.env, sb.hp, s.ck⟩ := evG_congr C run me (p := p) (fun t _ => (he.env t).symm) rfl he.ck.symm
  rw [hcg]
  cases hr : evG C run me p s with
  | none => simp [hr] at h
  | some r =>
    obtain ⟨v, h', c⟩ := r
    simp [hr] at h
    subst h
    cases lo with
    | false =>
      rw [← he.st rfl]
      rw [show evG C run me p ⟨s.env, s.hp, s.ck⟩ = some (v, h', c) from hr]
      exact ⟨_, rfl, fun t => by simp only [putD_get]; rw [he.env], .refl _, fun _ => rfl, rfl⟩
    | true =>
      obtain ⟨h2, g1, g2⟩ := evG_hpe (hl rfl) hr he.hp
      rw [g1]
      exact ⟨_, rfl, fun t => by simp only [putD_get]; rw [he.env], g2, fun e => absurd e (by decide), rfl⟩
theorem evOps_eqv {lo : Bool} {qs : List (Nat × Pop)} : ∀ {s s1 sb : St}, (lo = true → ∀ q ∈ qs, okL q.2.op = true) → evOps C run qs s = some s1 → Eqv lo s sb → ∃ sb1, evOps C run qs sb = some sb1 ∧ Eqv lo s1 sb1 := by
  induction qs with
  | nil => intro s s1 sb _ h he; simp [evOps] at h; subst h; exact ⟨sb, rfl, he⟩
  | cons q qs ih =>
    intro s s1 sb hl h he
    obtain ⟨me, p⟩ := q
    simp only [evOps] at h ⊢
    cases hr : evOp C run me p s with
    | none => simp [hr] at h
    | some s2 =>
      simp [hr] at h
      obtain ⟨sb2, h1, h2⟩ := evOp_eqv (fun e => hl e _ List.mem_cons_self) hr he
      rw [h1]
      exact ih (fun e q hq => hl e q (List.mem_cons_of_mem _ hq)) h h2

theorem meets_not {a b : List Nat} (h : (!meets a b) = true) {t : Nat} (ha : t ∈ a) (hb : t ∈ b) : False := by
  simp only [meets, Bool.not_eq_true', List.any_eq_false] at h
  exact h t ha (by simpa using hb)

theorem swap2 {lo : Bool} {i j : Nat} (hij : i ≠ j) {x y : Pop} {s s1 s2 : St} (hy : evOp C run j y s = some s1) (hx : evOp C run i x s1 = some s2) (hf : free2 lo y x = true) (hk : x.op.cls = 2 ∨ x.op.cls = 8 → (⟨x.dst.getD 0, s.ck, i⟩ : Key) ∉ s.hp.map Prod.fst) :
    ∃ s1' s2', evOp C run i x s = some s1' ∧ evOp C run j y s1' = some s2' ∧ Eqv lo s2 s2' := by
  unfold free2 at hf
  rw [Bool.and_eq_true, Bool.and_eq_true] at hf
  obtain ⟨⟨f1, f2⟩, f3⟩ := hf
  have hdx : ∀ t, y.dst = some t → t ∉ x.rd ∧ x.dst ≠ some t := by
    intro t ht
    refine ⟨fun h => ?_, fun h => ?_⟩
    · exact meets_not f1 (t := t) (by simp [ht]) (List.mem_append.2 (.inl h))
    · exact meets_not f1 (t := t) (by simp [ht]) (List.mem_append.2 (.inr (by simp [h])))
  have hdy : ∀ t, x.dst = some t → t ∉ y.rd := fun t ht h => meets_not f2 (t := t) (by simp [ht]) h
  unfold evOp at hy hx
  cases hry : evG C run j y s with
  | none => simp [hry] at hy
  | some ry =>
    obtain ⟨vy, hpy, cy⟩ := ry
    simp [hry] at hy
    subst hy
    cases hrx : evG C run i x ⟨putD s.env y.dst vy, hpy, cy⟩ with
    | none => simp [hrx] at hx
    | some rx =>
      obtain ⟨vx, hpx, cx⟩ := rx
      simp [hrx] at hx
      subst hx
      have ax : AgreeOn x.rd (putD s.env y.dst vy) s.env := fun t ht => by
        rw [putD_get, if_neg]
        intro e
        exact (hdx t e).1 ht
      have ay : AgreeOn y.rd (putD s.env x.dst vx) s.env := fun t ht => by
        rw [putD_get, if_neg]
        intro e
        exact hdy t e ht
      have hend : ∀ hp0 c0 hp1 c1, evG C run i x s = some (vx, hp0, c0) → evG C run j y ⟨putD s.env x.dst vx, hp0, c0⟩ = some (vy, hp1, c1) → HPe hpx hp1 → (lo = false → hpx = hp1) → c1 = cx → ∃ s1' s2', evOp C run i x s = some s1' ∧ evOp C run j y s1' = some s2' ∧ Eqv lo ⟨putD (putD s.env y.dst vy) x.dst vx, hpx, cx⟩ s2' := by
        intro hp0 c0 hp1 c1 h1 h2 h3 h3' h4
        refine ⟨⟨putD s.env x.dst vx, hp0, c0⟩, ⟨putD (putD s.env x.dst vx) y.dst vy, hp1, c1⟩, by simp [evOp, h1], by simp [evOp, h2], fun t => ?_, h3, h3', h4.symm⟩
        simp only [putD_get]
        by_cases hxt : x.dst = some t
        · rw [if_pos hxt, if_neg, if_pos hxt]
          intro hyt
          exact (hdx t hyt).2 hxt
        · rw [if_neg hxt]
          by_cases hyt : y.dst = some t
          · rw [if_pos hyt, if_pos hyt]
          · rw [if_neg hyt, if_neg hyt, if_neg hxt]
      have hendE : ∀ hp0 c0, evG C run i x s = some (vx, hp0, c0) → evG C run j y ⟨putD s.env x.dst vx, hp0, c0⟩ = some (vy, hpx, cx) → _ := fun hp0 c0 h1 h2 => hend hp0 c0 hpx cx h1 h2 (.refl _) (fun _ => rfl) rfl
      have cx1 : ∀ h c, evG C run i x ⟨putD s.env y.dst vy, h, c⟩ = evG C run i x ⟨s.env, h, c⟩ := fun h c => evG_congr C run i (p := x) ax rfl rfl
      have cy1 : ∀ h c, evG C run j y ⟨putD s.env x.dst vx, h, c⟩ = evG C run j y ⟨s.env, h, c⟩ := fun h c => evG_congr C run j (p := y) ay rfl rfl
      rw [cx1] at hrx
      unfold heapMay rdr at f3
      simp only [Bool.or_eq_true, Bool.and_eq_true, beq_iff_eq] at f3
      rcases f3 with ((((((h0 | h0) | ⟨h1, h2⟩) | ⟨h1, h2 | h2⟩) | ⟨hlo, h1 | h1, h2⟩) | hse) | hse) | hse
      · obtain ⟨rfl, rfl, g3⟩ := evG_cls0 h0 hry
        exact hendE hpx cx hrx (by rw [cy1]; exact g3 hpx cx)
      · obtain ⟨g1, g2, g3⟩ := evG_cls0 h0 hrx
        simp only at g1 g2 g3
        subst g1 g2
        exact hendE s.hp s.ck (g3 s.hp s.ck) (by rw [cy1]; exact hry)
      · obtain ⟨rfl, rfl⟩ := evG_cls1 h1 hry
        obtain ⟨g1, g2⟩ := evG_cls1 h2 hrx
        simp only at g1 g2
        subst g1 g2
        exact hendE s.hp s.ck hrx (by rw [cy1]; exact hry)
      · obtain ⟨rfl, rfl⟩ := evG_cls1 h1 hry
        obtain ⟨g1, g2⟩ := evG_cls2 h2 hrx
        simp only at g1 g2
        subst g1
        refine hendE hpx s.ck hrx ?_
        rw [cy1]
        rcases g2 with ⟨g2, _⟩ | ⟨ob, g2, _⟩
        · rw [g2]
          exact hry
        · rw [g2]
          exact evG_load h1 hry (hk (.inl h2)) ob s.ck
      · obtain ⟨rfl, rfl⟩ := evG_cls1 h1 hry
        obtain ⟨g1, g2⟩ := evG_cls8 h2 hrx
        simp only at g1 g2
        subst g1
        refine hendE hpx s.ck hrx ?_
        rw [cy1]
        rcases g2 with ⟨g2, _⟩ | ⟨ob, g2, _⟩
        · rw [g2]
          exact hry
        · rw [g2]
          exact evG_load h1 hry (hk (.inr h2)) ob s.ck
      · obtain ⟨rfl, g2⟩ := evG_cls2 h1 hry
        obtain ⟨g3, g4⟩ := evG_cls2 h2 hrx
        simp only at g3 g4
        subst g3
        rcases g2 with ⟨rfl, g2⟩ | ⟨ob, rfl, g2⟩ <;> rcases g4 with ⟨rfl, g4⟩ | ⟨ob2, rfl, g4⟩
        · exact hendE s.hp s.ck (g4 s.hp) (by rw [cy1]; exact g2 _)
        · exact hendE _ s.ck (g4 s.hp) (by rw [cy1]; exact g2 _)
        · exact hendE s.hp s.ck (g4 s.hp) (by rw [cy1]; exact g2 _)
        · refine hend _ s.ck _ s.ck (g4 s.hp) (by rw [cy1]; exact g2 _) (HPe.swap _ (fun e => hij ?_) _ _) (fun e => by rw [hlo] at e; cases e) rfl
          injection e
      · obtain ⟨rfl, g2⟩ := evG_cls8 h1 hry
        obtain ⟨g3, g4⟩ := evG_cls2 h2 hrx
        simp only at g3 g4
        subst g3
        rcases g2 with ⟨rfl, g2⟩ | ⟨ob, rfl, g2⟩ <;> rcases g4 with ⟨rfl, g4⟩ | ⟨ob2, rfl, g4⟩
        · exact hendE s.hp s.ck (g4 s.hp) (by rw [cy1]; exact g2 _)
        · exact hendE _ s.ck (g4 s.hp) (by rw [cy1]; exact g2 _)
        · exact hendE s.hp s.ck (g4 s.hp) (by rw [cy1]; exact hry)
        · refine hend _ s.ck _ s.ck (g4 s.hp) (by rw [cy1]; exact g2 _ _ (hk (.inl h2))) (HPe.swap _ (fun e => hij ?_) _ _) (fun e => by rw [hlo] at e; cases e) rfl
          injection e
      · obtain ⟨rfl, rfl⟩ := evG_cls1 (.inl (seen_cls hse).1) hry
        obtain ⟨g1, g2⟩ := evG_seen (j := j) hse hrx
        simp only at g1 g2
        subst g1
        exact hendE hpx s.ck hrx (by rw [cy1]; exact (g2 vy).2 hry)
      · obtain ⟨rfl, g2⟩ := evG_seen (j := i) hse hry
        obtain ⟨g3, g4⟩ := evG_cls1 (.inl (seen_cls hse).1) hrx
        simp only at g3 g4
        subst g3 g4
        exact hendE s.hp s.ck ((g2 vx).1 hrx) (by rw [cy1]; exact hry)
      · obtain ⟨rfl, rfl⟩ := evG_cls1 (.inl (kept_cls hse).1) hry
        exact hendE hpx cx hrx (by rw [cy1]; exact evG_kept hse hrx hry)

theorem evOps_cons (i : Nat) (p : Pop) (qs : List (Nat × Pop)) (s : St) : evOps C run ((i, p) :: qs) s = (evOp C run i p s).bind (evOps C run qs) := by
  simp only [evOps]
  cases evOp C run i p s <;> rfl

/-- It may be moved ahead. -/
theorem front {lo : Bool} {i : Nat} {x : Pop} {post : List (Nat × Pop)} : ∀ (pre : List (Nat × Pop)) {s s' : St}, evOps C run (pre ++ (i, x) :: post) s = some s' → (∀ y ∈ pre, free2 lo y.2 x = true) → (lo = true → ∀ q ∈ pre ++ (i, x) :: post, okL q.2.op = true) → (x.op.cls = 2 ∨ x.op.cls = 8 → ∀ d, (⟨d, s.ck, i⟩ : Key) ∉ s.hp.map Prod.fst) → i ∉ pre.map Prod.fst →
    ∃ s'', evOps C run ((i, x) :: (pre ++ post)) s = some s'' ∧ Eqv lo s' s''
  | [], s, s', h, _, _, _, _ => ⟨s', h, Eqv.refl _⟩
  | (j, y) :: pre, s, s', h, hf, hl, hk, hi => by
    rw [List.cons_append, evOps_cons] at h
    simp only [List.map_cons, List.mem_cons, not_or] at hi
    cases hy : evOp C run j y s with
    | none => simp [hy] at h
    | some s1 =>
      simp only [hy, Option.bind_some] at h
      have hfy : free2 lo y x = true := hf (j, y) List.mem_cons_self
      have hk1 : x.op.cls = 2 ∨ x.op.cls = 8 → ∀ d, (⟨d, s1.ck, i⟩ : Key) ∉ s1.hp.map Prod.fst := by
        intro hc d
        have hs1 : (s1.hp = s.hp ∨ ∃ d' ob, s1.hp = (⟨d', s.ck, j⟩, ob) :: s.hp) ∧ s1.ck = s.ck := by
          unfold free2 at hfy
          rw [Bool.and_eq_true, Bool.and_eq_true] at hfy
          have h3 := hfy.2
          unfold heapMay rdr at h3
          simp only [Bool.or_eq_true, Bool.and_eq_true, beq_iff_eq] at h3
          unfold evOp at hy
          cases hry : evG C run j y s with
          | none => simp [hry] at hy
          | some ry =>
            obtain ⟨vy, hpy, cy⟩ := ry
            simp [hry] at hy
            subst hy
            rcases h3 with ((((((h0 | h0) | ⟨h1, h2⟩) | ⟨h1, h2⟩) | ⟨_, h1 | h1, h2⟩) | hse) | hse) | hse
            · obtain ⟨a1, a2, _⟩ := evG_cls0 h0 hry; exact ⟨.inl a1, a2⟩
            · omega
            · omega
            · obtain ⟨a1, a2⟩ := evG_cls1 h1 hry; exact ⟨.inl a1, a2⟩
            · obtain ⟨a1, a2⟩ := evG_cls2 h1 hry
              rcases a2 with ⟨a2, _⟩ | ⟨ob, a2, _⟩
              · exact ⟨.inl a2, a1⟩
              · exact ⟨.inr ⟨_, ob, a2⟩, a1⟩
            · obtain ⟨a1, a2⟩ := evG_cls8 h1 hry
              rcases a2 with ⟨a2, _⟩ | ⟨ob, a2, _⟩
              · exact ⟨.inl a2, a1⟩
              · exact ⟨.inr ⟨_, ob, a2⟩, a1⟩
            · have := (seen_cls hse).2; omega
            · have := (seen_cls hse).1; omega
            · have := (kept_cls hse).2; omega
        obtain ⟨h1, h2⟩ := hs1
        rw [h2]
        rcases h1 with h1 | ⟨d', ob, h1⟩
        · rw [h1]; exact hk hc d
        · rw [h1]
          simp only [List.map_cons, List.mem_cons, not_or]
          exact ⟨fun e => hi.1 (by injection e), hk hc d⟩
      obtain ⟨s2, h2, e2⟩ := front pre h (fun z hz => hf z (List.mem_cons_of_mem _ hz)) (fun e q hq => hl e q (List.mem_cons_of_mem _ hq)) hk1 hi.2
      rw [evOps_cons] at h2
      cases hx : evOp C run i x s1 with
      | none => simp [hx] at h2
      | some sx =>
        simp only [hx, Option.bind_some] at h2
        obtain ⟨t1, t2, a1, a2, a3⟩ := swap2 hi.1 hy hx hfy (fun hc => hk hc _)
        obtain ⟨s3, h3, e3⟩ := evOps_eqv (fun e q hq => hl e q (by
          rcases List.mem_append.1 hq with h | h
          · exact List.mem_cons_of_mem _ (List.mem_append.2 (.inl h))
          · exact List.mem_cons_of_mem _ (List.mem_append.2 (.inr (List.mem_cons_of_mem _ h))))) h2 a3
        refine ⟨s3, ?_, e2.trans e3⟩
        rw [evOps_cons, a1, Option.bind_some, List.cons_append, evOps_cons, a2, Option.bind_some]
        exact h3
end
end Go.Pev
