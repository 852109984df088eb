/- What this law leans on, of the framework and of the functions (by claimset.py). -/
import Derived.Test.YtlfjlpleodlkmaaGreatDoorEn1
import Derived.Test.YtlfjlpleodlkmaaGreatDoorEn2
import Derived.Orders
import Derived.WalkKit
import Derived.ProofKit
import Derived.OpenShut
import Derived.ShutString
import Derived.ChangeOld
import Derived.Below
import Derived.SizedLaws
import Derived.Sort.Grow
import Derived.IntWalk
set_option linter.unusedVariables false
set_option linter.unusedSimpArgs false
namespace Go.Pev
open Go
section
structure Eqv (lo : Bool) (s s' : St) : Prop where
  env : ∀ t, s.env.get t = s'.env.get t
  hp : HPe s.hp s'.hp
  st : lo = false → s.hp = s'.hp
  ck : s.ck = s'.ck
theorem Eqv.refl {lo : Bool} (s : St) : Eqv lo s s := ⟨fun _ => rfl, .refl _, fun _ => rfl, rfl⟩
theorem Eqv.symm {lo : Bool} {s s' : St} (h : Eqv lo s s') : Eqv lo s' s := ⟨fun t => (h.env t).symm, h.hp.symm, fun e => (h.st e).symm, h.ck.symm⟩
theorem Eqv.trans {lo : Bool} {a b c : St} (h : Eqv lo a b) (k : Eqv lo b c) : Eqv lo a c := ⟨fun t => (h.env t).trans (k.env t), h.hp.trans k.hp, fun e => (h.st e).trans (k.st e), h.ck.trans k.ck⟩
def AgreeOn (ts : List Nat) (e e' : Env) : Prop := ∀ t ∈ ts, e.get t = e'.get t
theorem opd_congr {e e' : Env} {x : Opd} (h : AgreeOn x.rd e e') : x.ev e = x.ev e' := by
  cases x with
  | tmp t => exact h t (by simp [Opd.rd])
  | c v => rfl
theorem opdo_congr {e e' : Env} {x : Option Opd} (h : AgreeOn (Opd.rdo x) e e') : opt e x = opt e' x := by
  cases x with
  | none => rfl
  | some x => exact congrArg some (opd_congr h)
theorem AgreeOn.l {a b : List Nat} {e e' : Env} (h : AgreeOn (a ++ b) e e') : AgreeOn a e e' := fun t ht => h t (List.mem_append.2 (.inl ht))
theorem AgreeOn.r {a b : List Nat} {e e' : Env} (h : AgreeOn (a ++ b) e e') : AgreeOn b e e' := fun t ht => h t (List.mem_append.2 (.inr ht))
theorem opds_congr {e e' : Env} : ∀ {xs : List Opd} (h : AgreeOn (xs.flatMap (·.rd)) e e'), xs.map (·.ev e) = xs.map (·.ev e')
  | [], _ => rfl
  | x :: xs, h => by
    rw [List.flatMap_cons] at h
    simp only [List.map_cons]
    rw [opd_congr h.l, opds_congr h.r]
theorem buildV_congr {e e' : Env} : ∀ {ps : List (Nat × Nat × Opd)} (z : List V) (h : AgreeOn (ps.flatMap fun p => p.2.2.rd) e e'), buildV z e ps = buildV z e' ps
  | [], z, _ => rfl
  | (o, n, x) :: ps, z, h => by
    rw [List.flatMap_cons] at h
    simp only [buildV]
    rw [opd_congr h.l]
    cases cells (x.ev e') with
    | none => rfl
    | some cs => simp only [buildV_congr (over z o cs) h.r]
theorem rowsOf_congr {e e' : Env} (hp : HP) (n : Nat) : ∀ {xs : List Opd} (h : AgreeOn (xs.flatMap (·.rd)) e e'), rowsOf hp e n xs = rowsOf hp e' n xs ∧ keysOfs hp e xs = keysOfs hp e' xs
  | [], _ => ⟨rfl, rfl⟩
  | x :: xs, h => by
    rw [List.flatMap_cons] at h
    simp only [rowsOf, keysOfs]
    rw [opd_congr h.l, (rowsOf_congr hp n h.r).1, (rowsOf_congr hp n h.r).2]
    exact ⟨rfl, rfl⟩
theorem callEv_congr (C : Cfg) (run : Run) (f : Nat) (as : List V) {s s' : St} (hh : s.hp = s'.hp) (hc : s.ck = s'.ck) (k : Key) : callEv C run f as s k = callEv C run f as s' k := by
  unfold callEv
  rw [hh, hc]
theorem evPo_congr (C : Cfg) (run : Run) (d me : Nat) {s s' : St} {p : Po} (he : AgreeOn p.rd s.env s'.env) (hh : s.hp = s'.hp) (hc : s.ck = s'.ck) : evPo C run d me s p = evPo C run d me s' p := by
  cases p <;> simp only [Po.rd] at he <;> simp only [evPo]
  case pick c a b => rw [opd_congr he.l.l, opd_congr he.l.r, opd_congr he.r, hh, hc]
  case build z ps => rw [buildV_congr z he, hh, hc]
  case bslT n ps => rw [hh, (rowsOf_congr s'.hp n he).1, (rowsOf_congr s'.hp n he).2, hc]
  case callo f as => rw [opds_congr he, hh, hc]
  case callR f as => rw [opds_congr he, hc, hh, callEv_congr C run f _ hh hc]
  case callK f as => rw [opds_congr he, hc, hh, callEv_congr C run f _ hh hc]
  case storeR n x y => rw [opd_congr he.l, opd_congr he.r, hh, hc]
  case bslF n ps => rw [hh, (rowsOf_congr s'.hp n he).1, (rowsOf_congr s'.hp n he).2, hc]
  case storeD n x y zs =>
    have hz : zs.all (fun z => apart (x.ev s.env) (s.env.get z)) = zs.all (fun z => apart (x.ev s.env) (s'.env.get z)) := by
      rw [Bool.eq_iff_iff, List.all_eq_true, List.all_eq_true]
      exact ⟨fun h z hz => by rw [← he.r z hz]; exact h z hz, fun h z hz => by rw [he.r z hz]; exact h z hz⟩
    rw [hz, opd_congr he.l.l, opd_congr he.l.r, hh, hc]
  case bslO t n ps => rw [hh, (rowsOf_congr s'.hp n he).1, (rowsOf_congr s'.hp n he).2, hc]
  case mkfn f cs => rw [opds_congr he, hh, hc]
  case mm b xs => rw [opds_congr he, hh, hc]
  case call f as => rw [opds_congr he, hc, callEv_congr C run f _ hh hc]
  case callq f as => rw [opds_congr he, hh, hc]
  case callv x as => rw [opd_congr he.l, opds_congr he.r, hc]; simp only [callEv_congr C run _ _ hh hc]
  case slS x lo hi => rw [opd_congr he.l.l, opdo_congr he.l.r, opdo_congr he.r, hh, hc]
  case sls n x lo hi => rw [opd_congr he.l.l, opdo_congr he.l.r, opdo_congr he.r, hh, hc]
  case nilv => rw [hh, hc]
  case alloc => rw [hh, hc]
  case lenc => rw [hh, hc]
  case store n x y => rw [opd_congr he.l, opd_congr he.r, hh, hc]
  case bin o x y => rw [opd_congr he.l, opd_congr he.r, hh, hc]
  case beq o x y => rw [opd_congr he.l, opd_congr he.r, hh, hc]
  case beqS n o x y => rw [opd_congr he.l, opd_congr he.r, hh, hc]
  case mkm => rw [hh, hc]
  case storeS ss n x y => rw [opd_congr he.l, opd_congr he.r, hh, hc]
  case appU t n b x y => rw [opd_congr he.l, opd_congr he.r, hh, hc]
  case appS t x y => rw [opd_congr he.l, opd_congr he.r, hh, hc]
  case sl3 x a b c => rw [opd_congr he.l.l.l, opd_congr he.l.l.r, opd_congr he.l.r, opd_congr he.r, hh, hc]
  case mlk z o x y => rw [opd_congr he.l, opd_congr he.r, hh, hc]
  case mup x y z => rw [opd_congr he.l.l, opd_congr he.l.r, opd_congr he.r, hh, hc]
  case mks t n b z x y => rw [opd_congr he.l, opd_congr he.r, hh, hc]
  case ixS n x y => rw [opd_congr he.l, opd_congr he.r, hh, hc]
  case ixA n m x y => rw [opd_congr he.l, opd_congr he.r, hh, hc]
  case ixV b n m x y => rw [opd_congr he.l, opd_congr he.r, hh, hc]
  case ixs x y => rw [opd_congr he.l, opd_congr he.r, hh, hc]
  case app t n b x y => rw [opd_congr he.l, opd_congr he.r, hh, hc]
  all_goals rw [opd_congr he, hh, hc]
theorem evG_congr (C : Cfg) (run : Run) (me : Nat) {s s' : St} {p : Pop} (he : AgreeOn p.rd s.env s'.env) (hh : s.hp = s'.hp) (hc : s.ck = s'.ck) : evG C run me p s = evG C run me p s' := by
  unfold Pop.rd at he
  unfold evG
  rw [evPo_congr C run (p.dst.getD 0) me he.r hh hc]
  cases hg : p.g with
  | none => rfl
  | some q =>
    obtain ⟨t, want⟩ := q
    rw [hg] at he
    have := he t (by simp)
    simp only [this, hh, hc]
theorem map3 {x : Option V} {h h2 : HP} {c c2 : Nat} {v : V} {h' : HP} {c' : Nat} (hr : x.map (·, h, c) = some (v, h', c')) : h' = h ∧ c' = c ∧ ∀ (h2 : HP) (c2 : Nat), x.map (·, h2, c2) = some (v, h2, c2) := by
  cases x with
  | none => cases hr
  | some y => cases hr; exact ⟨rfl, rfl, fun _ _ => rfl⟩
theorem evPo_cls0 (C : Cfg) (run : Run) (d me : Nat) {s : St} {p : Po} (hp : p.cls = 0) {v : V} {h : HP} {c : Nat} (hr : evPo C run d me s p = some (v, h, c)) : h = s.hp ∧ c = s.ck ∧ ∀ h2 c2, evPo C run d me ⟨s.env, h2, c2⟩ p = some (v, h2, c2) := by
  cases p
  case mv x => simp only [evPo] at hr ⊢; cases hr; exact ⟨rfl, rfl, fun _ _ => rfl⟩
  case pick => simp only [evPo] at hr ⊢; exact map3 (h2 := []) (c2 := 0) hr
  case build z ps =>
    simp only [evPo] at hr ⊢
    cases hb : buildV z s.env ps with
    | none => simp [hb] at hr
    | some r => simp [hb] at hr; obtain ⟨rfl, rfl, rfl⟩ := hr; exact ⟨rfl, rfl, fun _ _ => rfl⟩
  case nchk x =>
    simp only [evPo] at hr ⊢
    cases hx : x.ev s.env <;> rw [hx] at hr <;> first | (cases hr; done) | (cases hr; exact ⟨rfl, rfl, fun _ _ => rfl⟩)
  case bin => simp only [evPo] at hr ⊢; exact map3 (h2 := []) (c2 := 0) hr
  case beq => simp only [evPo] at hr ⊢; exact map3 (h2 := []) (c2 := 0) hr
  case beqS => simp only [evPo] at hr ⊢; exact map3 (h2 := []) (c2 := 0) hr
  case sl3 => simp only [evPo] at hr ⊢; exact map3 (h2 := []) (c2 := 0) hr
  case isnilI => simp only [evPo] at hr ⊢; exact map3 (h2 := []) (c2 := 0) hr
  case isnilS => simp only [evPo] at hr ⊢; exact map3 (h2 := []) (c2 := 0) hr
  case isnilP => simp only [evPo] at hr ⊢; exact map3 (h2 := []) (c2 := 0) hr
  case un => simp only [evPo] at hr ⊢; exact map3 (h2 := []) (c2 := 0) hr
  case cvi => simp only [evPo] at hr ⊢; exact map3 (h2 := []) (c2 := 0) hr
  case cvs x =>
    simp only [evPo] at hr ⊢
    split at hr
    · rename_i y hy; cases hr; exact ⟨rfl, rfl, fun _ _ => by simp only [hy]⟩
    · cases hr
  case mkfn => simp only [evPo] at hr ⊢; cases hr; exact ⟨rfl, rfl, fun _ _ => rfl⟩
  case slS => simp only [evPo] at hr ⊢; exact map3 (h2 := []) (c2 := 0) hr
  case sls => simp only [evPo] at hr ⊢; exact map3 (h2 := []) (c2 := 0) hr
  case fad => simp only [evPo] at hr ⊢; exact map3 (h2 := []) (c2 := 0) hr
  case fld => simp only [evPo] at hr ⊢; exact map3 (h2 := []) (c2 := 0) hr
  case ixS => simp only [evPo] at hr ⊢; exact map3 (h2 := []) (c2 := 0) hr
  case ixA => simp only [evPo] at hr ⊢; exact map3 (h2 := []) (c2 := 0) hr
  case ixs => simp only [evPo] at hr ⊢; exact map3 (h2 := []) (c2 := 0) hr
  case ixV => simp only [evPo] at hr ⊢; exact map3 (h2 := []) (c2 := 0) hr
  case ext => simp only [evPo] at hr ⊢; exact map3 (h2 := []) (c2 := 0) hr
  case lenS => simp only [evPo] at hr ⊢; exact map3 (h2 := []) (c2 := 0) hr
  case lenL => simp only [evPo] at hr ⊢; exact map3 (h2 := []) (c2 := 0) hr
  case lenc => simp only [evPo] at hr ⊢; cases hr; exact ⟨rfl, rfl, fun _ _ => rfl⟩
  case mm b xs =>
    simp only [evPo] at hr ⊢
    cases hx : xs.map (·.ev s.env) with
    | nil => rw [hx] at hr; cases hr
    | cons v0 r => rw [hx] at hr; exact map3 (h2 := []) (c2 := 0) hr
  case bslO ty sz xs => cases xs <;> simp [Po.cls, clsE] at hp
  all_goals (simp [Po.cls] at hp)
theorem evPo_cls1 (C : Cfg) (run : Run) (d me : Nat) {s : St} {p : Po} (hp : p.cls = 1 ∨ p.cls = 4) {v : V} {h : HP} {c : Nat} (hr : evPo C run d me s p = some (v, h, c)) : h = s.hp ∧ c = s.ck := by
  cases p <;> simp [Po.cls] at hp <;> simp only [evPo] at hr
  case bslO ty sz xs => cases xs <;> simp [clsE] at hp
  case load => have := map3 (h2 := []) (c2 := 0) hr; exact ⟨this.1, this.2.1⟩
  case loadS =>
    split at hr
    · have := map3 (h2 := []) (c2 := 0) hr; exact ⟨this.1, this.2.1⟩
    · cases hr
  case loadB =>
    split at hr
    · have := map3 (h2 := []) (c2 := 0) hr; exact ⟨this.1, this.2.1⟩
    · cases hr
  case callq => have := map3 (h2 := []) (c2 := 0) hr; exact ⟨this.1, this.2.1⟩
  case cvbs x =>
    split at hr
    · rename_i xs _
      cases hu : u8s xs with
      | none => simp [hu] at hr
      | some r => simp [hu] at hr; exact ⟨hr.2.1.symm, hr.2.2.symm⟩
    · cases hr
  case bslF sz ps =>
    split at hr
    · cases hu : rowsOf s.hp s.env sz ps with
      | none => simp [hu] at hr
      | some r => simp [hu] at hr; exact ⟨hr.2.1.symm, hr.2.2.symm⟩
    · cases hr
theorem keys_of_get {h : HP} {k : Key} {o : Ob} (hk : h.get k = some o) : k ∈ h.map Prod.fst := by
  induction h with
  | nil => cases hk
  | cons p r ih =>
    obtain ⟨k', o'⟩ := p
    simp only [HP.get] at hk
    by_cases e : k' = k
    · subst e; simp
    · rw [if_neg e] at hk
      simp only [List.map_cons, List.mem_cons]
      exact .inr (ih hk)
theorem load_cons {h : HP} {k : Key} {ob : Ob} (hk : k ∉ h.map Prod.fst) {agg : Bool} {n : Nat} {x r : V} (hl : load h agg n x = some r) : load ((k, ob) :: h) agg n x = some r := by
  have hg : ∀ q o, h.get q = some o → HP.get ((k, ob) :: h) q = some o := by
    intro q o hq
    simp only [HP.get]
    rw [if_neg]
    · exact hq
    · rintro rfl
      exact hk (keys_of_get hq)
  cases x <;> simp only [load] at hl ⊢ <;> try exact hl
  rename_i q sz i j
  cases ho : h.get q with
  | none => simp [ho] at hl
  | some o =>
    rw [ho] at hl
    rw [hg _ _ ho]
    exact hl
section
variable {h : HP} {k : Key} {ob : Ob}
theorem get_cons (hk : k ∉ h.map Prod.fst) {q : Key} {o : Ob} (hq : h.get q = some o) : HP.get ((k, ob) :: h) q = some o := by
  simp only [HP.get]
  rw [if_neg]
  · exact hq
  · rintro rfl
    exact hk (keys_of_get hq)
theorem treeOf_cons (hk : k ∉ h.map Prod.fst) {v : V} {t : T} (ht : treeOf h v = some t) : treeOf ((k, ob) :: h) v = some t := by
  cases v <;> simp only [treeOf] at ht ⊢ <;> try exact ht
  rename_i q sz off len
  cases ho : h.get q with
  | none => simp [ho] at ht
  | some o => rw [ho] at ht; rw [get_cons hk ho]; exact ht
theorem treesOf_cons (hk : k ∉ h.map Prod.fst) : ∀ {cs : List V} {ts : List T}, treesOf h cs = some ts → treesOf ((k, ob) :: h) cs = some ts
  | [], ts, ht => ht
  | c :: cs, ts, ht => by
    simp only [treesOf] at ht ⊢
    cases h1 : treeOf h c with
    | none => simp [h1] at ht
    | some x =>
      cases h2 : treesOf h cs with
      | none => simp [h1, h2] at ht
      | some xs => rw [treeOf_cons hk h1, treesOf_cons hk h2]; rw [h1, h2] at ht; exact ht
theorem keysOf1_cons (hk : k ∉ h.map Prod.fst) {v x : V} (hc : capOf h v = some x) : keysOf1 ((k, ob) :: h) v = keysOf1 h v := by
  cases v <;> try rfl
  rename_i q sz i j
  rcases i with _ | i <;> try rfl
  rcases j with _ | j <;> try rfl
  simp only [capOf] at hc
  cases ho : h.get q with
  | none => simp [ho] at hc
  | some o => simp only [keysOf1]; rw [ho, get_cons hk ho]
theorem capOf_cons (hk : k ∉ h.map Prod.fst) {v x : V} (hc : capOf h v = some x) : capOf ((k, ob) :: h) v = some x := by
  cases v <;> try exact hc
  · rename_i q sz off len
    simp only [capOf] at hc ⊢
    cases ht : treeOf h (.ow q sz off len) with
    | none => simp [ht] at hc
    | some t => rw [treeOf_cons hk ht]; rw [ht] at hc; exact hc
  · rename_i q sz i j
    rcases i with _ | i <;> try (exact hc)
    rcases j with _ | j <;> try (exact hc)
    simp only [capOf] at hc ⊢
    cases ho : h.get q with
    | none => simp [ho] at hc
    | some o =>
      rw [ho] at hc
      rw [get_cons hk ho]
      cases o with
      | row _ _ _ _ => exact hc
      | mp _ => exact hc
      | bls _ _ _ => exact hc
      | box ty cs =>
        simp only at hc ⊢
        cases hts : treesOf h cs with
        | none => simp [hts] at hc
        | some ts => rw [treesOf_cons hk hts]; rw [hts] at hc; exact hc
theorem capsOf_cons (hk : k ∉ h.map Prod.fst) : ∀ {vs xs : List V}, capsOf h vs = some xs → capsOf ((k, ob) :: h) vs = some xs ∧ vs.flatMap (keysOf1 ((k, ob) :: h)) = vs.flatMap (keysOf1 h)
  | [], xs, hc => ⟨hc, rfl⟩
  | v :: vs, xs, hc => by
    simp only [capsOf] at hc ⊢
    cases h1 : capOf h v with
    | none => simp [h1] at hc
    | some x =>
      cases h2 : capsOf h vs with
      | none => simp [h1, h2] at hc
      | some ys =>
        obtain ⟨g1, g2⟩ := capsOf_cons hk h2
        rw [capOf_cons hk h1, g1, List.flatMap_cons, List.flatMap_cons, g2, keysOf1_cons hk h1]
        rw [h1, h2] at hc
        exact ⟨hc, rfl⟩
theorem treesKeys_cons (hk : k ∉ h.map Prod.fst) : ∀ {cs : List V} {ts : List T}, treesOf h cs = some ts → cs.flatMap (keysOf1 ((k, ob) :: h)) = cs.flatMap (keysOf1 h)
  | [], ts, _ => rfl
  | c :: cs, ts, ht => by
    simp only [treesOf] at ht
    cases h1 : treeOf h c with
    | none => simp [h1] at ht
    | some x =>
      cases h2 : treesOf h cs with
      | none => simp [h1, h2] at ht
      | some xs =>
        rw [List.flatMap_cons, List.flatMap_cons, treesKeys_cons hk h2]
        cases c <;> first | rfl | (simp [treeOf] at h1; done)
theorem pureOf_cons (hk : k ∉ h.map Prod.fst) {v x : V} (hc : pureOf h v = some x) : pureOf ((k, ob) :: h) v = some x ∧ keysOf ((k, ob) :: h) v = keysOf h v := by
  by_cases hpt : ∃ q sz i j, v = .pt q sz i j
  · obtain ⟨q, sz, i, j, rfl⟩ := hpt
    exact ⟨capOf_cons hk hc, keysOf1_cons hk hc⟩
  cases v <;> try exact ⟨hc, rfl⟩
  · rename_i q sz off len
    simp only [pureOf] at hc ⊢
    cases ht : treeOf h (.ow q sz off len) with
    | none => simp [ht] at hc
    | some t => rw [treeOf_cons hk ht]; rw [ht] at hc; exact ⟨hc, rfl⟩
  · exact absurd ⟨_, _, _, _, rfl⟩ hpt
  · rename_i cs
    simp only [pureOf] at hc ⊢
    cases hts : treesOf h cs with
    | none => simp [hts] at hc
    | some ts => rw [treesOf_cons hk hts]; rw [hts] at hc; exact ⟨hc, treesKeys_cons hk hts⟩
  · rename_i f caps
    simp only [pureOf] at hc ⊢
    cases hcs : capsOf h caps with
    | none => simp [hcs] at hc
    | some cs =>
      obtain ⟨g1, g2⟩ := capsOf_cons (ob := ob) hk hcs
      rw [g1]; rw [hcs] at hc; exact ⟨hc, g2⟩
theorem puresOf_cons (hk : k ∉ h.map Prod.fst) : ∀ {vs xs : List V}, puresOf h vs = some xs → puresOf ((k, ob) :: h) vs = some xs ∧ vs.flatMap (keysOf ((k, ob) :: h)) = vs.flatMap (keysOf h)
  | [], xs, hc => ⟨hc, rfl⟩
  | v :: vs, xs, hc => by
    simp only [puresOf] at hc ⊢
    cases h1 : pureOf h v with
    | none => simp [h1] at hc
    | some x =>
      cases h2 : puresOf h vs with
      | none => simp [h1, h2] at hc
      | some ys =>
        obtain ⟨g1, g2⟩ := puresOf_cons hk h2
        obtain ⟨g3, g4⟩ := pureOf_cons (ob := ob) hk h1
        rw [g3, g1, List.flatMap_cons, List.flatMap_cons, g2, g4]
        rw [h1, h2] at hc
        exact ⟨hc, rfl⟩
theorem rowsOf_cons (hk : k ∉ h.map Prod.fst) (e : Env) (n : Nat) : ∀ {xs : List Opd} {r : List (List T)}, rowsOf h e n xs = some r → rowsOf ((k, ob) :: h) e n xs = some r ∧ keysOfs ((k, ob) :: h) e xs = keysOfs h e xs
  | [], r, hr => ⟨hr, rfl⟩
  | x :: xs, r, hr => by
    simp only [rowsOf, keysOfs] at hr ⊢
    cases h1 : treesC h (x.ev e) with
    | none => simp [h1] at hr
    | some c =>
      cases h2 : rowsOf h e n xs with
      | none => simp [h1, h2] at hr
      | some cs =>
        obtain ⟨g1, g2⟩ := rowsOf_cons hk e n h2
        rw [g1, g2]
        rw [h1, h2] at hr
        unfold treesC at h1 ⊢
        cases hc : cells (x.ev e) with
        | none => simp [hc] at h1
        | some vs =>
          rw [hc] at h1
          simp only at h1 ⊢
          rw [treesOf_cons hk h1]
          refine ⟨hr, ?_⟩
          congr 1
          cases hx : x.ev e <;> try rfl
          rw [hx] at hc
          cases hc
          exact treesKeys_cons hk h1
theorem elsOf_cons (hk : k ∉ h.map Prod.fst) {sz : Nat} {v : V} {xs : List (List T)} (hr : elsOf h sz v = some xs) : elsOf ((k, ob) :: h) sz v = some xs := by
  unfold elsOf at hr ⊢
  cases ht : treeOf h v with
  | none => simp [ht] at hr
  | some t => rw [treeOf_cons hk ht]; rw [ht] at hr; exact hr
theorem isBox_cons (hk : k ∉ h.map Prod.fst) {v : V} (hb : isBox h v = true) : isBox ((k, ob) :: h) v = true := by
  cases v <;> try (simp [isBox] at hb; done)
  · rename_i q sz i j
    simp only [isBox] at hb ⊢
    cases ho : h.get q with
    | none => rw [ho] at hb; cases hb
    | some o => rw [get_cons hk ho]; rw [ho] at hb; exact hb
  · rfl
theorem callO_cons (hk : k ∉ h.map Prod.fst) {C : Cfg} {run : Run} {f : Nat} {args : List V} {new : Key} {r : V × Ob} (hc : callO C run f args h new = some r) : callO C run f args ((k, ob) :: h) new = some r := by
  unfold callO at hc ⊢
  cases hps : puresOf h args with
  | none =>
    rw [hps] at hc
    cases hf : args.flatMap (keysOf h) <;> rw [hf] at hc <;> cases hc
  | some ps =>
    obtain ⟨g1, g2⟩ := puresOf_cons (ob := ob) hk hps
    rw [g1, g2]
    rw [hps] at hc
    exact hc
theorem callQ_cons (hk : k ∉ h.map Prod.fst) {run : Run} {f : Nat} {args : List V} {r : V} (hc : callQ run f args h = some r) : callQ run f args ((k, ob) :: h) = some r := by
  unfold callQ at hc ⊢
  cases hps : puresOf h args with
  | none => simp [hps] at hc
  | some ps =>
    obtain ⟨g1, g2⟩ := puresOf_cons (ob := ob) hk hps
    rw [g1, g2]
    rw [hps] at hc
    exact hc
end
theorem evPo_cls2 (C : Cfg) (run : Run) (d me : Nat) {s : St} {p : Po} (hp : p.cls = 2) {v : V} {h : HP} {c : Nat} (hr : evPo C run d me s p = some (v, h, c)) : c = s.ck ∧ ∃ ob, h = (⟨d, s.ck, me⟩, ob) :: s.hp ∧ ∀ h2, evPo C run d me ⟨s.env, h2, s.ck⟩ p = some (v, (⟨d, s.ck, me⟩, ob) :: h2, s.ck) := by
  cases p <;> simp [Po.cls] at hp <;> simp only [evPo] at hr ⊢
  · cases hr
    exact ⟨rfl, _, rfl, fun _ => rfl⟩
  · rename_i xs
    cases xs with
    | cons x r => simp [clsE] at hp
    | nil => cases hr; exact ⟨rfl, _, rfl, fun _ => rfl⟩
  · split at hr
    · rename_i n m hn hm
      split at hr
      · rename_i hc
        cases hr
        refine ⟨rfl, _, rfl, fun h2 => ?_⟩
        simp only [if_pos hc]
      · cases hr
    · cases hr
section
variable {C : Cfg} {run : Run}
theorem evG_cls0 {me : Nat} {s : St} {p : Pop} (hp : p.op.cls = 0) {v : V} {h : HP} {c : Nat} (hr : evG C run me p s = some (v, h, c)) : h = s.hp ∧ c = s.ck ∧ ∀ h2 c2, evG C run me p ⟨s.env, h2, c2⟩ = some (v, h2, c2) := by
  unfold evG at hr ⊢
  cases hg : p.g with
  | none => rw [hg] at hr; exact evPo_cls0 C run _ me hp hr
  | some q =>
    obtain ⟨t, want⟩ := q
    rw [hg] at hr
    simp only at hr ⊢
    cases hx : s.env.get t <;> rw [hx] at hr <;> (try simp only at hr ⊢) <;> first
      | (cases hr; done)
      | (cases hr; exact ⟨rfl, rfl, fun _ _ => rfl⟩)
      | skip
    rename_i y
    cases y <;> (try simp only at hr ⊢) <;> first | (cases hr; done) | skip
    rename_i x
    by_cases hw : x = want
    · rw [if_pos hw] at hr
      simp only [if_pos hw]
      exact evPo_cls0 C run _ me hp hr
    · rw [if_neg hw] at hr
      cases hr
      simp only [if_neg hw]
      exact ⟨trivial, trivial, fun _ _ => trivial⟩
theorem evG_cls1 {me : Nat} {s : St} {p : Pop} (hp : p.op.cls = 1 ∨ p.op.cls = 4) {v : V} {h : HP} {c : Nat} (hr : evG C run me p s = some (v, h, c)) : h = s.hp ∧ c = s.ck := by
  unfold evG at hr
  cases hg : p.g with
  | none => rw [hg] at hr; exact evPo_cls1 C run _ me hp hr
  | some q =>
    obtain ⟨t, want⟩ := q
    rw [hg] at hr
    simp only at hr
    cases hx : s.env.get t <;> rw [hx] at hr <;> (try simp only at hr) <;> first
      | (cases hr; done)
      | (cases hr; exact ⟨rfl, rfl⟩)
      | skip
    rename_i y
    cases y <;> (try simp only at hr) <;> first | (cases hr; done) | skip
    rename_i x
    by_cases hw : x = want
    · rw [if_pos hw] at hr
      exact evPo_cls1 C run _ me hp hr
    · rw [if_neg hw] at hr
      cases hr
      exact ⟨rfl, rfl⟩
theorem evG_load {me : Nat} {s : St} {p : Pop} (hp : p.op.cls = 1 ∨ p.op.cls = 4) {v : V} {h : HP} {c : Nat} (hr : evG C run me p s = some (v, h, c)) {k : Key} (hk : k ∉ s.hp.map Prod.fst) (ob : Ob) (c2 : Nat) : evG C run me p ⟨s.env, (k, ob) :: s.hp, c2⟩ = some (v, (k, ob) :: s.hp, c2) := by
  have hl : ∀ {v h c}, evPo C run (p.dst.getD 0) me s p.op = some (v, h, c) → evPo C run (p.dst.getD 0) me ⟨s.env, (k, ob) :: s.hp, c2⟩ p.op = some (v, (k, ob) :: s.hp, c2) := by
    intro v h c hr
    cases hop : p.op <;> rw [hop] at hp hr
    case load ag n x =>
      simp only [evPo] at hr ⊢
      cases hx : load s.hp ag n (x.ev s.env) with
      | none => simp [hx] at hr
      | some r =>
        simp [hx] at hr
        rw [load_cons hk hx, hr.1]
        rfl
    case loadS ss ag n x =>
      simp only [evPo] at hr ⊢
      split at hr
      · rename_i hb
        rw [if_pos hb]
        cases hx : load s.hp ag n (x.ev s.env) with
        | none => simp [hx] at hr
        | some r =>
          simp [hx] at hr
          rw [load_cons hk hx, hr.1]
          rfl
      · cases hr
    case loadB ag n x =>
      simp only [evPo] at hr ⊢
      split at hr
      · rename_i hb
        rw [if_pos (isBox_cons hk hb)]
        cases hx : load s.hp ag n (x.ev s.env) with
        | none => simp [hx] at hr
        | some r =>
          simp [hx] at hr
          rw [load_cons hk hx, hr.1]
          rfl
      · cases hr
    case callq f as =>
      simp only [evPo] at hr ⊢
      cases hx : callQ run f (as.map (·.ev s.env)) s.hp with
      | none => simp [hx] at hr
      | some r =>
        simp [hx] at hr
        rw [callQ_cons hk hx, hr.1]
        rfl
    case cvbs x =>
      simp only [evPo] at hr ⊢
      split at hr
      · rename_i xs hx
        rw [elsOf_cons hk hx]
        simp only
        cases hu : u8s xs with
        | none => simp [hu] at hr
        | some r => simp [hu] at hr; rw [← hr.1]; rfl
      · cases hr
    case bslF sz ps =>
      simp only [evPo] at hr ⊢
      split at hr
      · rename_i hks
        cases hu : rowsOf s.hp s.env sz ps with
        | none => simp [hu] at hr
        | some r =>
          obtain ⟨g1, g2⟩ := rowsOf_cons (ob := ob) hk s.env sz hu
          rw [g1, g2, hks]
          simp [hu] at hr; rw [← hr.1]; rfl
      · cases hr
    case bslO ty sz xs => cases xs <;> simp [Po.cls, clsE] at hp
    all_goals (simp [Po.cls] at hp)
  unfold evG at hr ⊢
  cases hg : p.g with
  | none => rw [hg] at hr; exact hl hr
  | some q =>
    obtain ⟨t, want⟩ := q
    rw [hg] at hr
    simp only at hr ⊢
    cases hx : s.env.get t <;> rw [hx] at hr <;> (try simp only at hr ⊢) <;> first
      | (cases hr; done)
      | (cases hr; rfl)
      | skip
    rename_i y
    cases y <;> (try simp only at hr ⊢) <;> first | (cases hr; done) | skip
    rename_i x
    by_cases hw : x = want
    · rw [if_pos hw] at hr
      simp only [if_pos hw]
      exact hl hr
    · rw [if_neg hw] at hr
      cases hr
      simp only [if_neg hw]
theorem evG_cls2 {me : Nat} {s : St} {p : Pop} (hp : p.op.cls = 2) {v : V} {h : HP} {c : Nat} (hr : evG C run me p s = some (v, h, c)) : c = s.ck ∧ ((h = s.hp ∧ ∀ h2, evG C run me p ⟨s.env, h2, s.ck⟩ = some (v, h2, s.ck)) ∨ ∃ ob, h = (⟨p.dst.getD 0, s.ck, me⟩, ob) :: s.hp ∧ ∀ h2, evG C run me p ⟨s.env, h2, s.ck⟩ = some (v, (⟨p.dst.getD 0, s.ck, me⟩, ob) :: h2, s.ck)) := by
  unfold evG at hr ⊢
  cases hg : p.g with
  | none =>
    rw [hg] at hr
    obtain ⟨h1, h2⟩ := evPo_cls2 C run _ me hp hr
    exact ⟨h1, .inr h2⟩
  | some q =>
    obtain ⟨t, want⟩ := q
    rw [hg] at hr
    simp only at hr ⊢
    cases hx : s.env.get t <;> rw [hx] at hr <;> (try simp only at hr ⊢) <;> first
      | (cases hr; done)
      | (cases hr; exact ⟨rfl, .inl ⟨rfl, fun _ => rfl⟩⟩)
      | skip
    rename_i y
    cases y <;> (try simp only at hr ⊢) <;> first | (cases hr; done) | skip
    rename_i x
    by_cases hw : x = want
    · rw [if_pos hw] at hr
      simp only [if_pos hw]
      obtain ⟨h1, h2⟩ := evPo_cls2 C run _ me hp hr
      exact ⟨h1, .inr h2⟩
    · rw [if_neg hw] at hr
      cases hr
      simp only [if_neg hw]
      exact ⟨trivial, .inl ⟨trivial, fun _ => trivial⟩⟩
theorem evPo_hpe {d me : Nat} {s : St} {p : Po} (hp : okL p = true) {v : V} {h : HP} {c : Nat} (hr : evPo C run d me s p = some (v, h, c)) {h2 : HP} (e : HPe s.hp h2) : ∃ h', evPo C run d me ⟨s.env, h2, s.ck⟩ p = some (v, h', c) ∧ HPe h h' := by
  by_cases h0 : p.cls = 0
  · obtain ⟨rfl, rfl, g⟩ := evPo_cls0 C run d me h0 hr
    exact ⟨h2, g h2 _, e⟩
  by_cases h1 : p.cls = 1 ∨ p.cls = 4
  · obtain ⟨rfl, rfl⟩ := evPo_cls1 C run d me h1 hr
    refine ⟨h2, ?_, e⟩
    cases p <;> simp [Po.cls] at h1 <;> simp only [evPo] at hr ⊢
    case bslO ty sz xs => cases xs <;> simp [clsE] at h1
    case load ag n x => rw [← load_e e]; rw [Option.map_eq_some_iff] at hr ⊢; obtain ⟨a, ha, hb⟩ := hr; cases hb; exact ⟨_, ha, rfl⟩
    case loadS ss ag n x =>
      rw [← load_e e]
      split at hr
      · rename_i hb
        rw [if_pos hb]
        rw [Option.map_eq_some_iff] at hr ⊢; obtain ⟨a, ha, hb⟩ := hr; cases hb; exact ⟨_, ha, rfl⟩
      · cases hr
    case loadB ag n x =>
      rw [← load_e e, ← isBox_e e]
      split at hr
      · rename_i hb
        rw [if_pos hb]
        rw [Option.map_eq_some_iff] at hr ⊢; obtain ⟨a, ha, hb⟩ := hr; cases hb; exact ⟨_, ha, rfl⟩
      · cases hr
    case callq f as => rw [← callQ_e e]; rw [Option.map_eq_some_iff] at hr ⊢; obtain ⟨a, ha, hb⟩ := hr; cases hb; exact ⟨_, ha, rfl⟩
    case cvbs x =>
      cases hx : elsOf s.hp 1 (x.ev s.env) with
      | none => rw [hx] at hr; cases hr
      | some xs =>
        rw [hx] at hr
        rw [← elsOf_e e, hx]
        simp only at hr ⊢
        rw [Option.map_eq_some_iff] at hr ⊢; obtain ⟨a, ha, hb⟩ := hr; cases hb; exact ⟨_, ha, rfl⟩
    case bslF sz ps =>
      cases hx : keysOfs s.hp s.env ps with
      | cons _ _ => rw [hx] at hr; cases hr
      | nil =>
        rw [hx] at hr
        rw [← keysOfs_e e, hx, ← rowsOf_e e]
        simp only at hr ⊢
        rw [Option.map_eq_some_iff] at hr ⊢; obtain ⟨a, ha, hb⟩ := hr; cases hb; exact ⟨_, ha, rfl⟩
  by_cases hc2 : p.cls = 2
  · obtain ⟨rfl, ob, rfl, g⟩ := evPo_cls2 C run d me hc2 hr
    exact ⟨_, g h2, e.cons _ _⟩
  cases p <;> simp [Po.cls, okL] at hp h0 h1 hc2 <;> simp only [evPo] at hr ⊢
  case bslO ty sz xs => cases xs <;> simp [clsE] at hp hc2
  case store n a x =>
    rw [Option.map_eq_some_iff] at hr
    obtain ⟨q, ha, hb⟩ := hr
    cases hb
    obtain ⟨h', g1, g2⟩ := store_e e ha
    exact ⟨h', by rw [g1]; rfl, g2⟩
  case callo f as =>
    rw [← callO_e e]
    by_cases hn : (as.map (·.ev s.env)).all noFn = true
    case neg => rw [if_neg hn] at hr; cases hr
    rw [if_pos hn] at hr ⊢
    rw [Option.map_eq_some_iff] at hr
    obtain ⟨q, ha, hb⟩ := hr
    cases hb
    exact ⟨_, by rw [ha]; rfl, e.cons _ _⟩
  case storeR n a x =>
    rw [← isRow_e e]
    split at hr
    · rename_i hz
      rw [if_pos hz]
      rw [Option.map_eq_some_iff] at hr
      obtain ⟨q, ha, hb⟩ := hr
      cases hb
      obtain ⟨h', g1, g2⟩ := store_e e ha
      exact ⟨h', by rw [g1]; rfl, g2⟩
    · cases hr
  case storeS ss n a x =>
    split at hr
    · rename_i hz
      rw [if_pos hz]
      rw [Option.map_eq_some_iff] at hr
      obtain ⟨q, ha, hb⟩ := hr
      cases hb
      obtain ⟨h', g1, g2⟩ := store_e e ha
      exact ⟨h', by rw [g1]; rfl, g2⟩
    · cases hr
  case storeD n a x zs =>
    split at hr
    · rename_i hz
      rw [if_pos hz]
      rw [Option.map_eq_some_iff] at hr
      obtain ⟨q, ha, hb⟩ := hr
      cases hb
      obtain ⟨h', g1, g2⟩ := store_e e ha
      exact ⟨h', by rw [g1]; rfl, g2⟩
    · cases hr
theorem evG_hpe {me : Nat} {s : St} {p : Pop} (hp : okL p.op = true) {v : V} {h : HP} {c : Nat} (hr : evG C run me p s = some (v, h, c)) {h2 : HP} (e : HPe s.hp h2) : ∃ h', evG C run me p ⟨s.env, h2, s.ck⟩ = some (v, h', c) ∧ HPe h h' := by
  unfold evG at hr ⊢
  cases hg : p.g with
  | none => rw [hg] at hr; exact evPo_hpe hp hr e
  | some q =>
    obtain ⟨t, want⟩ := q
    rw [hg] at hr
    simp only at hr ⊢
    cases hx : s.env.get t <;> rw [hx] at hr <;> (try simp only at hr ⊢) <;> first
      | (cases hr; done)
      | (cases hr; exact ⟨h2, rfl, e⟩)
      | skip
    rename_i y
    cases y <;> (try simp only at hr ⊢) <;> first | (cases hr; done) | skip
    rename_i x
    by_cases hw : x = want
    · rw [if_pos hw] at hr
      simp only [if_pos hw]
      exact evPo_hpe hp hr e
    · rw [if_neg hw] at hr
      cases hr
      simp only [if_neg hw]
      exact ⟨h2, rfl, e⟩
theorem evPo_seenR {d me d2 i : Nat} {s : St} {ag : Bool} {m n : Nat} {p a w : Opd} {v : V} {h : HP} {c : Nat} (hr : evPo C run d2 i s (.storeR n a w) = some (v, h, c)) : c = s.ck ∧ ∀ r, evPo C run d me ⟨s.env, h, s.ck⟩ (.loadB ag m p) = some (r, h, s.ck) ↔ evPo C run d me ⟨s.env, s.hp, s.ck⟩ (.loadB ag m p) = some (r, s.hp, s.ck) := by
  simp only [evPo] at hr ⊢
  split at hr
  · rename_i hz
    rw [Option.map_eq_some_iff] at hr
    obtain ⟨q, ha, hb⟩ := hr
    cases hb
    refine ⟨rfl, fun r => ?_⟩
    have hbx := store_box ha hz
    constructor
    · intro hh
      split at hh
      · rename_i hb
        obtain ⟨g1, g2⟩ := load_kept (fun q ty cs => (hbx q ty cs).1) hb ag m
        rw [if_pos g1, g2]
        rw [Option.map_eq_some_iff] at hh ⊢
        obtain ⟨a, ha, hb⟩ := hh; cases hb; exact ⟨_, ha, rfl⟩
      · cases hh
    · intro hh
      split at hh
      · rename_i hb
        obtain ⟨g1, g2⟩ := load_kept (fun q ty cs => (hbx q ty cs).2) hb ag m
        rw [if_pos g1, g2]
        rw [Option.map_eq_some_iff] at hh ⊢
        obtain ⟨a, ha, hb⟩ := hh; cases hb; exact ⟨_, ha, rfl⟩
      · cases hh
  · cases hr
theorem inSites_apart {ss ts : List Nat} (hd : (ss.all fun s => !ts.contains s) = true) {a p : V} (ha : inSites ts a = true) (hp : inSites ss p = true) : apart a p = true := by
  cases p <;> try (cases hp; done)
  cases a <;> try (cases ha; done)
  rename_i q _ _ _ k _ _ _
  simp only [inSites] at ha hp
  have h1 := List.all_eq_true.1 hd q.s (by simpa using hp)
  simp only [apart, bne_iff_ne, ne_eq]
  rintro rfl
  rw [ha] at h1
  cases h1
theorem countK_none : ∀ {h : HP} {k : Key}, countK h k = 0 → h.get k = none
  | [], k, _ => rfl
  | (k', o) :: r, k, h => by
    simp only [countK] at h
    by_cases e : k' = k
    · rw [if_pos e] at h; omega
    · rw [if_neg e] at h
      have h' : countK r k = 0 := by omega
      simp only [HP.get, if_neg e]
      exact countK_none h'
theorem put_once {k k2 : Key} {o : Ob} : ∀ {h : HP}, countK h k = 1 → countK h k2 = 0 → ∀ q, (h.put k k2 o).get q = if q = k2 then some o else if q = k then none else h.get q
  | [], h1, _, _ => by simp [countK] at h1
  | (k', o') :: r, h1, h2, q => by
    simp only [countK] at h1 h2
    have hk2 : ¬ k' = k2 := fun e => by rw [if_pos e] at h2; omega
    rw [if_neg hk2] at h2
    by_cases e : k' = k
    · rw [if_pos e] at h1
      have hr : countK r k = 0 := by omega
      simp only [HP.put, if_pos e, HP.get]
      by_cases e2 : q = k2
      · rw [if_pos e2.symm, if_pos e2]
      · rw [if_neg (fun h => e2 h.symm), if_neg e2]
        by_cases e3 : q = k
        · rw [if_pos e3, e3]; exact countK_none hr
        · rw [if_neg e3, if_neg (fun h => e3 (by rw [← h]; exact e))]
    · rw [if_neg e] at h1
      simp only [HP.put, if_neg e, HP.get]
      have ih := put_once (k := k) (k2 := k2) (o := o) (h := r) (by omega) (by omega) q
      by_cases e4 : k' = q
      · rw [if_pos e4, if_pos e4, if_neg (fun h => hk2 (by rw [e4, h])), if_neg (fun h => e (by rw [e4, h]))]
      · rw [if_neg e4, if_neg e4, ih]
theorem app_box {h h' : HP} {ty sz b : Nat} {new : Key} {x y v : V} (hok : appOk h new x = true) (ha : app h ty sz b new x y = some (v, h')) (q : Key) (t : Nat) (cs : List V) : h'.get q = some (.box t cs) ↔ h.get q = some (.box t cs) := by
  unfold app at ha
  cases hy : elsOf h sz y with
  | none => rw [hy] at ha; cases ha
  | some ys =>
    rw [hy] at ha
    simp only at ha
    cases x <;> simp only [appOk] at hok <;> try (cases hok; done)
    case nl =>
      simp only at ha
      split at ha
      · cases ha
        have h0 : countK h new = 0 := by simpa using hok
        simp only [HP.get]
        by_cases e : new = q
        · rw [if_pos e, ← e, countK_none h0]
          constructor <;> intro hh <;> cases hh
        · rw [if_neg e]
      · cases ha
    case ow k sz' off len =>
      simp only [Bool.and_eq_true, beq_iff_eq] at hok
      simp only at ha
      cases hk : h.get k with
      | none => rw [hk] at ha; cases ha
      | some o =>
        rw [hk] at ha
        cases o with
        | box _ _ => cases ha
        | mp _ => cases ha
        | bls _ _ _ => cases ha
        | row ty' sz2 xs fz =>
          cases fz with
          | true => cases ha
          | false =>
            simp only at ha
            split at ha
            · cases ha
              rw [put_once hok.1 hok.2]
              by_cases e : q = { new with s := k.s }
              · rw [if_pos e, e, countK_none hok.2]
                constructor <;> intro hh <;> cases hh
              · rw [if_neg e]
                by_cases e2 : q = k
                · rw [if_pos e2, e2, hk]
                  constructor <;> intro hh <;> cases hh
                · rw [if_neg e2]
            · cases ha
theorem evPo_seen {d me d2 i : Nat} {s : St} {x y : Po} (hs : seen y x = true) {v : V} {h : HP} {c : Nat} (hr : evPo C run d2 i s x = some (v, h, c)) : c = s.ck ∧ ∀ r, evPo C run d me ⟨s.env, h, s.ck⟩ y = some (r, h, s.ck) ↔ evPo C run d me ⟨s.env, s.hp, s.ck⟩ y = some (r, s.hp, s.ck) := by
  cases y <;> cases x <;> simp only [seen] at hs <;> try (cases hs; done)
  case loadB.storeR => exact evPo_seenR hr
  case loadB.appU ag m p t n b u w =>
    simp only [evPo] at hr ⊢
    split at hr
    · rename_i hz
      rw [Option.map_eq_some_iff] at hr
      obtain ⟨q, ha, hb⟩ := hr
      cases hb
      refine ⟨rfl, fun r => ?_⟩
      have hbx := app_box hz ha
      constructor
      · intro hh
        split at hh
        · rename_i hb
          obtain ⟨g1, g2⟩ := load_kept (fun q ty cs => (hbx q ty cs).1) hb ag m
          rw [if_pos g1, g2]
          rw [Option.map_eq_some_iff] at hh ⊢
          obtain ⟨a, ha, hb⟩ := hh; cases hb; exact ⟨_, ha, rfl⟩
        · cases hh
      · intro hh
        split at hh
        · rename_i hb
          obtain ⟨g1, g2⟩ := load_kept (fun q ty cs => (hbx q ty cs).2) hb ag m
          rw [if_pos g1, g2]
          rw [Option.map_eq_some_iff] at hh ⊢
          obtain ⟨a, ha, hb⟩ := hh; cases hb; exact ⟨_, ha, rfl⟩
        · cases hh
    · cases hr
  case loadS.storeS ss ag m p ts n a w =>
    simp only [evPo] at hr ⊢
    split at hr
    · rename_i hz
      rw [Option.map_eq_some_iff] at hr
      obtain ⟨q, ha, hb⟩ := hr
      cases hb
      refine ⟨rfl, fun r => ?_⟩
      by_cases hp : inSites ss (p.ev s.env) = true
      · rw [if_pos hp, if_pos hp]
        have := store_load ha (inSites_apart hs hz hp) ag m
        rw [this]
        simp only [Option.map_eq_some_iff]
        constructor
        · rintro ⟨a, ha, hb⟩; cases hb; exact ⟨_, ha, rfl⟩
        · rintro ⟨a, ha, hb⟩; cases hb; exact ⟨_, ha, rfl⟩
      · rw [if_neg hp, if_neg hp]
        constructor <;> intro h <;> cases h
    · cases hr
  case load.storeD ag m p n a w zs =>
    cases p with
    | c v => simp at hs
    | tmp t =>
      simp only [evPo] at hr
      split at hr
      · rename_i hz
        rw [Option.map_eq_some_iff] at hr
        obtain ⟨q, ha, hb⟩ := hr
        cases hb
        refine ⟨rfl, fun r => ?_⟩
        have hap := List.all_eq_true.1 hz t (by simpa using hs)
        have := store_load ha hap ag m
        simp only [evPo, Opd.ev, this]
        simp only [Option.map_eq_some_iff]
        constructor
        · rintro ⟨a, ha, hb⟩; cases hb; exact ⟨_, ha, rfl⟩
        · rintro ⟨a, ha, hb⟩; cases hb; exact ⟨_, ha, rfl⟩
      · cases hr
theorem evG_seen {j i : Nat} {s : St} {x y : Pop} (hs : seen y.op x.op = true) {v : V} {h : HP} {c : Nat} (hr : evG C run i x s = some (v, h, c)) : c = s.ck ∧ ∀ r, evG C run j y ⟨s.env, h, s.ck⟩ = some (r, h, s.ck) ↔ evG C run j y ⟨s.env, s.hp, s.ck⟩ = some (r, s.hp, s.ck) := by
  have hx : (c = s.ck ∧ h = s.hp) ∨ evPo C run (x.dst.getD 0) i s x.op = some (v, h, c) := by
    unfold evG at hr
    cases hg : x.g with
    | none => rw [hg] at hr; exact .inr hr
    | some q =>
      obtain ⟨t, want⟩ := q
      rw [hg] at hr
      simp only at hr
      cases hx : s.env.get t <;> rw [hx] at hr <;> (try simp only at hr) <;> first
        | (cases hr; done)
        | (cases hr; exact .inl ⟨rfl, rfl⟩)
        | skip
      rename_i y
      cases y <;> (try simp only at hr) <;> first | (cases hr; done) | skip
      rename_i b
      by_cases hw : b = want
      · rw [if_pos hw] at hr; exact .inr hr
      · rw [if_neg hw] at hr; cases hr; exact .inl ⟨rfl, rfl⟩
  rcases hx with ⟨rfl, rfl⟩ | hx
  · exact ⟨rfl, fun _ => Iff.rfl⟩
  obtain ⟨rfl, g⟩ := evPo_seen (d := y.dst.getD 0) (me := j) hs hx
  refine ⟨rfl, fun r => ?_⟩
  unfold evG
  cases hg : y.g with
  | none => exact g r
  | some q =>
    obtain ⟨t, want⟩ := q
    simp only
    cases hx : s.env.get t <;> (try simp only) <;> try (constructor <;> intro hh <;> cases hh <;> rfl)
    rename_i z
    cases z <;> (try simp only) <;> try (constructor <;> intro hh <;> cases hh <;> rfl)
    rename_i b
    by_cases hw : b = want
    · rw [if_pos hw, if_pos hw]; exact g r
    · rw [if_neg hw, if_neg hw]; constructor <;> intro hh <;> cases hh <;> rfl
theorem seen_cls {y x : Po} (h : seen y x = true) : y.cls = 1 ∧ x.cls = 5 := by
  cases y <;> cases x <;> simp only [seen] at h <;> try (cases h; done)
  all_goals exact ⟨rfl, rfl⟩
theorem kept_cls {y x : Po} (h : kept y x = true) : y.cls = 1 ∧ x.cls = 3 := by
  cases y <;> cases x <;> simp only [kept] at h <;> try (cases h; done)
  all_goals exact ⟨rfl, rfl⟩
theorem mem_of_get {h : HP} {k : Key} {o : Ob} (hk : h.get k = some o) : (k, o) ∈ h := by
  induction h with
  | nil => cases hk
  | cons p r ih =>
    obtain ⟨k', o'⟩ := p
    simp only [HP.get] at hk
    by_cases e : k' = k
    · subst e; rw [if_pos rfl] at hk; cases hk; exact List.mem_cons_self
    · rw [if_neg e] at hk; exact List.mem_cons_of_mem _ (ih hk)
theorem evG_kept {j i : Nat} {s : St} {x y : Pop} (hs : kept y.op x.op = true) {v : V} {h : HP} {c : Nat} (hr : evG C run i x s = some (v, h, c)) {r : V} (hy : evG C run j y ⟨s.env, s.hp, s.ck⟩ = some (r, s.hp, s.ck)) : evG C run j y ⟨s.env, h, c⟩ = some (r, h, c) := by
  have hx : ∀ q ty cs, s.hp.get q = some (.box ty cs) → h.get q = some (.box ty cs) := by
    have h1 : h = s.hp ∨ evPo C run (x.dst.getD 0) i s x.op = some (v, h, c) := by
      unfold evG at hr
      cases hg : x.g with
      | none => rw [hg] at hr; exact .inr hr
      | some q =>
        obtain ⟨t, want⟩ := q
        rw [hg] at hr
        simp only at hr
        cases hx : s.env.get t <;> rw [hx] at hr <;> (try simp only at hr) <;> first
          | (cases hr; done)
          | (cases hr; exact .inl rfl)
          | skip
        rename_i y
        cases y <;> (try simp only at hr) <;> first | (cases hr; done) | skip
        rename_i b
        by_cases hw : b = want
        · rw [if_pos hw] at hr; exact .inr hr
        · rw [if_neg hw] at hr; cases hr; exact .inl rfl
    rcases h1 with rfl | h1
    · exact fun _ _ _ h => h
    · cases hx : x.op <;> rw [hx] at hs h1 <;> cases hy2 : y.op <;> rw [hy2] at hs <;> simp only [kept] at hs <;> try (cases hs; done)
      simp only [evPo] at h1
      split at h1
      · split at h1
        · rename_i hall
          cases h1
          intro q ty cs hq
          have := List.all_eq_true.1 hall _ (mem_of_get hq)
          simpa [keptB] using this
        · cases h1
      · cases h1
  have hl : ∀ {r}, evPo C run (y.dst.getD 0) j ⟨s.env, s.hp, s.ck⟩ y.op = some (r, s.hp, s.ck) → evPo C run (y.dst.getD 0) j ⟨s.env, h, c⟩ y.op = some (r, h, c) := by
    intro r hh
    cases hy2 : y.op <;> rw [hy2] at hs hh <;> cases hx2 : x.op <;> rw [hx2] at hs <;> simp only [kept] at hs <;> try (cases hs; done)
    simp only [evPo] at hh ⊢
    split at hh
    · rename_i hb
      obtain ⟨g1, g2⟩ := load_kept hx hb _ _
      rw [if_pos g1, g2]
      rw [Option.map_eq_some_iff] at hh ⊢
      obtain ⟨a, ha, hb⟩ := hh; cases hb; exact ⟨_, ha, rfl⟩
    · cases hh
  unfold evG at hy ⊢
  cases hg : y.g with
  | none => rw [hg] at hy; exact hl hy
  | some q =>
    obtain ⟨t, want⟩ := q
    rw [hg] at hy
    simp only at hy ⊢
    cases hx : s.env.get t <;> rw [hx] at hy <;> (try simp only at hy ⊢) <;> first
      | (cases hy; done)
      | (cases hy; rfl)
      | skip
    rename_i z
    cases z <;> (try simp only at hy ⊢) <;> first | (cases hy; done) | skip
    rename_i b
    by_cases hw : b = want
    · rw [if_pos hw] at hy
      simp only [if_pos hw]
      exact hl hy
    · rw [if_neg hw] at hy
      cases hy
      simp only [if_neg hw]
theorem evG_cls8 {me : Nat} {s : St} {p : Pop} (hp : p.op.cls = 8) {v : V} {h : HP} {c : Nat} (hr : evG C run me p s = some (v, h, c)) : c = s.ck ∧ ((h = s.hp ∧ ∀ h2, evG C run me p ⟨s.env, h2, s.ck⟩ = some (v, h2, s.ck)) ∨ ∃ ob, h = (⟨p.dst.getD 0, s.ck, me⟩, ob) :: s.hp ∧ ∀ k' ob', k' ∉ s.hp.map Prod.fst → evG C run me p ⟨s.env, (k', ob') :: s.hp, s.ck⟩ = some (v, (⟨p.dst.getD 0, s.ck, me⟩, ob) :: (k', ob') :: s.hp, s.ck)) := by
  have hl : ∀ {v h c}, evPo C run (p.dst.getD 0) me s p.op = some (v, h, c) → c = s.ck ∧ ∃ ob, h = (⟨p.dst.getD 0, s.ck, me⟩, ob) :: s.hp ∧ ∀ k' ob', k' ∉ s.hp.map Prod.fst → evPo C run (p.dst.getD 0) me ⟨s.env, (k', ob') :: s.hp, s.ck⟩ p.op = some (v, (⟨p.dst.getD 0, s.ck, me⟩, ob) :: (k', ob') :: s.hp, s.ck) := by
    intro v h c hh
    cases hop : p.op <;> rw [hop] at hp hh <;> try (simp [Po.cls] at hp; done)
    case bslO ty sz xs => cases xs <;> simp [Po.cls, clsE] at hp
    simp only [evPo] at hh ⊢
    split at hh
    case isFalse => cases hh
    rename_i hn
    simp only [if_pos hn]
    rw [Option.map_eq_some_iff] at hh
    obtain ⟨q, ha, hb⟩ := hh
    cases hb
    exact ⟨rfl, _, rfl, fun k' ob' hk => by rw [callO_cons hk ha]; rfl⟩
  unfold evG at hr ⊢
  cases hg : p.g with
  | none =>
    rw [hg] at hr
    obtain ⟨h1, h2⟩ := hl hr
    exact ⟨h1, .inr h2⟩
  | some q =>
    obtain ⟨t, want⟩ := q
    rw [hg] at hr
    simp only at hr ⊢
    cases hx : s.env.get t <;> rw [hx] at hr <;> (try simp only at hr ⊢) <;> first
      | (cases hr; done)
      | (cases hr; exact ⟨rfl, .inl ⟨rfl, fun _ => rfl⟩⟩)
      | skip
    rename_i y
    cases y <;> (try simp only at hr ⊢) <;> first | (cases hr; done) | skip
    rename_i x
    by_cases hw : x = want
    · rw [if_pos hw] at hr
      simp only [if_pos hw]
      obtain ⟨h1, h2⟩ := hl hr
      exact ⟨h1, .inr h2⟩
    · rw [if_neg hw] at hr
      cases hr
      simp only [if_neg hw]
      exact ⟨trivial, .inl ⟨trivial, fun _ => trivial⟩⟩
theorem trees_uncons {k : Key} {ob : Ob} {h : HP} : ∀ {cs : List V} {ts : List T}, treesOf ((k, ob) :: h) cs = some ts → cs.flatMap (keysOf1 ((k, ob) :: h)) = [] → treesOf h cs = some ts ∧ cs.flatMap (keysOf1 h) = []
  | [], ts, ht, _ => ⟨ht, rfl⟩
  | c :: cs, ts, ht, hk => by
    rw [List.flatMap_cons, List.append_eq_nil_iff] at hk
    cases c <;> simp only [treesOf, treeOf] at ht ⊢ <;> try (cases ht; done)
    all_goals first
      | (simp only [keysOf1] at hk; cases hk.1; done)
      | (cases h1 : treesOf ((k, ob) :: h) cs with
        | none => rw [h1] at ht; cases ht
        | some xs =>
          obtain ⟨g1, g2⟩ := trees_uncons h1 hk.2
          rw [h1] at ht
          rw [g1]
          exact ⟨ht, by rw [List.flatMap_cons, g2]; rfl⟩)
theorem pureOf_uncons {k : Key} {ob : Ob} {h : HP} {v x : V} (hn : noFn v = true) (hk : keysOf ((k, ob) :: h) v = []) (hp : pureOf ((k, ob) :: h) v = some x) : keysOf h v = [] ∧ pureOf h v = some x := by
  cases v <;> simp only [pureOf] at hp ⊢ <;> try (cases hp; done)
  case t => exact ⟨rfl, hp⟩
  case nl => exact ⟨rfl, hp⟩
  case pr => exact ⟨rfl, hp⟩
  case ow => simp [keysOf] at hk
  case fn => cases hn
  case pt => cases hn
  case ag cs =>
    simp only [keysOf] at hk ⊢
    cases h1 : treesOf ((k, ob) :: h) cs with
    | none => rw [h1] at hp; cases hp
    | some ts =>
      obtain ⟨g1, g2⟩ := trees_uncons h1 hk
      rw [h1] at hp
      rw [g1]
      exact ⟨g2, hp⟩
theorem puresOf_uncons {k : Key} {ob : Ob} {h : HP} : ∀ {vs xs : List V}, vs.all noFn = true → vs.flatMap (keysOf ((k, ob) :: h)) = [] → puresOf ((k, ob) :: h) vs = some xs → vs.flatMap (keysOf h) = [] ∧ puresOf h vs = some xs
  | [], xs, _, _, hp => ⟨rfl, hp⟩
  | v :: vs, xs, hn, hk, hp => by
    rw [List.flatMap_cons, List.append_eq_nil_iff] at hk
    rw [List.all_cons, Bool.and_eq_true] at hn
    simp only [puresOf] at hp ⊢
    cases h1 : pureOf ((k, ob) :: h) v with
    | none => rw [h1] at hp; cases hp
    | some x =>
      cases h2 : puresOf ((k, ob) :: h) vs with
      | none => rw [h1, h2] at hp; cases hp
      | some ys =>
        obtain ⟨a1, a2⟩ := pureOf_uncons hn.1 hk.1 h1
        obtain ⟨b1, b2⟩ := puresOf_uncons hn.2 hk.2 h2
        rw [h1, h2] at hp
        rw [a2, b2]
        exact ⟨by rw [List.flatMap_cons, a1, b1]; rfl, hp⟩
theorem callO_uncons {k : Key} {ob : Ob} {h : HP} {C : Cfg} {run : Run} {f : Nat} {args : List V} {new : Key} {r : V × Ob} (hn : args.all noFn = true) (hc : callO C run f args ((k, ob) :: h) new = some r) : callO C run f args h new = some r := by
  unfold callO at hc ⊢
  cases hf : args.flatMap (keysOf ((k, ob) :: h)) with
  | cons _ _ => rw [hf] at hc; cases hc
  | nil =>
    cases hp : puresOf ((k, ob) :: h) args with
    | none => rw [hf, hp] at hc; cases hc
    | some ps =>
      obtain ⟨a1, a2⟩ := puresOf_uncons hn hf hp
      rw [hf, hp] at hc
      rw [a1, a2]
      exact hc
theorem evG_cls8x {me : Nat} {e : Env} {h0 : HP} {k0 : Key} {ob0 : Ob} {ck : Nat} {p : Pop} (hp : p.op.cls = 8) {v : V} {h : HP} {c : Nat} (hr : evG C run me p ⟨e, (k0, ob0) :: h0, ck⟩ = some (v, h, c)) : c = ck ∧ ((h = (k0, ob0) :: h0 ∧ ∀ h2, evG C run me p ⟨e, h2, ck⟩ = some (v, h2, ck)) ∨ ∃ ob, h = (⟨p.dst.getD 0, ck, me⟩, ob) :: (k0, ob0) :: h0 ∧ evG C run me p ⟨e, h0, ck⟩ = some (v, (⟨p.dst.getD 0, ck, me⟩, ob) :: h0, ck)) := by
  have hl : ∀ {v h c}, evPo C run (p.dst.getD 0) me ⟨e, (k0, ob0) :: h0, ck⟩ p.op = some (v, h, c) → c = ck ∧ ∃ ob, h = (⟨p.dst.getD 0, ck, me⟩, ob) :: (k0, ob0) :: h0 ∧ evPo C run (p.dst.getD 0) me ⟨e, h0, ck⟩ p.op = some (v, (⟨p.dst.getD 0, ck, me⟩, ob) :: h0, ck) := by
    intro v h c hh
    cases hop : p.op <;> rw [hop] at hp hh <;> try (simp [Po.cls] at hp; done)
    case bslO ty sz xs => cases xs <;> simp [Po.cls, clsE] at hp
    simp only [evPo] at hh ⊢
    split at hh
    case isFalse => cases hh
    rename_i hn
    simp only [if_pos hn]
    rw [Option.map_eq_some_iff] at hh
    obtain ⟨q, ha, hb⟩ := hh
    cases hb
    exact ⟨rfl, _, rfl, by rw [callO_uncons hn ha]; rfl⟩
  unfold evG at hr ⊢
  cases hg : p.g with
  | none =>
    rw [hg] at hr
    obtain ⟨h1, h2⟩ := hl hr
    exact ⟨h1, .inr h2⟩
  | some q =>
    obtain ⟨t, want⟩ := q
    rw [hg] at hr
    simp only at hr ⊢
    cases hx : e.get t <;> rw [hx] at hr <;> (try simp only at hr ⊢) <;> first
      | (cases hr; done)
      | (cases hr; exact ⟨rfl, .inl ⟨rfl, fun _ => rfl⟩⟩)
      | skip
    rename_i y
    cases y <;> (try simp only at hr ⊢) <;> first | (cases hr; done) | skip
    rename_i x
    by_cases hw : x = want
    · rw [if_pos hw] at hr
      simp only [if_pos hw]
      obtain ⟨h1, h2⟩ := hl hr
      exact ⟨h1, .inr h2⟩
    · rw [if_neg hw] at hr
      cases hr
      simp only [if_neg hw]
      exact ⟨trivial, .inl ⟨trivial, fun _ => trivial⟩⟩
theorem beside_is {y x : Po} (h : beside y x = true) : ((∃ f as, y = .callo f as) ∨ ∃ ty sz, y = .bslO ty sz []) ∧ ((∃ ag n a, x = .loadB ag n a) ∨ ∃ sz ps, x = .bslF sz ps) := by
  unfold beside at h
  split at h
  · exact ⟨.inl ⟨_, _, rfl⟩, .inl ⟨_, _, _, rfl⟩⟩
  · exact ⟨.inl ⟨_, _, rfl⟩, .inr ⟨_, _, rfl⟩⟩
  · exact ⟨.inr ⟨_, _, rfl⟩, .inl ⟨_, _, _, rfl⟩⟩
  · cases h
theorem callO_row {C : Cfg} {run : Run} {f : Nat} {args : List V} {h : HP} {new : Key} {r : V × Ob} (hc : callO C run f args h new = some r) : ∃ ty sz els, r.2 = .row ty sz els false := by
  unfold callO at hc
  split at hc
  · split at hc
    · split at hc
      · split at hc
        · cases hc; exact ⟨_, _, _, rfl⟩
        · cases hc
      · cases hc
    · cases hc
  · cases hc
theorem evG_callo {me : Nat} {s : St} {p : Pop} (hop : (∃ f as, p.op = .callo f as) ∨ ∃ ty sz, p.op = .bslO ty sz []) {v : V} {h : HP} {c : Nat} (hr : evG C run me p s = some (v, h, c)) : c = s.ck ∧ (h = s.hp ∨ ∃ k ty sz els, h = (k, .row ty sz els false) :: s.hp) := by
  have hl : ∀ {v h c}, evPo C run (p.dst.getD 0) me s p.op = some (v, h, c) → c = s.ck ∧ (h = s.hp ∨ ∃ k ty sz els, h = (k, .row ty sz els false) :: s.hp) := by
    intro v h c hh
    rcases hop with ⟨f, as, hop⟩ | ⟨ty, sz, hop⟩
    case inr => rw [hop] at hh; simp only [evPo] at hh; cases hh; exact ⟨rfl, .inr ⟨_, ty, sz, [], rfl⟩⟩
    rw [hop] at hh
    simp only [evPo] at hh
    split at hh
    case isFalse => cases hh
    rw [Option.map_eq_some_iff] at hh
    obtain ⟨q, ha, hb⟩ := hh
    obtain ⟨ty, sz, els, he⟩ := callO_row ha
    cases hb
    exact ⟨rfl, .inr ⟨_, ty, sz, els, by rw [he]⟩⟩
  unfold evG at hr
  cases hg : p.g with
  | none => rw [hg] at hr; exact hl hr
  | some q =>
    obtain ⟨t, want⟩ := q
    rw [hg] at hr
    simp only at hr
    cases hx : s.env.get t <;> rw [hx] at hr <;> (try simp only at hr) <;> first
      | (cases hr; done)
      | (cases hr; exact ⟨rfl, .inl rfl⟩)
      | skip
    rename_i y
    cases y <;> (try simp only at hr) <;> first | (cases hr; done) | skip
    rename_i x
    by_cases hw : x = want
    · rw [if_pos hw] at hr; exact hl hr
    · rw [if_neg hw] at hr; cases hr; exact ⟨rfl, .inl rfl⟩
theorem loadB_un {k : Key} {ty sz : Nat} {els : List (List T)} {fz : Bool} {h0 : HP} {ag : Bool} {n : Nat} {v : V} (hb : isBox ((k, .row ty sz els fz) :: h0) v = true) : isBox h0 v = true ∧ load h0 ag n v = load ((k, .row ty sz els fz) :: h0) ag n v := by
  cases v <;> try (cases hb; done)
  case pr => exact ⟨rfl, rfl⟩
  case pt q s i j =>
    simp only [isBox, HP.get] at hb ⊢
    by_cases e : k = q
    · rw [if_pos e] at hb; cases hb
    · rw [if_neg e] at hb
      refine ⟨hb, ?_⟩
      simp only [load, HP.get, if_neg e]
theorem evG_loadB_un {me : Nat} {e : Env} {k : Key} {ty sz : Nat} {els : List (List T)} {fz : Bool} {h0 : HP} {ck : Nat} {p : Pop} {ag : Bool} {n : Nat} {a : Opd} (hop : p.op = .loadB ag n a) {v : V} {h : HP} {c : Nat} (hr : evG C run me p ⟨e, (k, .row ty sz els fz) :: h0, ck⟩ = some (v, h, c)) : evG C run me p ⟨e, h0, ck⟩ = some (v, h0, ck) := by
  have hl : ∀ {v h c}, evPo C run (p.dst.getD 0) me ⟨e, (k, .row ty sz els fz) :: h0, ck⟩ p.op = some (v, h, c) → evPo C run (p.dst.getD 0) me ⟨e, h0, ck⟩ p.op = some (v, h0, ck) := by
    intro v h c hh
    rw [hop] at hh ⊢
    simp only [evPo] at hh ⊢
    split at hh
    case isFalse => cases hh
    rename_i hb
    obtain ⟨b1, b2⟩ := loadB_un (ag := ag) (n := n) hb
    rw [Option.map_eq_some_iff] at hh
    obtain ⟨q, ha, hq⟩ := hh
    cases hq
    rw [if_pos b1, b2, ha]; rfl
  unfold evG at hr ⊢
  cases hg : p.g with
  | none => rw [hg] at hr; exact hl hr
  | some q =>
    obtain ⟨t, want⟩ := q
    rw [hg] at hr
    simp only at hr ⊢
    cases hx : e.get t <;> rw [hx] at hr <;> (try simp only at hr ⊢) <;> first
      | (cases hr; done)
      | (cases hr; rfl)
      | skip
    rename_i y
    cases y <;> (try simp only at hr ⊢) <;> first | (cases hr; done) | skip
    rename_i x
    by_cases hw : x = want
    · rw [if_pos hw] at hr ⊢; exact hl hr
    · rw [if_neg hw] at hr ⊢; cases hr; rfl
theorem rowsOf_uncons {k : Key} {ob : Ob} {h : HP} {e : Env} {sz : Nat} : ∀ {xs : List Opd} {r : List (List T)}, rowsOf ((k, ob) :: h) e sz xs = some r → keysOfs ((k, ob) :: h) e xs = [] → rowsOf h e sz xs = some r ∧ keysOfs h e xs = []
  | [], r, hr, _ => ⟨hr, rfl⟩
  | x :: xs, r, hr, hk => by
    simp only [keysOfs, List.append_eq_nil_iff] at hk
    simp only [rowsOf] at hr
    cases h1 : treesC ((k, ob) :: h) (x.ev e) with
    | none => rw [h1] at hr; cases hr
    | some c =>
    cases h2 : rowsOf ((k, ob) :: h) e sz xs with
    | none => rw [h1, h2] at hr; cases hr
    | some cs =>
    rw [h1, h2] at hr
    obtain ⟨g1, g2⟩ := rowsOf_uncons h2 hk.2
    have key : treesC h (x.ev e) = some c ∧ (match x.ev e with | .ow k _ _ _ => [k] | .ag cs => cs.flatMap (keysOf1 h) | _ => []) = [] := by
      have hk1 := hk.1
      unfold treesC at h1 ⊢
      generalize x.ev e = v at h1 hk1 ⊢
      cases v <;> simp only [cells] at h1 ⊢ <;> try (cases h1; done)
      case ag cs' => exact trees_uncons h1 hk1
      case ow => cases hk1
      all_goals
        refine ⟨?_, by trivial⟩
        simp only [treesOf, treeOf] at h1 ⊢
        exact h1
    exact ⟨by simp only [rowsOf, key.1, g1]; exact hr, by simp only [keysOfs, g2, List.append_nil]; exact key.2⟩
theorem evG_bslF_un {me : Nat} {e : Env} {k : Key} {ob : Ob} {h0 : HP} {ck : Nat} {p : Pop} {sz : Nat} {ps : List Opd} (hop : p.op = .bslF sz ps) {v : V} {h : HP} {c : Nat} (hr : evG C run me p ⟨e, (k, ob) :: h0, ck⟩ = some (v, h, c)) : evG C run me p ⟨e, h0, ck⟩ = some (v, h0, ck) := by
  have hl : ∀ {v h c}, evPo C run (p.dst.getD 0) me ⟨e, (k, ob) :: h0, ck⟩ p.op = some (v, h, c) → evPo C run (p.dst.getD 0) me ⟨e, h0, ck⟩ p.op = some (v, h0, ck) := by
    intro v h c hh
    rw [hop] at hh ⊢
    simp only [evPo] at hh ⊢
    cases hx : keysOfs ((k, ob) :: h0) e ps with
    | cons _ _ => rw [hx] at hh; cases hh
    | nil =>
      rw [hx] at hh
      simp only at hh
      rw [Option.map_eq_some_iff] at hh
      obtain ⟨q, ha, hq⟩ := hh
      cases hq
      obtain ⟨b1, b2⟩ := rowsOf_uncons ha hx
      rw [b2, b1]; rfl
  unfold evG at hr ⊢
  cases hg : p.g with
  | none => rw [hg] at hr; exact hl hr
  | some q =>
    obtain ⟨t, want⟩ := q
    rw [hg] at hr
    simp only at hr ⊢
    cases hx : e.get t <;> rw [hx] at hr <;> (try simp only at hr ⊢) <;> first
      | (cases hr; done)
      | (cases hr; rfl)
      | skip
    rename_i y
    cases y <;> (try simp only at hr ⊢) <;> first | (cases hr; done) | skip
    rename_i x
    by_cases hw : x = want
    · rw [if_pos hw] at hr ⊢; exact hl hr
    · rw [if_neg hw] at hr ⊢; cases hr; rfl
theorem putD_get (e : Env) (d : Option Nat) (v : V) (t : Nat) : (putD e d v).get t = if d = some t then v else e.get t := by
  cases d with
  | none => simp [putD]
  | some d =>
    simp only [putD, Env.get_put]
    by_cases h : t = d
    · subst h; simp
    · rw [if_neg h, if_neg (by intro e; cases e; exact h rfl)]
theorem evOp_eqv {lo : Bool} {me : Nat} {p : Pop} {s s1 sb : St} (hl : lo = true → okL p.op = true) (h : evOp C run me p s = some s1) (he : Eqv lo s sb) : ∃ sb1, evOp C run me p sb = some sb1 ∧ Eqv lo s1 sb1 := by
  unfold evOp at h ⊢
  have hcg : evG C run me p sb = evG C run me p ⟨s.env, sb.hp, s.ck⟩ := evG_congr C run me (p := p) (fun t _ => (he.env t).symm) rfl he.ck.symm
  rw [hcg]
  cases hr : evG C run me p s with
  | none => simp [hr] at h
  | some r =>
    obtain ⟨v, h', c⟩ := r
    simp [hr] at h
    subst h
    cases lo with
    | false =>
      rw [← he.st rfl]
      rw [show evG C run me p ⟨s.env, s.hp, s.ck⟩ = some (v, h', c) from hr]
      exact ⟨_, rfl, fun t => by simp only [putD_get]; rw [he.env], .refl _, fun _ => rfl, rfl⟩
    | true =>
      obtain ⟨h2, g1, g2⟩ := evG_hpe (hl rfl) hr he.hp
      rw [g1]
      exact ⟨_, rfl, fun t => by simp only [putD_get]; rw [he.env], g2, fun e => absurd e (by decide), rfl⟩
theorem evOps_eqv {lo : Bool} {qs : List (Nat × Pop)} : ∀ {s s1 sb : St}, (lo = true → ∀ q ∈ qs, okL q.2.op = true) → evOps C run qs s = some s1 → Eqv lo s sb → ∃ sb1, evOps C run qs sb = some sb1 ∧ Eqv lo s1 sb1 := by
  induction qs with
  | nil => intro s s1 sb _ h he; simp [evOps] at h; subst h; exact ⟨sb, rfl, he⟩
  | cons q qs ih =>
    intro s s1 sb hl h he
    obtain ⟨me, p⟩ := q
    simp only [evOps] at h ⊢
    cases hr : evOp C run me p s with
    | none => simp [hr] at h
    | some s2 =>
      simp [hr] at h
      obtain ⟨sb2, h1, h2⟩ := evOp_eqv (fun e => hl e _ List.mem_cons_self) hr he
      rw [h1]
      exact ih (fun e q hq => hl e q (List.mem_cons_of_mem _ hq)) h h2
theorem meets_not {a b : List Nat} (h : (!meets a b) = true) {t : Nat} (ha : t ∈ a) (hb : t ∈ b) : False := by
  simp only [meets, Bool.not_eq_true', List.any_eq_false] at h
  exact h t ha (by simpa using hb)
theorem stay_is {y x : Po} (h : stay y x = true) : y.cls = 1 ∧ ((∃ ag n a, y = .load ag n a) ∨ ∃ ag n a, y = .loadB ag n a) ∧ ∃ f as, x = .callK f as := by
  cases y <;> cases x <;> simp only [stay] at h <;> try (cases h; done)
  · exact ⟨rfl, .inl ⟨_, _, _, rfl⟩, _, _, rfl⟩
  · exact ⟨rfl, .inr ⟨_, _, _, rfl⟩, _, _, rfl⟩
theorem stay_cls {y x : Po} (h : stay y x = true) : y.cls = 1 ∧ x.cls = 3 := by
  obtain ⟨h1, -, f, as, rfl⟩ := stay_is h
  exact ⟨h1, rfl⟩
theorem evG_ck {j : Nat} {y : Pop} (hy : (∃ ag n a, y.op = .load ag n a) ∨ ∃ ag n a, y.op = .loadB ag n a) {e : Env} {h h' : HP} {c c' c2 : Nat} {v : V} (hr : evG C run j y ⟨e, h, c⟩ = some (v, h', c')) : evG C run j y ⟨e, h, c2⟩ = some (v, h, c2) := by
  have hl : ∀ {v h' c'}, evPo C run (y.dst.getD 0) j ⟨e, h, c⟩ y.op = some (v, h', c') → evPo C run (y.dst.getD 0) j ⟨e, h, c2⟩ y.op = some (v, h, c2) := by
    intro v h' c' hh
    rcases hy with ⟨ag, n, a, hy⟩ | ⟨ag, n, a, hy⟩ <;> rw [hy] at hh ⊢ <;> simp only [evPo] at hh ⊢
    · rw [Option.map_eq_some_iff] at hh ⊢
      obtain ⟨q, ha, hb⟩ := hh; cases hb; exact ⟨_, ha, rfl⟩
    · split at hh
      · rename_i hc
        rw [if_pos hc]
        rw [Option.map_eq_some_iff] at hh ⊢
        obtain ⟨q, ha, hb⟩ := hh; cases hb; exact ⟨_, ha, rfl⟩
      · cases hh
  unfold evG at hr ⊢
  cases hg : y.g with
  | none => rw [hg] at hr; exact hl hr
  | some q =>
    obtain ⟨t, want⟩ := q
    rw [hg] at hr
    simp only at hr ⊢
    cases hx : e.get t <;> rw [hx] at hr <;> (try simp only at hr) <;> first
      | (cases hr; done)
      | (cases hr; rfl)
      | skip
    rename_i z
    cases z <;> (try simp only at hr) <;> first | (cases hr; done) | skip
    rename_i b
    by_cases hw : b = want
    · rw [if_pos hw] at hr; simp only [if_pos hw]; exact hl hr
    · rw [if_neg hw] at hr; cases hr; simp only [if_neg hw]
theorem evG_callK {i : Nat} {x : Pop} {f : Nat} {as : List Opd} (hop : x.op = .callK f as) {s : St} {v : V} {h : HP} {c : Nat} (hr : evG C run i x s = some (v, h, c)) : h = s.hp := by
  have hl : ∀ {v h c}, evPo C run (x.dst.getD 0) i s x.op = some (v, h, c) → h = s.hp := by
    intro v h c hh
    rw [hop] at hh
    simp only [evPo] at hh
    split at hh
    · split at hh
      · rename_i hs
        cases hh
        exact sameHp_iff.1 hs
      · cases hh
    · cases hh
  unfold evG at hr
  cases hg : x.g with
  | none => rw [hg] at hr; exact hl hr
  | some q =>
    obtain ⟨t, want⟩ := q
    rw [hg] at hr
    simp only at hr
    cases hx : s.env.get t <;> rw [hx] at hr <;> (try simp only at hr) <;> first
      | (cases hr; done)
      | (cases hr; rfl)
      | skip
    rename_i z
    cases z <;> (try simp only at hr) <;> first | (cases hr; done) | skip
    rename_i b
    by_cases hw : b = want
    · rw [if_pos hw] at hr; exact hl hr
    · rw [if_neg hw] at hr; cases hr; rfl
theorem swap2 {lo : Bool} {i j : Nat} (hij : i ≠ j) {x y : Pop} {s s1 s2 : St} (hy : evOp C run j y s = some s1) (hx : evOp C run i x s1 = some s2) (hf : free2 lo y x = true) (hk : x.op.cls = 2 ∨ x.op.cls = 8 → (⟨x.dst.getD 0, s.ck, i⟩ : Key) ∉ s.hp.map Prod.fst) :
    ∃ s1' s2', evOp C run i x s = some s1' ∧ evOp C run j y s1' = some s2' ∧ Eqv lo s2 s2' := by
  unfold free2 at hf
  rw [Bool.and_eq_true, Bool.and_eq_true] at hf
  obtain ⟨⟨f1, f2⟩, f3⟩ := hf
  have hdx : ∀ t, y.dst = some t → t ∉ x.rd ∧ x.dst ≠ some t := by
    intro t ht
    refine ⟨fun h => ?_, fun h => ?_⟩
    · exact meets_not f1 (t := t) (by simp [ht]) (List.mem_append.2 (.inl h))
    · exact meets_not f1 (t := t) (by simp [ht]) (List.mem_append.2 (.inr (by simp [h])))
  have hdy : ∀ t, x.dst = some t → t ∉ y.rd := fun t ht h => meets_not f2 (t := t) (by simp [ht]) h
  unfold evOp at hy hx
  cases hry : evG C run j y s with
  | none => simp [hry] at hy
  | some ry =>
    obtain ⟨vy, hpy, cy⟩ := ry
    simp [hry] at hy
    subst hy
    cases hrx : evG C run i x ⟨putD s.env y.dst vy, hpy, cy⟩ with
    | none => simp [hrx] at hx
    | some rx =>
      obtain ⟨vx, hpx, cx⟩ := rx
      simp [hrx] at hx
      subst hx
      have ax : AgreeOn x.rd (putD s.env y.dst vy) s.env := fun t ht => by
        rw [putD_get, if_neg]
        intro e
        exact (hdx t e).1 ht
      have ay : AgreeOn y.rd (putD s.env x.dst vx) s.env := fun t ht => by
        rw [putD_get, if_neg]
        intro e
        exact hdy t e ht
      have hend : ∀ hp0 c0 hp1 c1, evG C run i x s = some (vx, hp0, c0) → evG C run j y ⟨putD s.env x.dst vx, hp0, c0⟩ = some (vy, hp1, c1) → HPe hpx hp1 → (lo = false → hpx = hp1) → c1 = cx → ∃ s1' s2', evOp C run i x s = some s1' ∧ evOp C run j y s1' = some s2' ∧ Eqv lo ⟨putD (putD s.env y.dst vy) x.dst vx, hpx, cx⟩ s2' := by
        intro hp0 c0 hp1 c1 h1 h2 h3 h3' h4
        refine ⟨⟨putD s.env x.dst vx, hp0, c0⟩, ⟨putD (putD s.env x.dst vx) y.dst vy, hp1, c1⟩, by simp [evOp, h1], by simp [evOp, h2], fun t => ?_, h3, h3', h4.symm⟩
        simp only [putD_get]
        by_cases hxt : x.dst = some t
        · rw [if_pos hxt, if_neg, if_pos hxt]
          intro hyt
          exact (hdx t hyt).2 hxt
        · rw [if_neg hxt]
          by_cases hyt : y.dst = some t
          · rw [if_pos hyt, if_pos hyt]
          · rw [if_neg hyt, if_neg hyt, if_neg hxt]
      have hendE : ∀ hp0 c0, evG C run i x s = some (vx, hp0, c0) → evG C run j y ⟨putD s.env x.dst vx, hp0, c0⟩ = some (vy, hpx, cx) → _ := fun hp0 c0 h1 h2 => hend hp0 c0 hpx cx h1 h2 (.refl _) (fun _ => rfl) rfl
      have cx1 : ∀ h c, evG C run i x ⟨putD s.env y.dst vy, h, c⟩ = evG C run i x ⟨s.env, h, c⟩ := fun h c => evG_congr C run i (p := x) ax rfl rfl
      have cy1 : ∀ h c, evG C run j y ⟨putD s.env x.dst vx, h, c⟩ = evG C run j y ⟨s.env, h, c⟩ := fun h c => evG_congr C run j (p := y) ay rfl rfl
      rw [cx1] at hrx
      unfold heapMay rdr at f3
      simp only [Bool.or_eq_true, Bool.and_eq_true, beq_iff_eq] at f3
      rcases f3 with (((((((((h0 | h0) | ⟨h1, h2⟩) | ⟨h1, h2 | h2⟩) | ⟨hlo, h1 | h1, h2 | h2⟩) | hse) | hse) | hse) | hse) | hse) | hse
      · obtain ⟨rfl, rfl, g3⟩ := evG_cls0 h0 hry
        exact hendE hpx cx hrx (by rw [cy1]; exact g3 hpx cx)
      · obtain ⟨g1, g2, g3⟩ := evG_cls0 h0 hrx
        simp only at g1 g2 g3
        subst g1 g2
        exact hendE s.hp s.ck (g3 s.hp s.ck) (by rw [cy1]; exact hry)
      · obtain ⟨rfl, rfl⟩ := evG_cls1 h1 hry
        obtain ⟨g1, g2⟩ := evG_cls1 h2 hrx
        simp only at g1 g2
        subst g1 g2
        exact hendE s.hp s.ck hrx (by rw [cy1]; exact hry)
      · obtain ⟨rfl, rfl⟩ := evG_cls1 h1 hry
        obtain ⟨g1, g2⟩ := evG_cls2 h2 hrx
        simp only at g1 g2
        subst g1
        refine hendE hpx s.ck hrx ?_
        rw [cy1]
        rcases g2 with ⟨g2, _⟩ | ⟨ob, g2, _⟩
        · rw [g2]
          exact hry
        · rw [g2]
          exact evG_load h1 hry (hk (.inl h2)) ob s.ck
      · obtain ⟨rfl, rfl⟩ := evG_cls1 h1 hry
        obtain ⟨g1, g2⟩ := evG_cls8 h2 hrx
        simp only at g1 g2
        subst g1
        refine hendE hpx s.ck hrx ?_
        rw [cy1]
        rcases g2 with ⟨g2, _⟩ | ⟨ob, g2, _⟩
        · rw [g2]
          exact hry
        · rw [g2]
          exact evG_load h1 hry (hk (.inr h2)) ob s.ck
      · obtain ⟨rfl, g2⟩ := evG_cls2 h1 hry
        obtain ⟨g3, g4⟩ := evG_cls2 h2 hrx
        simp only at g3 g4
        subst g3
        rcases g2 with ⟨rfl, g2⟩ | ⟨ob, rfl, g2⟩ <;> rcases g4 with ⟨rfl, g4⟩ | ⟨ob2, rfl, g4⟩
        · exact hendE s.hp s.ck (g4 s.hp) (by rw [cy1]; exact g2 _)
        · exact hendE _ s.ck (g4 s.hp) (by rw [cy1]; exact g2 _)
        · exact hendE s.hp s.ck (g4 s.hp) (by rw [cy1]; exact g2 _)
        · refine hend _ s.ck _ s.ck (g4 s.hp) (by rw [cy1]; exact g2 _) (HPe.swap _ (fun e => hij ?_) _ _) (fun e => by rw [hlo] at e; cases e) rfl
          injection e
      · obtain ⟨rfl, g2⟩ := evG_cls2 h1 hry
        rcases g2 with ⟨rfl, g2⟩ | ⟨ob, rfl, g2⟩
        · obtain ⟨g3, _⟩ := evG_cls8 h2 hrx
          simp only at g3
          subst g3
          exact hendE hpx s.ck hrx (by rw [cy1]; exact g2 _)
        · obtain ⟨g3, g4⟩ := evG_cls8x h2 hrx
          subst g3
          rcases g4 with ⟨rfl, g4⟩ | ⟨ob2, rfl, g4⟩
          · exact hendE s.hp s.ck (g4 s.hp) (by rw [cy1]; exact g2 _)
          · refine hend _ s.ck _ s.ck g4 (by rw [cy1]; exact g2 _) (HPe.swap _ (fun e => hij ?_) _ _) (fun e => by rw [hlo] at e; cases e) rfl
            injection e
      · obtain ⟨rfl, g2⟩ := evG_cls8 h1 hry
        obtain ⟨g3, g4⟩ := evG_cls2 h2 hrx
        simp only at g3 g4
        subst g3
        rcases g2 with ⟨rfl, g2⟩ | ⟨ob, rfl, g2⟩ <;> rcases g4 with ⟨rfl, g4⟩ | ⟨ob2, rfl, g4⟩
        · exact hendE s.hp s.ck (g4 s.hp) (by rw [cy1]; exact g2 _)
        · exact hendE _ s.ck (g4 s.hp) (by rw [cy1]; exact g2 _)
        · exact hendE s.hp s.ck (g4 s.hp) (by rw [cy1]; exact hry)
        · refine hend _ s.ck _ s.ck (g4 s.hp) (by rw [cy1]; exact g2 _ _ (hk (.inl h2))) (HPe.swap _ (fun e => hij ?_) _ _) (fun e => by rw [hlo] at e; cases e) rfl
          injection e
      · obtain ⟨rfl, g2⟩ := evG_cls8 h1 hry
        rcases g2 with ⟨rfl, g2⟩ | ⟨ob, rfl, g2⟩
        · obtain ⟨g3, _⟩ := evG_cls8 h2 hrx
          simp only at g3
          subst g3
          exact hendE hpx s.ck hrx (by rw [cy1]; exact g2 _)
        · obtain ⟨g3, g4⟩ := evG_cls8x h2 hrx
          subst g3
          rcases g4 with ⟨rfl, g4⟩ | ⟨ob2, rfl, g4⟩
          · exact hendE s.hp s.ck (g4 s.hp) (by rw [cy1]; exact hry)
          · refine hend _ s.ck _ s.ck g4 (by rw [cy1]; exact g2 _ _ (hk (.inr h2))) (HPe.swap _ (fun e => hij ?_) _ _) (fun e => by rw [hlo] at e; cases e) rfl
            injection e
      · obtain ⟨rfl, rfl⟩ := evG_cls1 (.inl (seen_cls hse).1) hry
        obtain ⟨g1, g2⟩ := evG_seen (j := j) hse hrx
        simp only at g1 g2
        subst g1
        exact hendE hpx s.ck hrx (by rw [cy1]; exact (g2 vy).2 hry)
      · obtain ⟨rfl, g2⟩ := evG_seen (j := i) hse hry
        obtain ⟨g3, g4⟩ := evG_cls1 (.inl (seen_cls hse).1) hrx
        simp only at g3 g4
        subst g3 g4
        exact hendE s.hp s.ck ((g2 vx).1 hrx) (by rw [cy1]; exact hry)
      · obtain ⟨rfl, rfl⟩ := evG_cls1 (.inl (kept_cls hse).1) hry
        exact hendE hpx cx hrx (by rw [cy1]; exact evG_kept hse hrx hry)
      · obtain ⟨hyo, hxx⟩ := beside_is hse
        obtain ⟨g1, g2⟩ := evG_cls1 (by
          rcases hxx with ⟨ag, n, a, hxo⟩ | ⟨sz, ps, hxo⟩
          · exact .inl (by rw [hxo]; rfl)
          · exact .inr (by rw [hxo]; rfl)) hrx
        simp only at g1 g2
        subst g1 g2
        obtain ⟨e1, e2⟩ := evG_callo hyo hry
        subst e1
        rcases e2 with rfl | ⟨k, ty, sz, els, rfl⟩
        · exact hendE _ _ hrx (by rw [cy1]; exact hry)
        · rcases hxx with ⟨ag, n, a, hxo⟩ | ⟨sz, ps, hxo⟩
          · exact hendE s.hp s.ck (evG_loadB_un hxo hrx) (by rw [cy1]; exact hry)
          · exact hendE s.hp s.ck (evG_bslF_un hxo hrx) (by rw [cy1]; exact hry)
      · obtain ⟨k1, k2, f, as, k3⟩ := stay_is hse
        obtain ⟨rfl, rfl⟩ := evG_cls1 (.inl k1) hry
        obtain rfl := evG_callK k3 hrx
        exact hendE _ cx hrx (by rw [cy1]; exact evG_ck k2 hry)
      · obtain ⟨k1, k2, f, as, k3⟩ := stay_is hse
        obtain ⟨g1, g2⟩ := evG_cls1 (.inl k1) hrx
        simp only at g1 g2
        subst g1 g2
        obtain rfl := evG_callK k3 hry
        exact hendE s.hp s.ck (evG_ck k2 hrx) (by rw [cy1]; exact hry)
theorem evOps_cons (i : Nat) (p : Pop) (qs : List (Nat × Pop)) (s : St) : evOps C run ((i, p) :: qs) s = (evOp C run i p s).bind (evOps C run qs) := by
  simp only [evOps]
  cases evOp C run i p s <;> rfl
theorem front {lo : Bool} {i : Nat} {x : Pop} {post : List (Nat × Pop)} : ∀ (pre : List (Nat × Pop)) {s s' : St}, evOps C run (pre ++ (i, x) :: post) s = some s' → (∀ y ∈ pre, free2 lo y.2 x = true) → (lo = true → ∀ q ∈ pre ++ (i, x) :: post, okL q.2.op = true) → (x.op.cls = 2 ∨ x.op.cls = 8 → ∀ d, (⟨d, s.ck, i⟩ : Key) ∉ s.hp.map Prod.fst) → i ∉ pre.map Prod.fst →
    ∃ s'', evOps C run ((i, x) :: (pre ++ post)) s = some s'' ∧ Eqv lo s' s''
  | [], s, s', h, _, _, _, _ => ⟨s', h, Eqv.refl _⟩
  | (j, y) :: pre, s, s', h, hf, hl, hk, hi => by
    rw [List.cons_append, evOps_cons] at h
    simp only [List.map_cons, List.mem_cons, not_or] at hi
    cases hy : evOp C run j y s with
    | none => simp [hy] at h
    | some s1 =>
      simp only [hy, Option.bind_some] at h
      have hfy : free2 lo y x = true := hf (j, y) List.mem_cons_self
      have hk1 : x.op.cls = 2 ∨ x.op.cls = 8 → ∀ d, (⟨d, s1.ck, i⟩ : Key) ∉ s1.hp.map Prod.fst := by
        intro hc d
        have hs1 : (s1.hp = s.hp ∨ ∃ d' ob, s1.hp = (⟨d', s.ck, j⟩, ob) :: s.hp) ∧ s1.ck = s.ck := by
          unfold free2 at hfy
          rw [Bool.and_eq_true, Bool.and_eq_true] at hfy
          have h3 := hfy.2
          unfold heapMay rdr at h3
          simp only [Bool.or_eq_true, Bool.and_eq_true, beq_iff_eq] at h3
          unfold evOp at hy
          cases hry : evG C run j y s with
          | none => simp [hry] at hy
          | some ry =>
            obtain ⟨vy, hpy, cy⟩ := ry
            simp [hry] at hy
            subst hy
            rcases h3 with (((((((((h0 | h0) | ⟨h1, h2⟩) | ⟨h1, h2⟩) | ⟨_, h1 | h1, h2⟩) | hse) | hse) | hse) | hse) | hse) | hse
            · obtain ⟨a1, a2, _⟩ := evG_cls0 h0 hry; exact ⟨.inl a1, a2⟩
            · omega
            · omega
            · obtain ⟨a1, a2⟩ := evG_cls1 h1 hry; exact ⟨.inl a1, a2⟩
            · obtain ⟨a1, a2⟩ := evG_cls2 h1 hry
              rcases a2 with ⟨a2, _⟩ | ⟨ob, a2, _⟩
              · exact ⟨.inl a2, a1⟩
              · exact ⟨.inr ⟨_, ob, a2⟩, a1⟩
            · obtain ⟨a1, a2⟩ := evG_cls8 h1 hry
              rcases a2 with ⟨a2, _⟩ | ⟨ob, a2, _⟩
              · exact ⟨.inl a2, a1⟩
              · exact ⟨.inr ⟨_, ob, a2⟩, a1⟩
            · have := (seen_cls hse).2; omega
            · have := (seen_cls hse).1; omega
            · have := (kept_cls hse).2; omega
            · obtain ⟨_, hxx⟩ := beside_is hse
              rcases hxx with ⟨ag, n, a, hxo⟩ | ⟨sz, ps, hxo⟩
              · have : x.op.cls = 1 := by rw [hxo]; rfl
                omega
              · have : x.op.cls = 4 := by rw [hxo]; rfl
                omega
            · have := (stay_cls hse).2; omega
            · have := (stay_cls hse).1; omega
        obtain ⟨h1, h2⟩ := hs1
        rw [h2]
        rcases h1 with h1 | ⟨d', ob, h1⟩
        · rw [h1]; exact hk hc d
        · rw [h1]
          simp only [List.map_cons, List.mem_cons, not_or]
          exact ⟨fun e => hi.1 (by injection e), hk hc d⟩
      obtain ⟨s2, h2, e2⟩ := front pre h (fun z hz => hf z (List.mem_cons_of_mem _ hz)) (fun e q hq => hl e q (List.mem_cons_of_mem _ hq)) hk1 hi.2
      rw [evOps_cons] at h2
      cases hx : evOp C run i x s1 with
      | none => simp [hx] at h2
      | some sx =>
        simp only [hx, Option.bind_some] at h2
        obtain ⟨t1, t2, a1, a2, a3⟩ := swap2 hi.1 hy hx hfy (fun hc => hk hc _)
        obtain ⟨s3, h3, e3⟩ := evOps_eqv (fun e q hq => hl e q (by
          rcases List.mem_append.1 hq with h | h
          · exact List.mem_cons_of_mem _ (List.mem_append.2 (.inl h))
          · exact List.mem_cons_of_mem _ (List.mem_append.2 (.inr (List.mem_cons_of_mem _ h))))) h2 a3
        refine ⟨s3, ?_, e2.trans e3⟩
        rw [evOps_cons, a1, Option.bind_some, List.cons_append, evOps_cons, a2, Option.bind_some]
        exact h3
end
end
end Go.Pev
namespace Go.Pev
open Go Go.RowKit
section
section
variable {P : Program} {run : Run} {C : Cfg} {ops : Array Oper} {Q : Exit → Act → World → Prop} {N rid : Nat} {A : Ann} {draw : Bool}
theorem yielded_of {R : Rl} {w : World} {a : Act} {e : Env} (he : EnvRep R w a e) {j t : Nat} (hj : (ops[j]?).bind (·.dst) = some t) : (∀ b, e.get t = .t (.b b) → yielded ops a.tmps j = some b) ∧ (e.get t = .ud → yielded ops a.tmps j = none) := by
  have hu : ∀ x, a.tmps.getD t undef = x → (∀ b, x = .bool b → yielded ops a.tmps j = some b) ∧ (x = undef → yielded ops a.tmps j = none) := by
    intro x hx
    unfold yielded
    rw [hj]
    simp only [Option.bind_some]
    rw [Array.getD_eq_getD_getElem?] at hx
    cases h : a.tmps[t]? with
    | none =>
      rw [h] at hx
      refine ⟨fun b hb => ?_, fun _ => rfl⟩
      rw [hb] at hx
      cases hx
    | some y =>
      rw [h] at hx
      simp only [Option.getD_some] at hx
      subst hx
      refine ⟨fun b hb => by rw [hb], fun hb => by rw [hb]; rfl⟩
  have := he t
  refine ⟨fun b hb => ?_, fun hb => ?_⟩
  · rw [hb] at this
    exact (hu _ rfl).1 b (repV_b this)
  · rw [hb] at this
    exact (hu _ rfl).2 (repV_ud this)
theorem put_inv {R R' : Rl} {w w' : World} {a : Act} {s : St} {dn dn' : Nat → Prop} (hi : Inv R w a s dn N) {d : Option Tmp} (hd : dstOk N d = true) {v : Value} {r : V} (hv : RepV R' w' v r) {h' : HP} {c' : Nat} (hg : Grow R w s.hp R' w' h') (hh : HInv R' w' h' c' dn') : Inv R' w' (a.put d v) ⟨putD s.env d r, h', c'⟩ dn' N := by
  have ha := hg.agree hi.hi
  cases d with
  | none => exact ⟨hi.df, hi.sz, fun t => (hi.env t).mono ha, hh⟩
  | some d =>
    have hlt : d < a.tmps.size := by rw [hi.sz]; simpa [dstOk] using hd
    refine ⟨hi.df, by simp [Act.put, hi.sz], fun t => ?_, hh⟩
    simp only [putD, Env.get_put, Act.put]
    by_cases ht : t = d
    · subst ht
      rw [if_pos rfl, Array.getD_eq_getD_getElem?, Array.getElem?_setIfInBounds_self_of_lt hlt]
      exact hv
    · rw [if_neg ht, Array.getD_eq_getD_getElem?, Array.getElem?_setIfInBounds_ne (Ne.symm ht), ← Array.getD_eq_getD_getElem?]
      exact (hi.env t).mono ha
theorem callO_call {d me : Nat} {s : St} {f : Nat} {as : List Opd} {r : V × HP × Nat} (h : evPo C run d me s (.callo f as) = some r) : evPo C run d me s (.call f as) = some r := by
  simp only [evPo] at h ⊢
  split at h
  case isFalse => cases h
  rw [Option.map_eq_some_iff] at h
  obtain ⟨q, ha, hb⟩ := h
  subst hb
  unfold callO at ha
  unfold callEv
  cases hf : (as.map (·.ev s.env)).flatMap (keysOf s.hp) with
  | cons _ _ => rw [hf] at ha; cases ha
  | nil =>
    rw [hf] at ha
    cases hp : puresOf s.hp (as.map (·.ev s.env)) with
    | none => rw [hp] at ha; cases ha
    | some ps =>
      rw [hp] at ha
      simp only at ha
      split at ha
      · rename_i k sz off n h' hc
        split at ha
        · rename_i ty sz' els hg
          split at ha
          · rename_i hcond
            cases ha
            have ho : C.own f = true ∧ C.hpm f = false := by simpa using hcond.1
            rw [ho.2]
            simp only [Bool.false_eq_true, if_false, hc, ho.1, hg, hcond.2, and_self, if_true, freezeAll]
          · cases ha
        · cases ha
      · cases ha
theorem wrapD_ev {d me i : Nat} {s : St} {p : Po} {r : V × HP × Nat} (h : evPo C run d me s (wrapD A rid ops i draw p) = some r) : evPo C run d me s p = some r := by
  unfold wrapD at h
  cases draw with
  | false => simpa using h
  | true =>
    simp only [if_true] at h
    cases p <;> simp only at h <;> try exact h
    case app t n b x y =>
      split at h
      · simp only [evPo] at h ⊢
        split at h
        · exact h
        · cases h
      · exact h
    case store n a x =>
      split at h
      · simp only [evPo] at h ⊢
        split at h
        · exact h
        · cases h
      cases hz : looseLoads ops (Region.before ops) i with
      | nil => rw [hz] at h; exact h
      | cons z zs =>
        rw [hz] at h
        simp only at h
        split at h
        · simp only [evPo] at h ⊢
          split at h
          · exact h
          · cases h
        · simp only [evPo] at h ⊢
          split at h
          · exact h
          · cases h
    case load ag n x =>
      split at h
      · simp only [evPo] at h ⊢
        split at h
        · exact h
        · cases h
      split at h
      · simp only [evPo] at h ⊢
        split at h
        · exact h
        · cases h
      · exact h
    case call f xs =>
      split at h
      · exact h
      split at h
      · simp only [evPo] at h ⊢
        split at h
        · rename_i hcl
          split at h
          · rw [hcl]; exact h
          · cases h
        · cases h
      split at h
      · exact callO_call h
      · simp only [evPo] at h ⊢
        split at h
        · rename_i hcl
          split at h
          · rw [hcl]; exact h
          · cases h
        · cases h
    case bslT n xs =>
      have hF : ∀ {r : V × HP × Nat}, evPo C run d me s (.bslF n xs) = some r → evPo C run d me s (.bslT n xs) = some r := by
        intro r h
        simp only [evPo] at h ⊢
        cases hk : keysOfs s.hp s.env xs with
        | nil => rw [hk] at h; exact h
        | cons _ _ => rw [hk] at h; cases h
      split at h
      · exact hF h
      · cases hz : looseLoads ops (Region.before ops) i with
        | nil => rw [hz] at h; exact h
        | cons z zs =>
          rw [hz] at h
          exact hF h
theorem op_sound (hrun : RunOk P run) {R : Rl} {w : World} {a : Act} {s s' : St} {dn : Nat → Prop} (hi : Inv R w a s dn N) {me : Nat} (hd : ¬ dn me) {o : Oper} (ho : ops[me]? = some o) {p : Pop} (hp : compPop P A N rid draw ops me o = some p) (hr : evOp C run me p s = some s') {K : Act → World → Prop}
    (hK : ∀ a' w' R', Inv R' w' a' s' (plus dn me) N → Grow R w s.hp R' w' s'.hp → K a' w') : wpOp P ops Q me K a w := by
  unfold compPop at hp
  split at hp
  · rename_i po g hpo hg
    split at hp
    · rename_i hdo
      cases hp
      unfold evOp at hr
      cases hev : evG C run me ⟨o.dst, wrapD A rid ops me draw po, g⟩ s with
      | none => simp [hev] at hr
      | some x =>
        obtain ⟨v, h', c'⟩ := x
        simp [hev] at hr
        subst hr
        unfold wpOp
        rw [ho]
        have hdo' : ∀ {v h' c'}, evPo C run (o.dst.getD 0) me s (wrapD A rid ops me draw po) = some (v, h', c') → (∀ a' w' R', Inv R' w' a' ⟨putD s.env o.dst v, h', c'⟩ (plus dn me) N → Grow R w s.hp R' w' h' → K a' w') → o.wp P a w K Q := by
          intro v h' c' he hK
          exact po_sound hrun hi.hi hi.env hd hpo (wrapD_ev he) K Q fun u w' R' h1 h2 h3 => hK _ _ R' (put_inv hi hdo h1 h2 h3) h2
        have hskip : v = .ud → h' = s.hp → c' = s.ck → K (a.put o.dst undef) w := by
          rintro rfl rfl rfl
          exact hK _ _ R (put_inv hi hdo .ud (Grow.refl _ _ _) (hi.hi.plus me)) (Grow.refl _ _ _)
        unfold evG at hev
        unfold compGuard at hg
        cases hgu : o.guard with
        | none =>
          rw [hgu] at hg
          cases hg
          simp only [Region.wanted, hgu, if_true]
          exact .inl (hdo' hev hK)
        | some q =>
          obtain ⟨j, want⟩ := q
          rw [hgu] at hg
          simp only at hg
          split at hg
          · rename_i t ht
            cases hg
            obtain ⟨y1, y2⟩ := yielded_of (ops := ops) hi.env ht
            simp only [Region.wanted, hgu]
            simp only at hev
            cases hx : s.env.get t <;> rw [hx] at hev <;> (try simp only at hev) <;> first
              | (cases hev; done)
              | (rw [y2 hx]; simp only [Option.some.injEq, Prod.mk.injEq] at hev; obtain ⟨e1, e2, e3⟩ := hev; exact hskip e1.symm e2.symm e3.symm)
              | skip
            rename_i y
            cases y <;> (try simp only at hev) <;> first | (cases hev; done) | skip
            rename_i x
            rw [y1 x hx]
            by_cases hw : x = want
            · rw [if_pos hw] at hev
              subst hw
              simp only [beq_self_eq_true, if_true]
              exact .inl (hdo' hev hK)
            · rw [if_neg hw] at hev
              simp only [Option.some.injEq, Prod.mk.injEq] at hev
              obtain ⟨e1, e2, e3⟩ := hev
              rw [if_neg (by simpa using hw)]
              exact hskip e1.symm e2.symm e3.symm
          · cases hg
    · cases hp
  · cases hp
def QOk (P : Program) (A : Ann) (N rid : Nat) (draw : Bool) (ops : Array Oper) (qs : List (Nat × Pop)) : Prop := ∀ i p, (i, p) ∈ qs → ∃ o, ops[i]? = some o ∧ compPop P A N rid draw ops i o = some p
theorem ops_sound (hrun : RunOk P run) : ∀ (qs : List (Nat × Pop)) {R : Rl} {w : World} {a : Act} {s s' : St} {dn : Nat → Prop}, Inv R w a s dn N → QOk P A N rid draw ops qs → (qs.map Prod.fst).Nodup → (∀ i ∈ qs.map Prod.fst, ¬ dn i) → evOps C run qs s = some s' →
    (∀ a' w' R' dn', Inv R' w' a' s' dn' N → Grow R w s.hp R' w' s'.hp → Q .normal a' w') → wpOps P ops Q (qs.map Prod.fst) a w
  | [], R, w, a, s, s', dn, hi, _, _, _, hr, hQ => by
    simp [evOps] at hr
    subst hr
    exact hQ a w R dn hi (Grow.refl _ _ _)
  | (i, p) :: qs, R, w, a, s, s', dn, hi, hq, hn, hd, hr, hQ => by
    rw [evOps_cons] at hr
    cases h1 : evOp C run i p s with
    | none => simp [h1] at hr
    | some s1 =>
      simp only [h1, Option.bind_some] at hr
      obtain ⟨o, ho, hp⟩ := hq i p List.mem_cons_self
      rw [List.map_cons, wpOps_cons]
      simp only [List.map_cons, List.nodup_cons] at hn
      refine op_sound hrun hi (hd i (by simp)) ho hp h1 fun a' w' R' hi' hg => ?_
      refine ops_sound hrun qs hi' (fun i' p' h => hq i' p' (List.mem_cons_of_mem _ h)) hn.2 (fun j hj => ?_) hr (fun a2 w2 R2 dn2 h2 hg2 => hQ a2 w2 R2 dn2 h2 (hg.trans hg2))
      rintro (h | rfl)
      · exact hd j (by simp only [List.map_cons, List.mem_cons]; exact .inr hj) h
      · exact hn.1 hj
theorem compOps_spec : ∀ (l : List Oper) (i : Nat) (qs : List (Nat × Pop)), compOps P A N rid draw ops i l = some qs → qs.map Prod.fst = (List.range l.length).map (· + i) ∧ ∀ j p, (j, p) ∈ qs → ∃ o, i ≤ j ∧ l[j - i]? = some o ∧ compPop P A N rid draw ops j o = some p
  | [], i, qs, h => by simp [compOps] at h; subst h; simp
  | o :: l, i, qs, h => by
    simp only [compOps] at h
    cases h1 : compPop P A N rid draw ops i o with
    | none => simp [h1] at h
    | some p =>
      cases h2 : compOps P A N rid draw ops (i + 1) l with
      | none => simp [h1, h2] at h
      | some ps =>
        simp [h1, h2] at h
        subst h
        obtain ⟨g1, g2⟩ := compOps_spec l (i + 1) ps h2
        refine ⟨?_, fun j q hq => ?_⟩
        · rw [List.map_cons, g1, List.length_cons, List.range_succ_eq_map, List.map_cons, List.map_map]
          congr 1
          · simp
          · exact List.map_congr_left fun x _ => by simp only [Function.comp]; omega
        · rcases List.mem_cons.1 hq with e | e
          · cases e
            exact ⟨o, Nat.le_refl _, by simp, h1⟩
          · obtain ⟨o', a1, a2, a3⟩ := g2 j q e
            refine ⟨o', by omega, ?_, a3⟩
            rw [show j - i = (j - (i + 1)) + 1 by omega, List.getElem?_cons_succ]
            exact a2
theorem compOps_q {qs : List (Nat × Pop)} (h : compOps P A N rid draw ops 0 ops.toList = some qs) : qs.map Prod.fst = List.range ops.size ∧ QOk P A N rid draw ops qs := by
  obtain ⟨h1, h2⟩ := compOps_spec ops.toList 0 qs h
  refine ⟨by simpa using h1, fun j p hj => ?_⟩
  obtain ⟨o, _, a2, a3⟩ := h2 j p hj
  exact ⟨o, by simpa using a2, a3⟩
def Closed (ops : Array Oper) (listed : Array Bool) : Prop := ∀ i o, ops[i]? = some o → listed.getD i true = true → ∀ e ∈ o.after, Region.binds .any e = true → listed.getD e.on false = true
theorem bef_listed {bef : Array Nat} (he : edgesOk ops = true) (hb : befOk ops bef = true) (hs : smallOk ops bef = true) {listed : Array Bool} (hsz : listed.size = ops.size) (hc : Closed ops listed) : ∀ (n x : Nat), x ≤ n → (∀ o, ops[x]? = some o → ∀ e ∈ o.after, Region.binds .any e = true → listed.getD e.on false = true) → ∀ j, (bef.getD x 0).testBit j = true → x < ops.size → listed.getD j false = true := by
  intro n
  induction n using Nat.strongRecOn with
  | _ n ih =>
    intro x hx hd j hj hxn
    have ho : ops[x]? = some ops[x] := Array.getElem?_eq_getElem hxn
    unfold befOk at hb
    unfold edgesOk at he
    have hb1 := List.all_eq_true.1 hb x (by simpa using hxn)
    rw [ho] at hb1
    simp only at hb1
    have hjn : j < ops.size := by
      rcases Nat.lt_or_ge j ops.size with h | h
      · exact h
      · exfalso
        have hlt : bef.getD x 0 < 2 ^ ops.size := by
          rw [Array.getD_eq_getD_getElem?]
          cases hbx : bef[x]? with
          | none => exact Nat.two_pow_pos ops.size
          | some y =>
            simp only [Option.getD_some]
            unfold smallOk at hs
            rw [Array.all_eq_true'] at hs
            simpa using hs y (Array.mem_of_getElem? hbx)
        have := Nat.testBit_lt_two_pow (Nat.lt_of_lt_of_le hlt (Nat.pow_le_pow_right (by omega) h))
        rw [this] at hj
        cases hj
    have hb2 := List.all_eq_true.1 hb1 j (by simpa using hjn)
    rw [hj] at hb2
    simp only [Bool.not_true, Bool.false_or] at hb2
    rw [Array.any_eq_true'] at hb2
    obtain ⟨e, hem, he2⟩ := hb2
    rw [Bool.and_eq_true] at he2
    obtain ⟨hbi, hor⟩ := he2
    have hon := hd _ ho e hem hbi
    have he1 := List.all_eq_true.1 he x (by simpa using hxn)
    rw [ho] at he1
    simp only at he1
    rw [Array.all_eq_true'] at he1
    have hlt := he1 e hem
    rw [hbi] at hlt
    have hlt2 : e.on < x := by simpa using hlt
    rcases Bool.or_eq_true_iff.1 hor with h | h
    · have : e.on = j := by simpa using h
      rwa [← this]
    · refine ih e.on (by omega) e.on (Nat.le_refl _) (fun o hoo => ?_) j h (by omega)
      refine hc e.on o hoo ?_
      rw [Array.getD_eq_getD_getElem?] at hon ⊢
      cases hl : listed[e.on]? with
      | none => rfl
      | some b => rw [hl] at hon; exact hon
theorem binds_any {md : Region.Mode} {e : Edge} (h : Region.binds .any e = true) : Region.binds md e = true := by
  unfold Region.binds at h ⊢
  split <;> simp_all
theorem freeAll_mid {lo : Bool} {bef : Array Nat} {i : Nat} {p : Pop} {post : List (Nat × Pop)} : ∀ (pre : List (Nat × Pop)), freeAll lo bef (pre ++ (i, p) :: post) = true → (∀ y ∈ pre, (bef.getD i 0).testBit y.1 = true ∨ free2 lo y.2 p = true) ∧ freeAll lo bef (pre ++ post) = true
  | [], h => by
    simp only [List.nil_append, freeAll, Bool.and_eq_true] at h
    exact ⟨by simp, h.2⟩
  | (j, y) :: pre, h => by
    simp only [List.cons_append, freeAll, Bool.and_eq_true] at h
    obtain ⟨h1, h2⟩ := freeAll_mid pre h.2
    have h3 := List.all_eq_true.1 h.1
    refine ⟨fun z hz => ?_, ?_⟩
    · rcases List.mem_cons.1 hz with rfl | hz
      · exact Bool.or_eq_true_iff.1 (h3 (i, p) (by simp))
      · exact h1 z hz
    · simp only [List.cons_append, freeAll, Bool.and_eq_true]
      refine ⟨List.all_eq_true.2 fun z hz => h3 z ?_, h2⟩
      rcases List.mem_append.1 hz with hz | hz
      · exact List.mem_append.2 (.inl hz)
      · exact List.mem_append.2 (.inr (List.mem_cons_of_mem _ hz))
theorem mem_split {i : Nat} : ∀ (qs : List (Nat × Pop)), i ∈ qs.map Prod.fst → ∃ pre p post, qs = pre ++ (i, p) :: post
  | [], h => by simp at h
  | (j, p) :: qs, h => by
    by_cases e : i = j
    · subst e; exact ⟨[], p, qs, rfl⟩
    · obtain ⟨pre, q, post, hq⟩ := mem_split qs (by simp only [List.map_cons, List.mem_cons] at h; exact h.resolve_left e)
      exact ⟨(j, p) :: pre, q, post, by rw [hq]; rfl⟩
theorem any_sound (hrun : RunOk P run) {lo : Bool} {bef : Array Nat} (he : edgesOk ops = true) (hb : befOk ops bef = true) (hs : smallOk ops bef = true) : ∀ (fuel : Nat) (qs : List (Nat × Pop)) (listed : Array Bool) {R : Rl} {w : World} {a : Act} {s s' : St} {dn : Nat → Prop}, fuel = qs.length → listed.size = ops.size → Closed ops listed →
    (∀ i, i ∈ qs.map Prod.fst ↔ i < ops.size ∧ listed.getD i true = false) → (qs.map Prod.fst).Nodup → freeAll lo bef qs = true → (lo = true → ∀ q ∈ qs, okL q.2.op = true) → Inv R w a s dn N → QOk P A N rid draw ops qs → (∀ i ∈ qs.map Prod.fst, ¬ dn i) → evOps C run qs s = some s' →
    (∀ a' w' R' dn' s'', Eqv lo s' s'' → Inv R' w' a' s'' dn' N → Grow R w s.hp R' w' s''.hp → Q .normal a' w') → wpAny P .any ops Q fuel listed a w := by
  intro fuel
  have hrdy : ∀ (listed : Array Bool) i, i ∈ Region.ready .any ops listed → i < ops.size ∧ listed.getD i true = false ∧ ∀ o, ops[i]? = some o → ∀ e ∈ o.after, Region.binds .any e = true → listed.getD e.on false = true := by
    intro listed i hi
    unfold Region.ready at hi
    rw [List.mem_filter] at hi
    obtain ⟨h1, h2⟩ := hi
    have hlt : i < ops.size := by simpa using h1
    rw [Bool.and_eq_true] at h2
    refine ⟨hlt, by simpa using h2.1, fun o ho e hem hbe => ?_⟩
    rw [ho] at h2
    simp only [Option.map_some, Option.getD_some] at h2
    have h3 := h2.2
    rw [Array.all_eq_true'] at h3
    have := h3 e hem
    rw [binds_any hbe] at this
    simpa using this
  induction fuel with
  | zero =>
    intro qs listed R w a s s' dn hf hsz hc hm hnd hfa hok hi hq hd hr hQ
    have hqs : qs = [] := List.eq_nil_of_length_eq_zero hf.symm
    subst hqs
    simp [evOps] at hr
    subst hr
    refine ⟨?_, hQ a w R dn s (Eqv.refl _) hi (Grow.refl _ _ _)⟩
    apply Classical.byContradiction
    intro hne
    obtain ⟨i, hii⟩ := List.exists_mem_of_ne_nil _ hne
    obtain ⟨h1, h2, _⟩ := hrdy listed i hii
    have := (hm i).2 ⟨h1, h2⟩
    simp at this
  | succ fuel ih =>
    intro qs listed R w a s s' dn hf hsz hc hm hnd hfa hok hi hq hd hr hQ
    have hget : ∀ j, listed.getD j false = true ↔ j < ops.size ∧ listed.getD j true = true := by
      intro j
      rw [Array.getD_eq_getD_getElem?, Array.getD_eq_getD_getElem?]
      cases hl : listed[j]? with
      | none =>
        have := Array.getElem?_eq_none_iff.1 hl
        simp
        omega
      | some b =>
        have := (Array.getElem?_eq_some_iff.1 hl).1
        simp
        omega
    refine ⟨fun hnil => ?_, fun i hii => ?_⟩
    · exfalso
      -- the first that is left is ready
      have hex : ∃ m, m < ops.size ∧ listed.getD m true = false ∧ ∀ j, j < m → listed.getD j true = true := by
        have hne : ∃ m, m < ops.size ∧ listed.getD m true = false := by
          cases qs with
          | nil => simp at hf
          | cons q qs => exact ⟨q.1, (hm q.1).1 (by simp)⟩
        obtain ⟨m, hmm⟩ := hne
        induction m using Nat.strongRecOn with
        | _ m ihm =>
          by_cases hall : ∀ j, j < m → listed.getD j true = true
          · exact ⟨m, hmm.1, hmm.2, hall⟩
          · have ⟨j, hj⟩ := Classical.not_forall.1 hall
            have ⟨hj1, hj2⟩ := Classical.not_imp.1 hj
            exact ihm j hj1 ⟨by omega, by simpa using hj2⟩
      obtain ⟨m, m1, m2, m3⟩ := hex
      have hin : m ∈ Region.ready .any ops listed := by
        unfold Region.ready
        rw [List.mem_filter]
        have ho : ops[m]? = some ops[m] := Array.getElem?_eq_getElem m1
        refine ⟨by simpa using m1, ?_⟩
        rw [ho, m2]
        simp only [Bool.not_false, Bool.true_and, Option.map_some, Option.getD_some]
        rw [Array.all_eq_true']
        intro e hem
        unfold edgesOk at he
        have he1 := List.all_eq_true.1 he m (by simpa using m1)
        rw [ho] at he1
        simp only at he1
        rw [Array.all_eq_true'] at he1
        have hlt := he1 e hem
        cases hbe : Region.binds .any e with
        | false => rfl
        | true =>
          rw [hbe] at hlt
          have hlt2 : e.on < m := by simpa using hlt
          rw [(hget e.on).2 ⟨by omega, m3 _ hlt2⟩]
          simp
      rw [hnil] at hin
      simp at hin
    · obtain ⟨h1, h2, h3⟩ := hrdy listed i hii
      obtain ⟨pre, p, post, rfl⟩ := mem_split qs ((hm i).2 ⟨h1, h2⟩)
      obtain ⟨f1, f2⟩ := freeAll_mid pre hfa
      have hmapp : (pre ++ (i, p) :: post).map Prod.fst = pre.map Prod.fst ++ i :: post.map Prod.fst := by simp
      have hnd2 : (pre.map Prod.fst ++ post.map Prod.fst).Nodup ∧ i ∉ pre.map Prod.fst ++ post.map Prod.fst := by
        rw [hmapp, List.nodup_append] at hnd
        obtain ⟨n1, n2, n3⟩ := hnd
        rw [List.nodup_cons] at n2
        refine ⟨List.nodup_append.2 ⟨n1, n2.2, fun x hx y hy => n3 x hx y (List.mem_cons_of_mem _ hy)⟩, fun h => ?_⟩
        rcases List.mem_append.1 h with h | h
        · exact n3 i h i List.mem_cons_self rfl
        · exact n2.1 h
      have hfree : ∀ y ∈ pre, free2 lo y.2 p = true := by
        intro y hy
        refine (f1 y hy).resolve_left fun hb' => ?_
        have hl := bef_listed he hb hs hsz hc i i (Nat.le_refl _) h3 y.1 hb' h1
        have hm2 := (hm y.1).1 (by rw [hmapp]; exact List.mem_append.2 (.inl (List.mem_map.2 ⟨y, hy, rfl⟩)))
        have := ((hget y.1).1 hl).2
        rw [hm2.2] at this
        cases this
      obtain ⟨s2, e1, e2⟩ := front pre hr hfree hok (fun _ d => (hi.hi.fresh (k := ⟨d, s.ck, i⟩) rfl (hd i (by rw [hmapp]; simp))).2) (fun h => hnd2.2 (List.mem_append.2 (.inl h)))
      rw [evOps_cons] at e1
      cases hx : evOp C run i p s with
      | none => simp [hx] at e1
      | some s1 =>
        simp only [hx, Option.bind_some] at e1
        obtain ⟨o, ho, hpo⟩ := hq i p (by simp)
        refine op_sound hrun hi (hd i (by rw [hmapp]; simp)) ho hpo hx fun a' w' R' hi' hg => ?_
        have hset : ∀ j d, (listed.setIfInBounds i true).getD j d = if j = i then true else listed.getD j d := by
          intro j d
          rw [Array.getD_eq_getD_getElem?, Array.getD_eq_getD_getElem?, Array.getElem?_setIfInBounds]
          by_cases hji : j = i
          · subst hji
            rw [if_pos rfl, if_pos (by omega), if_pos rfl]
            rfl
          · rw [if_neg (Ne.symm hji), if_neg hji]
        refine ih (pre ++ post) (listed.setIfInBounds i true) (by simp at hf ⊢; omega) (by simpa using hsz) ?_ ?_ (by rw [List.map_append]; exact hnd2.1) f2 (fun e q hq => hok e q (by
          rcases List.mem_append.1 hq with h | h
          · exact List.mem_append.2 (.inl h)
          · exact List.mem_append.2 (.inr (List.mem_cons_of_mem _ h)))) hi' (fun j q hj => hq j q ?_) ?_ e1 (fun a2 w2 R2 dn2 s3 h4 h5 h6 => hQ a2 w2 R2 dn2 s3 (e2.trans h4) h5 (hg.trans h6))
        · intro j oj hoj hlj e hem hbe
          rw [hset]
          by_cases hei : e.on = i
          · rw [if_pos hei]
          · rw [if_neg hei]
            rw [hset] at hlj
            by_cases hji : j = i
            · subst hji
              exact h3 oj hoj e hem hbe
            · rw [if_neg hji] at hlj
              exact hc j oj hoj hlj e hem hbe
        · intro j
          rw [List.map_append]
          constructor
          · intro hj
            have hji : j ≠ i := fun e => hnd2.2 (e ▸ hj)
            have := (hm j).1 (by rw [hmapp]; exact List.mem_append.2 ((List.mem_append.1 hj).imp id (List.mem_cons_of_mem _)))
            rw [hset, if_neg hji]
            exact this
          · rintro ⟨g1, g2⟩
            rw [hset] at g2
            by_cases hji : j = i
            · rw [if_pos hji] at g2; cases g2
            · rw [if_neg hji] at g2
              have := (hm j).2 ⟨g1, g2⟩
              rw [hmapp] at this
              rcases List.mem_append.1 this with h | h
              · exact List.mem_append.2 (.inl h)
              · exact List.mem_append.2 (.inr ((List.mem_cons.1 h).resolve_left hji))
        · rcases List.mem_append.1 hj with h | h
          · exact List.mem_append.2 (.inl h)
          · exact List.mem_append.2 (.inr (List.mem_cons_of_mem _ h))
        · intro j hj
          rw [List.map_append] at hj
          rintro (h | rfl)
          · refine hd j ?_ h
            rw [hmapp]
            rcases List.mem_append.1 hj with h | h
            · exact List.mem_append.2 (.inl h)
            · exact List.mem_append.2 (.inr (List.mem_cons_of_mem _ h))
          · exact hnd2.2 hj
end
end
section
structure CfgOk (P : Program) (C : Cfg) : Prop where
  mixed : P.follows .mixedOrders = true
  pf : ∀ f fn, C.pf f = some fn → (∃ A, compF P A f = some fn) ∧ goodFn P f = true
  ex : ∀ f p, C.ex f = some p → ∀ args h ck r h' ck', p args h ck = some (r, h', ck') → ∀ R w us, HInv R w h ck (fun _ => False) → ArgsRep R w us args → goodFn P f = true ∧ Calls P f us w (CPost R w h r h' ck' (fun _ => False))
def exitOf : Ex → Exit
  | .normal => .normal
  | .exit id => .exit id
  | .ret => .ret
abbrev dn0 : Nat → Prop := fun _ => False
theorem Inv.eqv {R : Rl} {w : World} {a : Act} {s s' : St} {dn : Nat → Prop} {N : Nat} {lo : Bool} (h : Inv R w a s dn N) (he : Eqv lo s s') : Inv R w a s' dn N :=
  ⟨h.df, h.sz, fun t => by rw [← he.env]; exact h.env t, by rw [← he.ck]; exact h.hi.hpe he.hp⟩
theorem own_filter {R : Rl} {hp : HP} {p : Key → Bool} {g : Nat} (h : Own R (hp.filter fun x => p x.1) g) : Own R hp g := by
  obtain ⟨k, o, n, h1, h2, h3⟩ := h
  rw [HP.get_filter] at h1
  by_cases hk : p k = true
  · rw [if_pos hk] at h1; exact ⟨k, o, n, h1, h2, h3⟩
  · rw [if_neg hk] at h1; cases h1
theorem get_filter_some {hp : HP} {p : Key → Bool} {k : Key} {o : Ob} (h : HP.get (hp.filter fun x => p x.1) k = some o) : hp.get k = some o := by
  rw [HP.get_filter] at h
  by_cases hk : p k = true
  · rwa [if_pos hk] at h
  · rw [if_neg hk] at h; cases h
theorem end_inv {R : Rl} {w : World} {a : Act} {s : St} {dn : Nat → Prop} {N : Nat} (h : Inv R w a s dn N) (kill killH : List Nat) : Inv R w a (endReg kill killH s) dn0 N ∧ Grow R w s.hp R w (endReg kill killH s).hp := by
  refine ⟨⟨h.df, h.sz, fun t => ?_, ?_⟩, ⟨rfl, rfl, rfl, Nat.le_refl _, fun _ _ _ => rfl, fun _ h => h, rfl, fun _ _ h => h, fun _ h => .inl h, fun g hg => .inr (own_filter (p := fun k => !killH.contains k.s) hg)⟩⟩
  · simp only [endReg, Env.get_keep]
    by_cases hk : kill.contains t = true
    · rw [if_pos hk]; exact h.env t
    · rw [if_neg hk]; exact .un _
  · constructor
    · exact fun k o ho => h.hi.ob k o (get_filter_some (p := fun k => !killH.contains k.s) ho)
    · exact fun k1 k2 o1 o2 g n1 n2 h1 h2 => h.hi.sep k1 k2 o1 o2 g n1 n2 (get_filter_some (p := fun k => !killH.contains k.s) h1) (get_filter_some (p := fun k => !killH.contains k.s) h2)
    · exact fun g hg => h.hi.own g (own_filter (p := fun k => !killH.contains k.s) hg)
    · exact h.hi.sS
    · exact h.hi.sB
    · exact fun k p hk => .inl (by simp only [endReg]; rcases h.hi.fr k p hk with h1 | h1 <;> omega)
    · exact HP.nodup_filter h.hi.nd (fun k => !killH.contains k.s)
    · exact h.hi.gl
theorem envOf_get : ∀ (vs : List V) (i t : Nat), (envOf i vs).get t = if i ≤ t then (vs[t - i]?).getD .un else .un
  | [], i, t => by simp [envOf, Env.get]
  | v :: vs, i, t => by
    simp only [envOf, Env.get]
    by_cases h : i = t
    · subst h; simp
    · rw [if_neg h, envOf_get vs (i + 1) t]
      by_cases h2 : i ≤ t
      · rw [if_pos h2, if_pos (by omega), show t - i = (t - (i + 1)) + 1 by omega, List.getElem?_cons_succ]
      · rw [if_neg h2, if_neg (by omega)]
section
variable {P : Program} {C : Cfg} {R : Rl} {w : World} {a : Act} {s : St} {dn : Nat → Prop} {N : Nat}
theorem load_addr {u : Value} {x : V} (hx : RepV R w u x) {hp : HP} {agg : Bool} {n : Nat} {r : V} (hr : load hp agg n x = some r) : ∃ ad, u = .pointer (some ad) := by
  unfold load at hr
  split at hr
  · cases hx; exact ⟨_, rfl⟩
  · cases hx; exact ⟨_, rfl⟩
  · cases hr
def resG (tmps : Array Value) : ResultVar → Sem Value
  | .tmp t => pure (tmps.getD t undef)
  | .cell x t => do loadVar t (← asAddr (tmps.getD x undef))
theorem resultsL_sound (hi : Inv R w a s dn N) : ∀ (l : List ResultVar) (rs : List Pres) (vs : List V), compRes P l = some rs → resultsL s rs = some vs →
    ∃ us : List Value, (l.mapM (resG a.tmps)).run P w = .ok us w ∧ us.length = vs.length ∧ ∀ j v, vs[j]? = some v → RepV R w (us.getD j undef) v
  | [], rs, vs, hc, hr => by
    simp [compRes] at hc
    subst hc
    simp [resultsL] at hr
    subst hr
    exact ⟨[], by simp, rfl, by simp⟩
  | .tmp t :: l, rs, vs, hc, hr => by
    simp only [compRes] at hc
    obtain ⟨rs', hc', rfl⟩ := mapS hc
    simp only [resultsL, results1] at hr
    cases h2 : resultsL s rs' with
    | none => simp [h2] at hr
    | some ws =>
      simp [h2] at hr
      subst hr
      obtain ⟨us, u1, u2, u3⟩ := resultsL_sound hi l rs' ws hc' h2
      refine ⟨a.tmps.getD t undef :: us, by rw [List.mapM_cons]; simp [resG, u1], by simp [u2], fun j v hv => ?_⟩
      cases j with
      | zero => simp at hv; subst hv; simpa using hi.env t
      | succ j => simpa using u3 j v (by simpa using hv)
  | .cell x t :: l, rs, vs, hc, hr => by
    simp only [compRes] at hc
    split at hc
    · rename_i ag n rs' h1 h2 hc'
      cases hc
      simp only [resultsL, results1] at hr
      cases h3 : load s.hp ag n (s.env.get x) with
      | none => simp [h3] at hr
      | some v0 =>
        cases h4 : resultsL s rs' with
        | none => simp [h3, h4] at hr
        | some ws =>
          simp [h3, h4] at hr
          subst hr
          obtain ⟨us, u1, u2, u3⟩ := resultsL_sound hi l rs' ws hc' h4
          obtain ⟨z, z1, z2⟩ := load_rep (P := P) hi.hi (hi.env x) h1 h2 h3
          obtain ⟨ad, had⟩ := load_addr (hi.env x) h3
          rw [had] at z1
          have z3 : (loadVar t ad).run P w = .ok z w := by simpa [Instr.loadAt, Instr.sureAddr] using z1
          refine ⟨z :: us, ?_, by simp [u2], fun j v hv => ?_⟩
          · rw [List.mapM_cons]; simp [resG, u1, had, asAddr, z3]
          · cases j with
            | zero => simp at hv; subst hv; simpa using z2
            | succ j => simpa using u3 j v (by simpa using hv)
    · cases hc
theorem results_sound (hi : Inv R w a s dn N) {fn : Func} {rs : List Pres} (hc : compRes P fn.results.toList = some rs) {v : V} (hr : results s rs = some v) : ∃ u, (Go.results fn a.tmps).run P w = .ok u w ∧ RepV R w u v := by
  unfold results at hr
  cases h1 : resultsL s rs with
  | none => simp [h1] at hr
  | some vs =>
    rw [h1] at hr
    obtain ⟨us, u1, u2, u3⟩ := resultsL_sound hi _ _ _ hc h1
    have hrun : (Go.results fn a.tmps).run P w = .ok (if h : us.toArray.size = 1 then us.toArray[0] else .tuple us.toArray) w := by
      have hres : Go.results fn a.tmps = (do
          let vs ← fn.results.mapM (resG a.tmps)
          pure (if h : vs.size = 1 then vs[0] else .tuple vs)) := by
        unfold Go.results
        congr
      rw [hres, Sem.run_bind, Array.mapM_eq_mapM_toList]
      simp [u1]
    refine ⟨_, hrun, ?_⟩
    by_cases h : us.toArray.size = 1
    · rw [dif_pos h]
      have hl : us.length = 1 := by simpa using h
      match vs, u2, u3, hr with
      | [v0], _, u3, hr =>
        simp at hr
        subst hr
        have h0 : 0 < us.length := by rw [hl]; exact Nat.one_pos
        have := u3 0 v0 rfl
        rw [List.getD_eq_getElem?_getD, List.getElem?_eq_getElem h0] at this
        simpa using this
      | [], u2, _, _ => simp only [List.length_nil] at u2; omega
      | _ :: _ :: _, u2, _, _ => simp only [List.length_cons] at u2; omega
    · rw [dif_neg h]
      have hne : vs.length ≠ 1 := by rw [← u2]; simpa using h
      have hv : v = .tu vs := by
        match vs, hne, hr with
        | [], _, hr => simp at hr; exact hr.symm
        | [_], hne, _ => simp at hne
        | _ :: _ :: _, _, hr => simp at hr; exact hr.symm
      subst hv
      exact .tu _ _ (by simpa using u2) (fun j v hv => by rw [toArr_getD]; exact u3 j v hv)
theorem wp_loop_nat {Q : Exit → Act → World → Prop} {c : Code} (I : Nat → Act → World → Prop) (round : ∀ n a w, I n a w → c.wp P (Exit.then (fun a' w' => ∃ m, m < n ∧ I m a' w') Q) a w) {n : Nat} {a : Act} {w : World} (h₀ : I n a w) : (Code.loop c).wp P Q a w := by
  intro b k cs
  have key : ∀ n a w, I n a w → ∃ e a' w', Q e a' w' ∧ Arrives P (lone (b.at a (.code c :: .inLoop c :: k)) cs w) b k cs e a' w' := by
    intro n
    induction n using Nat.strongRecOn with
    | _ n ih =>
      intro a w hI
      obtain ⟨e, a₁, w₁, hq, harr⟩ := round n a w hI b (.inLoop c :: k) cs
      cases e with
      | normal =>
        obtain ⟨m, hlt, hI₁⟩ := hq
        obtain ⟨e₂, a₂, w₂, hq₂, harr₂⟩ := ih m hlt a₁ w₁ hI₁
        exact ⟨e₂, a₂, w₂, hq₂, .of_steps (Steps.trans harr (.one step_inLoop)) harr₂⟩
      | exit id => exact ⟨_, a₁, w₁, hq, .pass (x := .inLoop c) rfl (fun _ _ => .inl (by simp)) harr⟩
      | goto l => exact ⟨_, a₁, w₁, hq, .pass (x := .inLoop c) rfl (fun _ _ => .inl (by simp)) harr⟩
      | ret => exact ⟨_, a₁, w₁, hq, .pass (x := .inLoop c) rfl (fun _ _ => .inl (by simp)) harr⟩
      | panic ch => exact ⟨_, a₁, w₁, hq, .pass (x := .inLoop c) rfl (fun _ _ => .inl (by simp)) harr⟩
      | outgrown => exact ⟨_, a₁, w₁, hq, .pass (x := .inLoop c) rfl (fun _ _ => .inl (by simp)) harr⟩
  obtain ⟨e, a', w', hq, harr⟩ := key _ a w h₀
  exact ⟨e, a', w', hq, .of_steps (.one step_loop) harr⟩
def CodeOk (P : Program) (C : Cfg) (n : Nat) : Prop := ∀ (A : Ann) (N : Nat) (c : Code) (pc : Pc), compC P A N c = some pc → ∀ s e s', ev C n pc s = some (e, s') → ∀ R w a Q, Inv R w a s dn0 N → (∀ a' w' R', Inv R' w' a' s' dn0 N → Grow R w s.hp R' w' s'.hp → Q (exitOf e) a' w') → c.wp P Q a w
theorem draw_inv {R : Rl} {w : World} {a : Act} {s : St} {N : Nat} (h : Inv R w a s dn0 N) : Inv R { w with drawn := w.drawn + 1 } a s dn0 N ∧ Grow R w s.hp R { w with drawn := w.drawn + 1 } s.hp := by
  have ha : Agree R w R { w with drawn := w.drawn + 1 } := ⟨fun _ h => h, fun _ h => h, fun _ _ h => h, fun _ _ => rfl, fun _ _ => rfl⟩
  exact ⟨⟨h.df, h.sz, fun t => (h.env t).mono ha, ⟨fun k o ho => (h.hi.ob k o ho).mono ha (fun _ _ _ => rfl), h.hi.sep, h.hi.own, h.hi.sS, h.hi.sB, h.hi.fr, h.hi.nd, gl_keep h.hi.gl ha⟩⟩,
    ⟨rfl, rfl, rfl, Nat.le_refl _, fun _ _ _ => rfl, fun _ h => h, rfl, fun _ _ h => h, fun _ h => .inl h, fun _ h => .inr h⟩⟩
theorem reg_sound (hmx : P.follows .mixedOrders = true) {n : Nat} (hrun : RunOk P (run C n)) {A : Ann} {N id : Nat} {ops : Array Oper} {draw : Bool} {ps : List (Nat × Pop)} (hps : compOps P A N id draw ops 0 ops.toList = some ps) (hdr : (!draw || drawOk ops ps) = true) {kill killH : List Nat} {s s' : St} (hev : evOps C (run C n) ps s = some s') {R : Rl} {w : World} {a : Act} {Q : Exit → Act → World → Prop} (hi : Inv R w a s dn0 N)
    (hQ : ∀ a' w' R', Inv R' w' a' (endReg kill killH s') dn0 N → Grow R w s.hp R' w' (endReg kill killH s').hp → Q .normal a' w') : (Code.region id ops draw).wp P Q a w := by
  obtain ⟨q1, q2⟩ := compOps_q hps
  have hnd : (ps.map Prod.fst).Nodup := by rw [q1]; exact List.nodup_range
  cases draw with
  | false =>
    refine wp_region ?_
    rw [← q1]
    refine ops_sound hrun ps hi q2 hnd (fun _ _ h => h) hev fun a' w' R' dn' h1 h2 => ?_
    obtain ⟨e1, e2⟩ := end_inv h1 kill killH
    exact hQ a' w' R' e1 (h2.trans e2)
  | true =>
    obtain ⟨d1, d2⟩ := draw_inv hi
    simp only [Bool.not_true, Bool.false_or, drawOk, drawOkB, Bool.and_eq_true] at hdr
    obtain ⟨⟨⟨he, hb⟩, hs⟩, hf0⟩ := hdr
    have hf1 : ∃ lo, freeAll lo (Region.before ops) ps = true ∧ (lo = true → ∀ q ∈ ps, okL q.2.op = true) := by
      rcases Bool.or_eq_true_iff.1 hf0 with h | h
      · exact ⟨false, h, fun e => by cases e⟩
      · rw [Bool.and_eq_true] at h
        exact ⟨true, h.1, fun _ q hq => List.all_eq_true.1 h.2 q hq⟩
    obtain ⟨lo, hf, hok⟩ := hf1
    have hany : wpAny P .any ops Q ops.size (Array.replicate ops.size false) a { w with drawn := w.drawn + 1 } := by
      have hl : ps.length = ops.size := by have := congrArg List.length q1; simpa using this
      refine any_sound hrun he hb hs ops.size ps (Array.replicate ops.size false) hl.symm (by simp) ?_ ?_ hnd hf hok d1 q2 (fun _ _ h => h) hev fun a' w' R' dn' s'' h1 h2 h3 => ?_
      · intro i o ho hli
        have := (Array.getElem?_eq_some_iff.1 ho).1
        rw [Array.getD_eq_getD_getElem?, Array.getElem?_replicate, if_pos this] at hli
        cases hli
      · intro i
        rw [q1]
        simp only [List.mem_range]
        constructor
        · intro h
          refine ⟨h, ?_⟩
          rw [Array.getD_eq_getD_getElem?, Array.getElem?_replicate, if_pos h]
          rfl
        · exact fun h => h.1
      · obtain ⟨e1, e2⟩ := end_inv (h2.eqv h1.symm) kill killH
        refine hQ a' w' R' e1 (d2.trans ?_)
        exact (h3.hpe h1.hp.symm).trans e2
    exact wp_region_any hmx hany
theorem code_step (hmx : P.follows .mixedOrders = true) {n : Nat} (hrun : RunOk P (run C n)) (ih : ∀ m, m ≤ n → CodeOk P C m) : CodeOk P C (n + 1) := by
  intro A N c pc hc s e s' hev R w a Q hi hQ
  have ihn := ih n (Nat.le_refl _)
  cases c with
  | skip =>
    simp [compC] at hc; subst hc
    simp [ev, evStep] at hev
    obtain ⟨rfl, rfl⟩ := hev
    exact wp_skip (hQ a w R hi (Grow.refl _ _ _))
  | exit id =>
    simp [compC] at hc; subst hc
    simp [ev, evStep] at hev
    obtain ⟨rfl, rfl⟩ := hev
    exact wp_exit (hQ a w R hi (Grow.refl _ _ _))
  | ret =>
    simp [compC] at hc; subst hc
    simp [ev, evStep] at hev
    obtain ⟨rfl, rfl⟩ := hev
    exact wp_ret (hQ a w R hi (Grow.refl _ _ _))
  | region id ops draw =>
    simp only [compC] at hc
    split at hc
    · rename_i ps hps
      split at hc
      · rename_i hd
        cases hc
        simp only [ev, evStep] at hev
        cases h1 : evOps C (run C n) ps s with
        | none => simp [h1] at hev
        | some s1 =>
          simp [h1] at hev
          obtain ⟨rfl, rfl⟩ := hev
          exact reg_sound hmx hrun hps hd h1 hi hQ
      · cases hc
    · cases hc
  | seq x y =>
    simp only [compC] at hc
    split at hc
    · rename_i px py hx hy
      cases hc
      simp only [ev, evStep] at hev
      refine wp_seq ?_
      cases h1 : ev C n px s with
      | none => simp [h1, thenC] at hev
      | some r =>
        obtain ⟨e1, s1⟩ := r
        refine ihn A N x px hx s e1 s1 h1 R w a _ hi fun a' w' R' h2 h3 => ?_
        cases e1 with
        | normal =>
          simp only [h1, thenC] at hev
          exact ihn A N y py hy s1 e s' hev R' w' a' Q h2 (fun a2 w2 R2 h4 h5 => hQ a2 w2 R2 h4 (h3.trans h5))
        | exit id => simp [h1, thenC] at hev; obtain ⟨rfl, rfl⟩ := hev; exact hQ a' w' R' h2 h3
        | ret => simp [h1, thenC] at hev; obtain ⟨rfl, rfl⟩ := hev; exact hQ a' w' R' h2 h3
    · cases hc
  | cond t x y =>
    simp only [compC] at hc
    split at hc
    · rename_i t' px py ht hx hy
      cases hc
      simp only [ev, evStep] at hev
      have ht' := opd_rep hi.env ht
      split at hev
      · rename_i hb
        rw [hb] at ht'
        exact wp_cond_true (repV_b ht') (ihn A N x px hx s e s' hev R w a Q hi hQ)
      · rename_i hb
        rw [hb] at ht'
        exact wp_cond_false (repV_b ht') (ihn A N y py hy s e s' hev R w a Q hi hQ)
      · cases hev
    · cases hc
  | block id c =>
    simp only [compC] at hc
    obtain ⟨pc', hc', rfl⟩ := mapS hc
    simp only [ev, evStep] at hev
    refine wp_block ?_
    cases h1 : ev C n pc' s with
    | none => simp [h1, blockC] at hev
    | some r =>
      obtain ⟨e1, s1⟩ := r
      refine ihn A N c pc' hc' s e1 s1 h1 R w a _ hi fun a' w' R' h2 h3 => ?_
      cases e1 with
      | normal => simp [h1, blockC] at hev; obtain ⟨rfl, rfl⟩ := hev; exact hQ a' w' R' h2 h3
      | ret => simp [h1, blockC] at hev; obtain ⟨rfl, rfl⟩ := hev; exact hQ a' w' R' h2 h3
      | exit i =>
        simp only [h1, blockC] at hev
        show (if i = id then Q .normal a' w' else Q (.exit i) a' w')
        by_cases hid : i = id
        · rw [if_pos hid] at hev ⊢
          cases hev
          exact hQ a' w' R' h2 h3
        · rw [if_neg hid] at hev ⊢
          cases hev
          exact hQ a' w' R' h2 h3
  | loop c =>
    simp only [compC] at hc
    obtain ⟨pc', hc', rfl⟩ := mapS hc
    refine wp_loop_nat (n := n + 1) (fun k a1 w1 => k ≤ n + 1 ∧ ∃ s1 R1, ev C k (.loop pc') s1 = some (e, s') ∧ Inv R1 w1 a1 s1 dn0 N ∧ Grow R w s.hp R1 w1 s1.hp) ?_ ⟨Nat.le_refl _, s, R, hev, hi, Grow.refl _ _ _⟩
    rintro k a1 w1 ⟨hk, s1, R1, h1, h2, h3⟩
    cases k with
    | zero => simp [ev] at h1
    | succ k =>
      simp only [ev, evStep] at h1
      cases h4 : ev C k pc' s1 with
      | none => simp [h4, thenC] at h1
      | some r =>
        obtain ⟨e2, s2⟩ := r
        refine ih k (by omega) A N c pc' hc' s1 e2 s2 h4 R1 w1 a1 _ h2 fun a' w' R' h5 h6 => ?_
        cases e2 with
        | normal =>
          simp only [h4, thenC] at h1
          exact ⟨k, by omega, by omega, s2, R', h1, h5, h3.trans h6⟩
        | exit id => simp [h4, thenC] at h1; obtain ⟨rfl, rfl⟩ := h1; exact hQ a' w' R' h5 (h3.trans h6)
        | ret => simp [h4, thenC] at h1; obtain ⟨rfl, rfl⟩ := h1; exact hQ a' w' R' h5 (h3.trans h6)
  | _ => simp [compC] at hc
theorem run_step (hC : CfgOk P C) {n : Nat} (hrun : RunOk P (run C n)) (hcode : CodeOk P C n) : RunOk P (run C (n + 1)) := by
  intro f args h ck r h' ck' hr R w us hi ha
  simp only [run, runWith] at hr
  cases hx : C.ex f with
  | some p =>
    rw [hx] at hr
    exact hC.ex f p hx args h ck r h' ck' hr R w us hi ha
  | none =>
    rw [hx] at hr
    simp only at hr
    cases hf : C.pf f with
    | none => simp [hf] at hr
    | some pfn =>
      rw [hf] at hr
      simp only [runFn] at hr
      obtain ⟨⟨A, hcf⟩, hg⟩ := hC.pf f pfn hf
      refine ⟨hg, ?_⟩
      unfold compF at hcf
      split at hcf
      · rename_i fn hfn
        split at hcf
        · rename_i c hb
          split at hcf
          · rename_i pb rs hpb hrs
            split at hcf
            · rename_i hnp
              cases hcf
              by_cases hl : args.length = fn.params.size + fn.nfree
              · rw [if_pos hl] at hr
                have hus : us.size = fn.params.size + fn.nfree := by rw [ha.1, hl]
                have hinv : Inv R w { tmps := us ++ Array.replicate (fn.ntmps - us.size) undef, defers := [] } ⟨envOf 0 args, h, ck⟩ dn0 fn.ntmps := by
                  refine ⟨rfl, by simp; omega, fun t => ?_, hi⟩
                  simp only [envOf_get, Nat.zero_le, if_true, Nat.sub_zero]
                  cases hv : args[t]? with
                  | none => exact .un _
                  | some v =>
                    have hlt : t < us.size := by rw [ha.1]; exact (List.getElem?_eq_some_iff.1 hv).1
                    have := ha.2 t v hv
                    rw [getD_append, if_pos hlt]
                    exact this
                have hfin : ∀ e s1, ev C n pb ⟨envOf 0 args, h, ck⟩ = some (e, s1) → (e = .normal ∨ e = .ret) → results s1 rs = some r → s1.hp = h' → s1.ck = ck' → Calls P f us w (CPost R w h r h' ck' (fun _ => False)) := by
                  rintro e s1 he hee hres rfl rfl
                  refine calls_of_wp hfn hb (hcode A fn.ntmps c pb hpb _ e s1 he R w _ _ hinv fun a' w' R' h1 h2 => ?_)
                  obtain ⟨u, u1, u2⟩ := results_sound h1 hrs hres
                  rcases hee with rfl | rfl
                  · exact ⟨h1.df, u, u1, u, R', rfl, u2, h2, h1.hi⟩
                  · exact ⟨h1.df, u, u1, u, R', rfl, u2, h2, h1.hi⟩
                split at hr
                · rename_i s1 he
                  obtain ⟨v, hv, h2⟩ := mapS hr
                  cases h2
                  exact hfin _ _ he (.inl rfl) hv rfl rfl
                · rename_i s1 he
                  obtain ⟨v, hv, h2⟩ := mapS hr
                  cases h2
                  exact hfin _ _ he (.inr rfl) hv rfl rfl
                · cases hr
              · rw [if_neg hl] at hr; cases hr
            · cases hcf
          · cases hcf
        · cases hcf
      · cases hcf
theorem all_ok (hC : CfgOk P C) : ∀ n, RunOk P (run C n) ∧ ∀ m, m ≤ n → CodeOk P C m
  | 0 => by
    refine ⟨fun f args h ck r h' ck' hr => by simp [run] at hr, fun m hm => ?_⟩
    obtain rfl : m = 0 := by omega
    intro A N c pc hc s e s' hev
    simp [ev] at hev
  | n + 1 => by
    obtain ⟨h1, h2⟩ := all_ok hC n
    refine ⟨run_step hC h1 (h2 n (Nat.le_refl _)), fun m hm => ?_⟩
    rcases Nat.lt_or_ge m (n + 1) with h | h
    · exact h2 m (by omega)
    · obtain rfl : m = n + 1 := by omega
      exact code_step hC.mixed h1 h2
end
end
end Go.Pev
namespace Go.Pev
open Go Go.RowKit Go.WideShapes
section
def tilesB (P : Program) : List Field → Nat → Nat → Bool
  | [], off, tot => off == tot
  | f :: fs, off, tot => f.offset == off && tilesB P fs (off + P.cellsOf f.type) tot
def plainTy (P : Program) : Nat → TypeId → Bool
  | 0, _ => false
  | n + 1, t => match P.underlying t with
    | some .bool => true
    | some (.int _) => true
    | some .string => true
    | some (.slice e) => decide (0 < P.cellsOf e) && plainTy P n e
    | some (.struct fs) => tilesB P fs.toList 0 (P.cellsOf t) && fs.toList.all fun f => plainTy P n f.type
    | some (.array k e) => P.cellsOf t == k * P.cellsOf e && plainTy P n e
    | _ => false
def FitsF (F : TypeId → List T → Prop) (P : Program) : List Field → List T → Prop
  | [], ts => ts = []
  | f :: fs, ts => ∃ a b, ts = a ++ b ∧ a.length = P.cellsOf f.type ∧ F f.type a ∧ FitsF F P fs b
def Fits (P : Program) : Nat → TypeId → List T → Prop
  | 0, _, _ => False
  | n + 1, t, ts => match P.underlying t with
    | some .bool => ∃ b, ts = [.b b]
    | some (.int k) => ∃ m, ts = [.i k m] ∧ (Lit.int k m).wf = true
    | some .string => ∃ s, ts = [.s s] ∧ s.length ≤ reachBytes
    | some (.slice e) => ∃ xs, ts = [.l xs] ∧ xs.length * P.bytesOf e ≤ reachBytes ∧ ∀ c ∈ xs, c.length = P.cellsOf e ∧ Fits P n e c
    | some (.struct fs) => FitsF (Fits P n) P fs.toList ts
    | some (.array k e) => ts.length = k * P.cellsOf e ∧ ∀ i, i < k → Fits P n e ((ts.drop (i * P.cellsOf e)).take (P.cellsOf e))
    | _ => False
section
variable {H : Type} {enc : TypeId × Value → H} {P : Program} {w : World} {spare : Nat → Bool} {held : Bool}
abbrev old (w : World) : Nat → Prop := fun g => g < w.heap.size
theorem weightsAll_mem {e : TypeId} : ∀ {ds : List (DataW H)} {j : Nat} {d : DataW H}, ds[j]? = some d → ∀ n ∈ d.weights P e, n ∈ DataW.weightsAll P e ds
  | d0 :: ds, 0, d, hd, n, hn => by
    simp only [List.getElem?_cons_zero, Option.some.injEq] at hd
    subst hd
    simp only [DataW.weightsAll, List.mem_append]
    exact .inl hn
  | d0 :: ds, j + 1, d, hd, n, hn => by
    simp only [List.getElem?_cons_succ] at hd
    simp only [DataW.weightsAll, List.mem_append]
    exact .inr (weightsAll_mem hd n hn)
  | [], j, d, hd, n, hn => by simp at hd
def Got (P : Program) (w : World) (k : Nat) (t : TypeId) (cs : List Value) (ts : List T) : Prop := ts.length = cs.length ∧ (∀ j x, ts[j]? = some x → RepT (old w) w (cs.getD j undef) x) ∧ Fits P k t ts
theorem cells_get {base : Nat} {a : Addr} {n : Nat} {cs : List Value} (h : w.cells? base a n = some cs) : cs.length = n ∧ ∀ i, i < n → w.cell? (a.add i) = some (cs.getD i undef) := by
  unfold World.cells? at h
  split at h
  · have hl : cs.length = n := by simpa using mapM_some_length h
    refine ⟨hl, fun i hi => ?_⟩
    have := mapM_some_get h i i (by simp [hi])
    rw [this, List.getD_eq_getElem?_getD, List.getElem?_eq_getElem (by omega)]
    rfl
  · cases h
theorem drop_take_getD (cs : List Value) (off c j : Nat) (hj : j < c) (h : off + c ≤ cs.length) : ((cs.drop off).take c).getD j undef = cs.getD (off + j) undef := by
  rw [List.getD_eq_getElem?_getD, List.getD_eq_getElem?_getD, List.getElem?_take, if_pos hj, List.getElem?_drop]
theorem fields_rep {k fuel : Nat} {cs : List Value} {tot : Nat} (hl : cs.length = tot) (ih : ∀ t cs x, DataW.trod enc P w 0 spare held fuel t cs = some x → plainTy P k t = true → (∀ m ∈ x.1.weights P t, m ≤ reachBytes) → ∃ ts, Got P w k t cs ts) :
    ∀ (fs : List Field) (off : Nat), tilesB P fs off tot = true → (fs.all fun f => plainTy P k f.type) = true → (∀ (i : Nat) (f : Field), fs[i]? = some f → ∃ y, DataW.trod enc P w 0 spare held fuel f.type ((cs.drop f.offset).take (P.cellsOf f.type)) = some y ∧ ∀ m ∈ y.1.weights P f.type, m ≤ reachBytes) → off ≤ tot →
      ∃ ts : List T, off + ts.length = tot ∧ (∀ j x, ts[j]? = some x → RepT (old w) w (cs.getD (off + j) undef) x) ∧ FitsF (Fits P k) P fs ts
  | [], off, ht, _, _, ho => by
    have : off = tot := by simpa [tilesB] using ht
    exact ⟨[], by simpa using this, by simp, rfl⟩
  | f :: fs, off, ht, hp, hy, ho => by
    simp only [tilesB, Bool.and_eq_true, beq_iff_eq] at ht
    obtain ⟨hof, ht⟩ := ht
    simp only [List.all_cons, Bool.and_eq_true] at hp
    obtain ⟨y, h1, h2⟩ := hy 0 f rfl
    obtain ⟨a, a1, a2, a3⟩ := ih _ _ _ h1 hp.1 h2
    have htot : ∀ (fs : List Field) (off : Nat), tilesB P fs off tot = true → off ≤ tot := by
      intro fs
      induction fs with
      | nil => intro off h; simp only [tilesB, beq_iff_eq] at h; omega
      | cons f fs ihf =>
        intro off h
        simp only [tilesB, Bool.and_eq_true] at h
        have := ihf _ h.2
        omega
    have hle := htot fs _ ht
    obtain ⟨b, b1, b2, b3⟩ := fields_rep hl ih fs (off + P.cellsOf f.type) ht hp.2 (fun i g hg => hy (i + 1) g (by simpa using hg)) hle
    have hal : a.length = P.cellsOf f.type := by rw [a1, hof]; simp; omega
    refine ⟨a ++ b, by simp; omega, fun j x hx => ?_, a, b, rfl, hal, a3, b3⟩
    rw [List.getElem?_append] at hx
    by_cases hj : j < a.length
    · rw [if_pos hj] at hx
      have := a2 j x hx
      rwa [hof, drop_take_getD _ _ _ _ (by omega) (by omega)] at this
    · rw [if_neg hj] at hx
      have := b2 _ x hx
      rwa [show off + P.cellsOf f.type + (j - a.length) = off + j by omega] at this
theorem array_rep {k fuel n : Nat} {e : TypeId} {cs : List Value} (hl : cs.length = n * P.cellsOf e) (ih : ∀ t cs x, DataW.trod enc P w 0 spare held fuel t cs = some x → plainTy P k t = true → (∀ m ∈ x.1.weights P t, m ≤ reachBytes) → ∃ ts, Got P w k t cs ts) (hp : plainTy P k e = true)
    (hy : ∀ i, i < n → ∃ y, DataW.trod enc P w 0 spare held fuel e ((cs.drop (i * P.cellsOf e)).take (P.cellsOf e)) = some y ∧ ∀ m ∈ y.1.weights P e, m ≤ reachBytes) :
    ∀ m, m ≤ n → ∃ ts : List T, ts.length = m * P.cellsOf e ∧ (∀ j x, ts[j]? = some x → RepT (old w) w (cs.getD j undef) x) ∧ ∀ i, i < m → Fits P k e ((ts.drop (i * P.cellsOf e)).take (P.cellsOf e))
  | 0, _ => ⟨[], by simp, by simp, by intro i hi; omega⟩
  | m + 1, hm => by
    obtain ⟨ts, t1, t2, t3⟩ := array_rep hl ih hp hy m (by omega)
    obtain ⟨y, h1, h2⟩ := hy m (by omega)
    obtain ⟨a, a1, a2, a3⟩ := ih _ _ _ h1 hp h2
    have hle : (m + 1) * P.cellsOf e ≤ n * P.cellsOf e := Nat.mul_le_mul_right _ hm
    rw [Nat.add_mul, Nat.one_mul] at hle
    have hal : a.length = P.cellsOf e := by rw [a1]; simp; omega
    refine ⟨ts ++ a, by simp [t1, hal, Nat.add_mul], fun j x hx => ?_, fun i hi => ?_⟩
    · rw [List.getElem?_append] at hx
      by_cases hj : j < ts.length
      · rw [if_pos hj] at hx; exact t2 j x hx
      · rw [if_neg hj] at hx
        have := a2 _ x hx
        have hlt := (List.getElem?_eq_some_iff.1 hx).1
        rwa [drop_take_getD _ _ _ _ (by omega) (by omega), show m * P.cellsOf e + (j - ts.length) = j by omega] at this
    · by_cases him : i < m
      · have hle2 : (i + 1) * P.cellsOf e ≤ m * P.cellsOf e := Nat.mul_le_mul_right _ him
        rw [Nat.add_mul, Nat.one_mul] at hle2
        rw [List.drop_append_of_le_length (by omega), List.take_append_of_le_length (by simp; omega)]
        exact t3 i him
      · obtain rfl : i = m := by omega
        rw [← t1, List.drop_left, List.take_of_length_le (by omega)]
        exact a3
theorem trod_rep : ∀ (fuel k : Nat) (t : TypeId) (cs : List Value) (x : DataW H × List MemPlace), DataW.trod enc P w 0 spare held fuel t cs = some x → plainTy P k t = true → (∀ m ∈ x.1.weights P t, m ≤ reachBytes) → ∃ ts, Got P w k t cs ts
  | 0, k, t, cs, x, h, _, _ => by simp [DataW.trod] at h
  | fuel + 1, 0, t, cs, x, h, hp, _ => by simp [plainTy] at hp
  | fuel + 1, k + 1, t, cs, x, h, hp, hw => by
    have ih : ∀ t cs x, DataW.trod enc P w 0 spare held fuel t cs = some x → plainTy P k t = true → (∀ m ∈ x.1.weights P t, m ≤ reachBytes) → ∃ ts, Got P w k t cs ts := fun t cs x => trod_rep fuel k t cs x
    simp only [plainTy] at hp
    split at hp
    · rename_i ht
      obtain ⟨b, rfl, rfl⟩ := DataW.trod_bool ht h
      exact ⟨[.b b], rfl, fun j x hx => by cases j <;> simp at hx; subst hx; exact .b b, by simp only [Fits, ht]; exact ⟨b, rfl⟩⟩
    · rename_i kd ht
      obtain ⟨n, rfl, rfl, hwf⟩ := DataW.trod_int ht h
      exact ⟨[.i kd n], rfl, fun j x hx => by cases j <;> simp at hx; subst hx; exact .i kd n, by simp only [Fits, ht]; exact ⟨n, rfl, hwf⟩⟩
    · rename_i ht
      obtain ⟨s, rfl, rfl, hs⟩ := DataW.trod_string ht h
      refine ⟨[.s s.data.toList], rfl, fun j x hx => by cases j <;> simp at hx; subst hx; exact .s s _ rfl, ?_⟩
      simp only [Fits, ht]
      exact ⟨_, rfl, hw _ (by simp [DataW.weights])⟩
    · rename_i e ht
      rw [Bool.and_eq_true] at hp
      have hc0 : 0 < P.cellsOf e := by simpa using hp.1
      rcases DataW.trod_slice ht h with ⟨rfl, rfl⟩ | ⟨a, len, cap, elems, rest, n, hf, rfl, rfl, hb, hle, hm, hlen, hel, _, _⟩
      · refine ⟨[.l []], rfl, fun j x hx => by cases j <;> simp at hx; subst hx; exact repT_nil _ _, ?_⟩
        simp only [Fits, ht]
        exact ⟨[], rfl, by simp, by simp⟩
      · obtain rfl : fuel = n := by omega
        have hwt : ∀ m ∈ (elems.length + rest.length) * P.bytesOf e :: (DataW.weightsAll P e (elems.map (·.1)) ++ DataW.weightsAll P e (rest.map (·.1))), m ≤ reachBytes := by
          intro m hm'
          refine hw m ?_
          simp only [DataW.weights, ht, List.length_map]
          exact hm'
        have hgot : ∀ i, ∃ c : List T, i < len → ∃ ci : List Value, ci.length = P.cellsOf e ∧ (∀ j, j < P.cellsOf e → w.cell? ((a.add (i * P.cellsOf e)).add j) = some (ci.getD j undef)) ∧ Got P w k e ci c := by
          intro i
          by_cases hi : i < len
          · have h1 := hel i hi
            rw [List.getElem?_eq_getElem (by omega), Option.bind_eq_some_iff] at h1
            obtain ⟨ci, hci, htr⟩ := h1
            obtain ⟨c1, c2⟩ := cells_get hci
            obtain ⟨ts, hts⟩ := ih e ci _ htr hp.2 (fun m hm' => hwt m (by
              refine List.mem_cons_of_mem _ (List.mem_append.2 (.inl ?_))
              exact weightsAll_mem (j := i) (by rw [List.getElem?_map, List.getElem?_eq_getElem (by omega)]; rfl) m hm'))
            exact ⟨ts, fun _ => ⟨ci, c1, c2, hts⟩⟩
          · exact ⟨[], fun h => absurd h hi⟩
        have hch : ∃ g : Nat → List T, ∀ i, i < len → ∃ ci : List Value, ci.length = P.cellsOf e ∧ (∀ j, j < P.cellsOf e → w.cell? ((a.add (i * P.cellsOf e)).add j) = some (ci.getD j undef)) ∧ Got P w k e ci (g i) :=
          ⟨fun i => Classical.choose (hgot i), fun i => Classical.choose_spec (hgot i)⟩
        obtain ⟨g, hg⟩ := hch
        have hxs : ∀ c ∈ (List.range len).map g, c.length = P.cellsOf e ∧ Fits P k e c := by
          intro c hc
          obtain ⟨i, hi, rfl⟩ := List.mem_map.1 hc
          obtain ⟨ci, c1, c2, g1, g2, g3⟩ := hg i (by simpa using hi)
          exact ⟨by omega, g3⟩
        have haddr : 0 < len → ∃ q o, a = ⟨q, o, none⟩ ∧ q < w.heap.size := by
          intro h0
          obtain ⟨ci, c1, c2, _⟩ := hg 0 h0
          have := c2 0 hc0
          rw [Nat.zero_mul] at this
          have e0 : (a.add 0).add 0 = a := by simp [Addr.add]
          rw [e0] at this
          unfold World.cell? at this
          obtain ⟨q, o, sp⟩ := a
          simp only at this
          cases hq : w.heap[q]? with
          | none => simp [hq] at this
          | some ob =>
            have hlt := (Array.getElem?_eq_some_iff.1 hq).1
            rw [hq] at this
            cases ob <;> simp at this
            cases sp with
            | none => exact ⟨q, o, rfl, hlt⟩
            | some z => simp at this
        have hat : ∀ i j x, at2 ((List.range len).map g) i j = some x → i < len ∧ (g i)[j]? = some x := by
          intro i j x hx
          obtain ⟨c, h1, h2⟩ := at2_elim hx
          rw [List.getElem?_map] at h1
          by_cases hi : i < len
          · rw [List.getElem?_range hi] at h1
            cases h1
            exact ⟨hi, h2⟩
          · rw [List.getElem?_eq_none (by simp; omega)] at h1
            cases h1
        refine ⟨[.l ((List.range len).map g)], rfl, fun j x hx => ?_, ?_⟩
        · cases j <;> simp at hx
          subst hx
          simp only [List.getD_cons_zero]
          refine .l (some a) len cap _ (P.cellsOf e) a.block a.off (fun i j => w.cell? ⟨a.block, a.off + (i * P.cellsOf e + j), none⟩ |>.getD undef) (by simp) hle (fun h0 => ?_) (fun h0 => ?_) (fun c hc => (hxs c hc).1) (fun i j x hx => ?_) (fun i j x hx => ?_)
          · obtain ⟨q, o, rfl, _⟩ := haddr h0
            rfl
          · obtain ⟨q, o, rfl, hlt⟩ := haddr h0
            exact hlt
          · obtain ⟨hi, hx⟩ := hat i j x hx
            obtain ⟨ci, c1, c2, g1, g2, g3⟩ := hg i hi
            have hj : j < P.cellsOf e := by have := (List.getElem?_eq_some_iff.1 hx).1; omega
            obtain ⟨q, o, rfl, _⟩ := haddr (by omega)
            have := c2 j hj
            rw [addr_add, addr_add, Nat.add_assoc] at this
            rw [this]; rfl
          · obtain ⟨hi, hx⟩ := hat i j x hx
            obtain ⟨ci, c1, c2, g1, g2, g3⟩ := hg i hi
            have hj : j < P.cellsOf e := by have := (List.getElem?_eq_some_iff.1 hx).1; omega
            obtain ⟨q, o, rfl, _⟩ := haddr (by omega)
            have := c2 j hj
            rw [addr_add, addr_add, Nat.add_assoc] at this
            simp only
            rw [this]
            exact g2 j x hx
        · simp only [Fits, ht]
          refine ⟨_, rfl, ?_, hxs⟩
          have h1 := hwt _ List.mem_cons_self
          have : ((List.range len).map g).length * P.bytesOf e ≤ (elems.length + rest.length) * P.bytesOf e := Nat.mul_le_mul_right _ (by simp; omega)
          omega
    · rename_i fs ht
      rw [Bool.and_eq_true] at hp
      obtain ⟨xs, n, hf, rfl, hl, hxl, hx⟩ := DataW.trod_struct ht h
      obtain rfl : fuel = n := by omega
      obtain ⟨ts, t1, t2, t3⟩ := fields_rep (enc := enc) (spare := spare) (held := held) (fuel := fuel) (k := k) hl ih fs.toList 0 hp.1 hp.2 (fun i f hf => by
        have hf' : fs[i]? = some f := by simpa using hf
        have hi : i < xs.length := by rw [hxl]; exact (Array.getElem?_eq_some_iff.1 hf').1
        refine ⟨xs[i], by rw [hx i f hf', List.getElem?_eq_getElem hi], fun m hm => hw m ?_⟩
        simp only [DataW.weights, ht]
        exact DataW.weights_mem_each (j := i) (by rw [List.getElem?_map, hf]; rfl) (by rw [List.getElem?_map, List.getElem?_eq_getElem hi]; rfl) m hm) (Nat.zero_le _)
      refine ⟨ts, by omega, fun j x hx => by have := t2 j x hx; rwa [Nat.zero_add] at this, ?_⟩
      simp only [Fits, ht]
      exact t3
    · rename_i n e ht
      rw [Bool.and_eq_true] at hp
      obtain ⟨xs, m, hf, rfl, hl, hxl, hx⟩ := DataW.trod_array ht h
      obtain rfl : fuel = m := by omega
      have hce : P.cellsOf t = n * P.cellsOf e := by simpa using hp.1
      obtain ⟨ts, t1, t2, t3⟩ := array_rep (enc := enc) (spare := spare) (held := held) (fuel := fuel) (k := k) (n := n) (e := e) (cs := cs) (by omega) ih hp.2 (fun i hi => by
        refine ⟨xs[i]'(by omega), by rw [hx i hi, List.getElem?_eq_getElem (by omega)], fun m hm => hw m ?_⟩
        simp only [DataW.weights, ht]
        exact weightsAll_mem (j := i) (by rw [List.getElem?_map, List.getElem?_eq_getElem (by omega)]; rfl) m hm) n (Nat.le_refl _)
      refine ⟨ts, by omega, t2, ?_⟩
      simp only [Fits, ht]
      exact ⟨t1, t3⟩
    · cases hp
def ArgFit (P : Program) (k : Nat) (t : TypeId) (x : V) : Prop :=
  match P.underlying t with
  | some (.struct _) | some (.array _ _) => ∃ ts, x = .ag (ts.map .t) ∧ Fits P k t ts
  | _ => ∃ y, x = .t y ∧ Fits P k t [y]
def ArgsFit (P : Program) (k : Nat) : List TypeId → List V → Prop
  | [], xs => xs = []
  | t :: ts, xs => ∃ x ys, xs = x :: ys ∧ ArgFit P k t x ∧ ArgsFit P k ts ys
def argR (w : World) : Rl := ⟨old w, fun _ => False, fun _ => none⟩
theorem argR_inv (w : World) (hgl : (∀ g, globB g → old w g) ∧ globOk w) : HInv (argR w) w [] 0 dn0 := by
  constructor
  · intro k o h; cases h
  · intro k1 k2 o1 o2 g n1 n2 h; cases h
  · rintro g ⟨k, o, n, h, _⟩; cases h
  · exact fun g h => h
  · exact fun g h => h.elim
  · intro k p h; cases h
  · exact List.nodup_nil
  · exact ⟨fun g hg => .inl (hgl.1 g hg), hgl.2⟩
theorem arg_rep {k base : Nat} {r : Reach} {t : TypeId} {v : Value} {d : DataW H} {ps : List MemPlace} (h : DataW.Trod enc P w 0 spare held t v d ps) (hp : plainTy P k t = true) (hok : Value.okWide P w r base t v) (hw : ∀ m ∈ d.weights P t, m ≤ reachBytes) : ∃ x, RepV (argR w) w v x ∧ ArgFit P k t x := by
  obtain ⟨fuel, hf⟩ := h
  obtain ⟨ts, t1, t2, t3⟩ := trod_rep fuel k t _ _ hf hp hw
  have hagg : (∃ cs, v = .agg cs) → ∃ x, RepV (argR w) w v x ∧ x = .ag (ts.map .t) := by
    rintro ⟨cs, rfl⟩
    have hcs : (Value.agg cs).cells.toList = cs.toList := rfl
    rw [hcs] at t1 t2
    refine ⟨_, .ag cs _ (by simp [t1]) (fun j hj => ?_) (fun j x hx => ?_), rfl⟩
    · have hj' : j < ts.length := by rw [t1]; simpa using hj
      have := t2 j _ (List.getElem?_eq_getElem hj')
      rw [arr_getD] at this
      exact oneCell_repT this
    · rw [List.getElem?_map] at hx
      cases hj : ts[j]? with
      | none => simp [hj] at hx
      | some y =>
        simp [hj] at hx
        subst hx
        have := t2 j y hj
        rw [arr_getD] at this
        exact .t this
  have hone : (∀ cs, v ≠ .agg cs) → ts.length = 1 → v.cells = #[v] → ∃ x, RepV (argR w) w v x ∧ ∃ y, x = .t y ∧ Fits P k t [y] := by
    intro _ hl hc
    match ts, hl, t2, t3 with
    | [y], _, t2, t3 =>
      have := t2 0 y rfl
      rw [hc] at this
      exact ⟨.t y, .t this, y, rfl, t3⟩
  cases k with
  | zero => simp [plainTy] at hp
  | succ k =>
    have hf3 := t3
    cases hu : P.underlying t with
    | none => simp [plainTy, hu] at hp
    | some dsc =>
      simp only [plainTy, hu] at hp
      simp only [Fits, hu] at hf3
      cases dsc with
      | struct fs =>
        obtain ⟨cs, rfl, _⟩ := okWide_struct hu hok
        obtain ⟨x, h1, h2⟩ := hagg ⟨cs, rfl⟩
        exact ⟨x, h1, by unfold ArgFit; rw [hu]; exact ⟨ts, h2, t3⟩⟩
      | array n e =>
        have hok' := hok
        simp only [Value.okWide, hu] at hok'
        obtain ⟨cs, rfl, _⟩ := hok'
        obtain ⟨x, h1, h2⟩ := hagg ⟨cs, rfl⟩
        exact ⟨x, h1, by unfold ArgFit; rw [hu]; exact ⟨ts, h2, t3⟩⟩
      | bool =>
        obtain ⟨b, hb⟩ := hf3
        obtain ⟨z, rfl⟩ := okWide_bool hu hok
        obtain ⟨x, h1, h2⟩ := hone (by intro cs h; cases h) (by rw [hb]; rfl) rfl
        exact ⟨x, h1, by unfold ArgFit; rw [hu]; exact h2⟩
      | int kd =>
        obtain ⟨b, hb, _⟩ := hf3
        obtain ⟨z, rfl⟩ := okWide_int hu hok
        obtain ⟨x, h1, h2⟩ := hone (by intro cs h; cases h) (by rw [hb]; rfl) rfl
        exact ⟨x, h1, by unfold ArgFit; rw [hu]; exact h2⟩
      | string =>
        obtain ⟨b, hb, _⟩ := hf3
        obtain ⟨z, rfl⟩ := okWide_string hu hok
        obtain ⟨x, h1, h2⟩ := hone (by intro cs h; cases h) (by rw [hb]; rfl) rfl
        exact ⟨x, h1, by unfold ArgFit; rw [hu]; exact h2⟩
      | slice e =>
        obtain ⟨b, hb, _⟩ := hf3
        obtain ⟨z1, z2, z3, rfl⟩ := okWide_slice hu hok
        obtain ⟨x, h1, h2⟩ := hone (by intro cs h; cases h) (by rw [hb]; rfl) rfl
        exact ⟨x, h1, by unfold ArgFit; rw [hu]; exact h2⟩
      | _ => cases hp
theorem args_rep {k base : Nat} {r : Reach} : ∀ (ts : List TypeId) (vs : List Value) (ds : List (DataW H)) (ps : List MemPlace), DataW.TrodAll enc P w 0 spare held ts vs ds ps → (ts.all (plainTy P k)) = true → (∀ (j : Nat) t v, ts[j]? = some t → vs[j]? = some v → Value.okWide P w r base t v) → (∀ m ∈ DataW.weightsEach P ts ds, m ≤ reachBytes) →
    ∃ xs, xs.length = vs.length ∧ (∀ j x, xs[j]? = some x → RepV (argR w) w (vs.getD j undef) x) ∧ ArgsFit P k ts xs
  | [], vs, ds, ps, h, _, _, _ => by
    cases vs <;> cases ds <;> simp [DataW.TrodAll] at h
    exact ⟨[], rfl, by simp, rfl⟩
  | t :: ts, [], ds, ps, h, _, _, _ => by cases ds <;> simp [DataW.TrodAll] at h
  | t :: ts, v :: vs, [], ps, h, _, _, _ => by simp [DataW.TrodAll] at h
  | t :: ts, v :: vs, d :: ds, ps, h, hp, hok, hw => by
    obtain ⟨p, q, h1, h2, _⟩ := h
    simp only [List.all_cons, Bool.and_eq_true] at hp
    simp only [DataW.weightsEach, List.mem_append] at hw
    obtain ⟨x, x1, x2⟩ := arg_rep h1 hp.1 (hok 0 t v rfl rfl) (fun m hm => hw m (.inl hm))
    obtain ⟨xs, y1, y2, y3⟩ := args_rep ts vs ds q h2 hp.2 (fun j t v ht hv => hok (j + 1) t v (by simpa using ht) (by simpa using hv)) (fun m hm => hw m (.inr hm))
    refine ⟨x :: xs, by simp [y1], fun j z hz => ?_, x, xs, rfl, x2, y3⟩
    cases j with
    | zero => simp at hz; subst hz; simpa using x1
    | succ j => simpa using y2 j z (by simpa using hz)
theorem trodAll_lt {ts : List TypeId} {vs : List Value} {ds : List (DataW H)} {ps : List MemPlace} (hl : laidOutB P = true) : ∀ {ts : List TypeId} {vs : List Value} {ds : List (DataW H)} {ps : List MemPlace} {W W' : World}, DataW.TrodAll enc P W 0 (fun _ => true) true ts vs ds ps → (∀ t ∈ ts, P.readableRec t = true ∧ t < P.types.size) → Below W.heap.size W W' →
    ∃ ps', DataW.TrodAll enc P W' 0 (fun b => decide (b < W.heap.size)) true ts vs ds ps'
  | [], vs, ds, ps, W, W', h, _, _ => by
    cases vs <;> cases ds <;> simp [DataW.TrodAll] at h
    exact ⟨[], rfl⟩
  | t :: ts, [], ds, ps, W, W', h, _, _ => by cases ds <;> simp [DataW.TrodAll] at h
  | t :: ts, v :: vs, [], ps, W, W', h, _, _ => by simp [DataW.TrodAll] at h
  | t :: ts, v :: vs, d :: ds, ps, W, W', h, hr, hb => by
    obtain ⟨p, q, h1, h2, _⟩ := h
    obtain ⟨r1, r2⟩ := hr t List.mem_cons_self
    have hlt : ∀ x ∈ p, x.block < W.heap.size := by
      obtain ⟨m, hm⟩ := h1
      exact DataW.trod_lt m _ _ _ hm
    obtain ⟨q', hq⟩ := trodAll_lt (ts := ts) (vs := vs) (ds := ds) (ps := q) hl h2 (fun u hu => hr u (List.mem_cons_of_mem _ hu)) hb
    exact ⟨p ++ q', p, q', Below.trod hl r1 r2 h1 hb hlt, hq, rfl⟩
theorem law_calls {C : Cfg} {f : FuncId} {k base : Nat} {r : Reach} (hC : CfgOk P C) (hl : laidOutB P = true) {ts : List TypeId} (hp : ts.all (plainTy P k) = true) (hr : ∀ t ∈ ts, P.readableRec t = true ∧ t < P.types.size) (hev : ∀ xs, ArgsFit P k ts xs → ∃ n h c, run C n f xs [] 0 = some (.t (.b true), h, c))
    {W : World} {args : Array Value} {ds : List (DataW H)} {ps : List MemPlace} (hA : DataW.TrodAll enc P W 0 (fun _ => true) true ts args.toList ds ps) (hval : ∀ (j : Nat) t v, ts[j]? = some t → args[j]? = some v → Value.okWide P W r base t v) (hsz : (DataW.weightsEach P ts ds).all (· ≤ reachBytes) = true) (hgl : (∀ g, globB g → g < W.heap.size) ∧ globOk W) :
    Calls P f args W fun e W' => e = .returned (.bool true) ∧ Below W.heap.size W W' ∧ ∃ ps', DataW.TrodAll enc P W' 0 (fun b => decide (b < W.heap.size)) true ts args.toList ds ps' := by
  obtain ⟨xs, x1, x2, x3⟩ := args_rep (k := k) ts args.toList ds ps hA hp (fun j t v ht hv => hval j t v ht (by simpa using hv)) (fun m hm => by simpa using List.all_eq_true.1 hsz m hm)
  obtain ⟨n, h, c, hrun⟩ := hev xs x3
  obtain ⟨_, g2⟩ := (all_ok hC n).1 f xs [] 0 _ h c hrun (argR W) W args (argR_inv W hgl) ⟨by simpa using x1.symm, fun j v hv => by have := x2 j v hv; rwa [arr_getD] at this⟩
  refine g2.mono ?_
  rintro e W' ⟨v, R', rfl, hv, hg, _⟩
  have hno : ∀ g, ¬ Own (argR W) [] g := by rintro g ⟨k, o, n, h, _⟩; cases h
  have hb : Below W.heap.size W W' := ⟨hg.os, hg.tape, hg.output, hg.size, fun g hgl => hg.keep g hgl (hno g)⟩
  exact ⟨by rw [repV_b hv], hb, trodAll_lt (ts := ts) (vs := args.toList) (ds := ds) (ps := ps) hl hA hr hb⟩
end
end
section
section
variable {P : Program} {n : Nat} {t : TypeId} {ts : List T}
theorem fits_int {k : IntKind} (hu : P.underlying t = some (.int k)) (h : Fits P (n + 1) t ts) : ∃ m, ts = [.i k m] ∧ (Lit.int k m).wf = true := by
  simpa only [Fits, hu] using h
theorem argFit_int {k : Nat} {kd : IntKind} {x : V} (hu : P.underlying t = some (.int kd)) (h : ArgFit P (k + 1) t x) : ∃ m, x = .t (.i kd m) ∧ (Lit.int kd m).wf = true := by
  unfold ArgFit at h
  rw [hu] at h
  obtain ⟨y, rfl, h⟩ := h
  obtain ⟨m, hm, hw⟩ := fits_int hu h
  cases hm
  exact ⟨m, rfl, hw⟩
theorem argsFit_cons {k : Nat} {t : TypeId} {ts : List TypeId} {xs : List V} (h : ArgsFit P k (t :: ts) xs) : ∃ x r, xs = x :: r ∧ ArgFit P k t x ∧ ArgsFit P k ts r := by
  obtain ⟨x, r, rfl, h1, h2⟩ := h
  exact ⟨x, r, rfl, h1, h2⟩
theorem argsFit_nil {k : Nat} {xs : List V} (h : ArgsFit P k [] xs) : xs = [] := h
end
end
end Go.Pev
namespace Go.Pev
open Go
open Classical in
noncomputable def limOf {α : Type} (f : Nat → Option α) : Option α := if h : ∃ n, ∃ r, f n = some r then some (Classical.choose (Classical.choose_spec h)) else none
section
def MonoN {α : Type} (f : Nat → Option α) : Prop := ∀ n r, f n = some r → f (n + 1) = some r
theorem MonoN.le {α : Type} {f : Nat → Option α} (h : MonoN f) {n m : Nat} (hnm : n ≤ m) {r : α} (hr : f n = some r) : f m = some r := by
  induction hnm with
  | refl => exact hr
  | step _ ih => exact h _ _ ih
theorem limOf_iff {α : Type} {f : Nat → Option α} (h : MonoN f) (r : α) : limOf f = some r ↔ ∃ n, f n = some r := by
  unfold limOf
  constructor
  · intro hr
    split at hr
    · rename_i he
      cases hr
      exact ⟨_, Classical.choose_spec (Classical.choose_spec he)⟩
    · cases hr
  · rintro ⟨n, hn⟩
    have he : ∃ n, ∃ r, f n = some r := ⟨n, r, hn⟩
    rw [dif_pos he]
    have h1 := Classical.choose_spec (Classical.choose_spec he)
    rcases Nat.le_total n (Classical.choose he) with hl | hl
    · have := h.le hl hn
      exact h1.symm.trans this
    · have := h.le hl h1
      exact congrArg some (Option.some.inj (this.symm.trans hn))
def RLe (a b : Run) : Prop := ∀ f args h ck r, a f args h ck = some r → b f args h ck = some r
section
variable {C : Cfg}
theorem callPure_le {a b : Run} (h : RLe a b) {f : Nat} {args : List V} {r : V × HP} (hr : callPure a f args = some r) : callPure b f args = some r := by
  unfold callPure at hr ⊢
  cases h1 : a f args [] 0 with
  | none => simp [h1] at hr
  | some x => rw [h _ _ _ _ _ h1]; rw [h1] at hr; exact hr
theorem callEv_le {a b : Run} (h : RLe a b) {f : Nat} {args : List V} {s : St} {k : Key} {r : V × HP × Nat} (hr : callEv C a f args s k = some r) : callEv C b f args s k = some r := by
  unfold callEv at hr ⊢
  by_cases hm : C.hpm f = true
  · rw [if_pos hm] at hr ⊢
    cases h1 : a f args s.hp (s.ck + 1) with
    | none => simp [h1] at hr
    | some x => rw [h _ _ _ _ _ h1]; rw [h1] at hr; exact hr
  · rw [if_neg hm] at hr ⊢
    cases hp : puresOf s.hp args with
    | none => simp [hp] at hr
    | some ps =>
      rw [hp] at hr
      simp only at hr ⊢
      cases h1 : callPure a f ps with
      | none => simp [h1] at hr
      | some x => rw [callPure_le h h1]; rw [h1] at hr; exact hr
theorem callQ_le {a b : Run} (h : RLe a b) {f : Nat} {args : List V} {hp : HP} {r : V} (hr : callQ a f args hp = some r) : callQ b f args hp = some r := by
  unfold callQ at hr ⊢
  cases hps : puresOf hp args with
  | none => simp [hps] at hr
  | some ps =>
    rw [hps] at hr
    simp only at hr ⊢
    cases h1 : callPure a f ps with
    | none => simp [h1] at hr
    | some x => rw [callPure_le h h1]; rw [h1] at hr; exact hr
theorem callO_le {a b : Run} (h : RLe a b) {f : Nat} {args : List V} {hp : HP} {k : Key} {r : V × Ob} (hr : callO C a f args hp k = some r) : callO C b f args hp k = some r := by
  unfold callO at hr ⊢
  cases hf : args.flatMap (keysOf hp) with
  | cons _ _ => rw [hf] at hr; cases hr
  | nil =>
    rw [hf] at hr
    cases hps : puresOf hp args with
    | none => rw [hps] at hr; cases hr
    | some ps =>
      rw [hps] at hr
      simp only at hr ⊢
      cases h1 : callPure a f ps with
      | none => rw [h1] at hr; cases hr
      | some x => rw [callPure_le h h1]; rw [h1] at hr; exact hr
theorem evPo_le {a b : Run} (h : RLe a b) {d me : Nat} {s : St} {p : Po} {r : V × HP × Nat} (hr : evPo C a d me s p = some r) : evPo C b d me s p = some r := by
  cases p
  case call f as => simp only [evPo] at hr ⊢; exact callEv_le h hr
  case callo f as =>
    simp only [evPo] at hr ⊢
    by_cases hn : (as.map (·.ev s.env)).all noFn = true
    case neg => rw [if_neg hn] at hr; cases hr
    rw [if_pos hn] at hr ⊢
    cases h1 : callO C a f (as.map (·.ev s.env)) s.hp ⟨d, s.ck, me⟩ with
    | none => simp [h1] at hr
    | some x => rw [callO_le h h1]; rw [h1] at hr; exact hr
  case callK f as =>
    simp only [evPo] at hr ⊢
    cases h1 : callEv C a f (as.map (·.ev s.env)) s ⟨d, s.ck, me⟩ with
    | none => simp [h1] at hr
    | some x => rw [callEv_le h h1]; rw [h1] at hr; exact hr
  case callR f as =>
    simp only [evPo] at hr ⊢
    cases h1 : callEv C a f (as.map (·.ev s.env)) s ⟨d, s.ck, me⟩ with
    | none => simp [h1] at hr
    | some x => rw [callEv_le h h1]; rw [h1] at hr; exact hr
  case callq f as =>
    simp only [evPo] at hr ⊢
    cases h1 : callQ a f (as.map (·.ev s.env)) s.hp with
    | none => simp [h1] at hr
    | some x => rw [callQ_le h h1]; rw [h1] at hr; exact hr
  case callv x as =>
    simp only [evPo] at hr ⊢
    split at hr
    · exact callEv_le h hr
    · cases hr
  all_goals exact hr
theorem evG_le {a b : Run} (h : RLe a b) {me : Nat} {s : St} {p : Pop} {r : V × HP × Nat} (hr : evG C a me p s = some r) : evG C b me p s = some r := by
  unfold evG at hr ⊢
  split at hr
  · exact evPo_le h hr
  · split at hr
    · rename_i t want _ _ x hx
      by_cases hw : x = want
      · rw [if_pos hw] at hr ⊢
        exact evPo_le h hr
      · rw [if_neg hw] at hr ⊢
        exact hr
    · exact hr
    · cases hr
theorem evOps_le {a b : Run} (h : RLe a b) : ∀ {qs : List (Nat × Pop)} {s : St} {r : St}, evOps C a qs s = some r → evOps C b qs s = some r
  | [], s, r, hr => hr
  | (i, p) :: qs, s, r, hr => by
    simp only [evOps] at hr ⊢
    unfold evOp at hr ⊢
    cases h1 : evG C a i p s with
    | none => simp [h1] at hr
    | some x =>
      rw [evG_le h h1]
      rw [h1] at hr
      exact evOps_le h hr
def ELe (a b : Pc → St → Option (Ex × St)) : Prop := ∀ c s r, a c s = some r → b c s = some r
theorem thenC_le {x y : Option (Ex × St)} {k l : St → Option (Ex × St)} (h1 : ∀ r, x = some r → y = some r) (h2 : ∀ s r, k s = some r → l s = some r) {r : Ex × St} (hr : thenC x k = some r) : thenC y l = some r := by
  cases x with
  | none => simp [thenC] at hr
  | some x =>
    rw [h1 x rfl]
    obtain ⟨e, s⟩ := x
    cases e with
    | normal => exact h2 _ _ hr
    | exit _ => exact hr
    | ret => exact hr
theorem blockC_le {x y : Option (Ex × St)} (h1 : ∀ r, x = some r → y = some r) {id : Nat} {r : Ex × St} (hr : blockC id x = some r) : blockC id y = some r := by
  cases x with
  | none => simp [blockC] at hr
  | some x => rw [h1 x rfl]; exact hr
theorem evStep_le {a b : Run} {e e' : Pc → St → Option (Ex × St)} (h : RLe a b) (he : ELe e e') {c : Pc} {s : St} {r : Ex × St} (hr : evStep C a e c s = some r) : evStep C b e' c s = some r := by
  cases c with
  | skip => exact hr
  | exit _ => exact hr
  | ret => exact hr
  | reg ops k kh =>
    simp only [evStep] at hr ⊢
    cases h1 : evOps C a ops s with
    | none => simp [h1] at hr
    | some x => rw [evOps_le h h1]; rw [h1] at hr; exact hr
  | seq x y => exact thenC_le (he _ _) (he _) hr
  | loop x => exact thenC_le (he _ _) (he _) hr
  | block id x => exact blockC_le (he _ _) hr
  | cond t x y =>
    simp only [evStep] at hr ⊢
    split at hr
    · exact he _ _ _ hr
    · exact he _ _ _ hr
    · cases hr
theorem runFn_le {e e' : Pc → St → Option (Ex × St)} (he : ELe e e') {fn : Pfn} {args : List V} {h : HP} {ck : Nat} {r : V × HP × Nat} (hr : runFn e fn args h ck = some r) : runFn e' fn args h ck = some r := by
  unfold runFn at hr ⊢
  split at hr
  · rename_i hl
    rw [if_pos hl]
    cases h1 : e fn.body ⟨envOf 0 args, h, ck⟩ with
    | none => simp [h1] at hr
    | some x => rw [he _ _ _ h1]; rw [h1] at hr; exact hr
  · cases hr
theorem runWith_le {e e' : Pc → St → Option (Ex × St)} (he : ELe e e') : RLe (runWith C e) (runWith C e') := by
  intro f args h ck r hr
  unfold runWith at hr ⊢
  split at hr
  · exact hr
  · split at hr
    · cases hr
    · exact runFn_le he hr
theorem mono_all : ∀ n, RLe (run C n) (run C (n + 1)) ∧ ELe (ev C n) (ev C (n + 1))
  | 0 => ⟨fun f args h ck r hr => by simp [run] at hr, fun c s r hr => by simp [ev] at hr⟩
  | n + 1 => by
    obtain ⟨h1, h2⟩ := mono_all n
    refine ⟨fun f args h ck r hr => ?_, fun c s r hr => ?_⟩
    · simp only [run] at hr ⊢
      exact runWith_le h2 f args h ck r hr
    · rw [ev] at hr ⊢
      exact evStep_le h1 h2 hr
noncomputable def runL (C : Cfg) : Run := fun f args h ck => limOf fun n => run C n f args h ck
noncomputable def evL (C : Cfg) (c : Pc) (s : St) : Option (Ex × St) := limOf fun n => ev C n c s
theorem runL_iff {f : Nat} {args : List V} {h : HP} {ck : Nat} (r : V × HP × Nat) : runL C f args h ck = some r ↔ ∃ n, run C n f args h ck = some r :=
  limOf_iff (fun n r hr => (mono_all n).1 _ _ _ _ _ hr) r
theorem evL_iff {c : Pc} {s : St} (r : Ex × St) : evL C c s = some r ↔ ∃ n, ev C n c s = some r :=
  limOf_iff (fun n r hr => (mono_all n).2 _ _ _ hr) r
theorem run_le {n m : Nat} (h : n ≤ m) : RLe (run C n) (run C m) := fun f args hh ck r hr => MonoN.le (f := fun n => run C n f args hh ck) (fun n r hr => (mono_all n).1 _ _ _ _ _ hr) h hr
theorem ev_le {n m : Nat} (h : n ≤ m) : ELe (ev C n) (ev C m) := fun c s r hr => MonoN.le (f := fun n => ev C n c s) (fun n r hr => (mono_all n).2 _ _ _ hr) h hr
theorem run_lim (n : Nat) : RLe (run C n) (runL C) := fun f args h ck r hr => (runL_iff r).2 ⟨n, hr⟩
theorem ev_lim (n : Nat) : ELe (ev C n) (evL C) := fun c s r hr => (evL_iff r).2 ⟨n, hr⟩
theorem callPure_cont {f : Nat} {args : List V} {r : V × HP} (hr : callPure (runL C) f args = some r) : ∃ n, callPure (run C n) f args = some r := by
  unfold callPure at hr
  cases h1 : runL C f args [] 0 with
  | none => simp [h1] at hr
  | some x =>
    obtain ⟨n, hn⟩ := (runL_iff x).1 h1
    refine ⟨n, ?_⟩
    unfold callPure
    rw [hn]
    rw [h1] at hr
    exact hr
theorem callEv_cont {f : Nat} {args : List V} {s : St} {k : Key} {r : V × HP × Nat} (hr : callEv C (runL C) f args s k = some r) : ∃ n, callEv C (run C n) f args s k = some r := by
  unfold callEv at hr
  by_cases hm : C.hpm f = true
  · rw [if_pos hm] at hr
    cases h1 : runL C f args s.hp (s.ck + 1) with
    | none => simp [h1] at hr
    | some x =>
      obtain ⟨n, hn⟩ := (runL_iff x).1 h1
      refine ⟨n, ?_⟩
      unfold callEv
      rw [if_pos hm, hn]
      rw [h1] at hr
      exact hr
  · rw [if_neg hm] at hr
    cases hp : puresOf s.hp args with
    | none => simp [hp] at hr
    | some ps =>
      rw [hp] at hr
      simp only at hr
      cases h1 : callPure (runL C) f ps with
      | none => simp [h1] at hr
      | some x =>
        obtain ⟨n, hn⟩ := callPure_cont h1
        refine ⟨n, ?_⟩
        unfold callEv
        rw [if_neg hm, hp]
        simp only
        rw [hn]
        rw [h1] at hr
        exact hr
theorem callQ_cont {f : Nat} {args : List V} {hp : HP} {r : V} (hr : callQ (runL C) f args hp = some r) : ∃ n, callQ (run C n) f args hp = some r := by
  unfold callQ at hr
  cases hps : puresOf hp args with
  | none => simp [hps] at hr
  | some ps =>
    rw [hps] at hr
    simp only at hr
    cases h1 : callPure (runL C) f ps with
    | none => simp [h1] at hr
    | some x =>
      obtain ⟨n, hn⟩ := callPure_cont h1
      refine ⟨n, ?_⟩
      unfold callQ
      rw [hps]
      simp only
      rw [hn]
      rw [h1] at hr
      exact hr
theorem callO_cont {f : Nat} {args : List V} {hp : HP} {k : Key} {r : V × Ob} (hr : callO C (runL C) f args hp k = some r) : ∃ n, callO C (run C n) f args hp k = some r := by
  unfold callO at hr
  cases hf : args.flatMap (keysOf hp) with
  | cons _ _ => rw [hf] at hr; cases hr
  | nil =>
    rw [hf] at hr
    cases hps : puresOf hp args with
    | none => rw [hps] at hr; cases hr
    | some ps =>
      rw [hps] at hr
      simp only at hr
      cases h1 : callPure (runL C) f ps with
      | none => rw [h1] at hr; cases hr
      | some x =>
        obtain ⟨n, hn⟩ := callPure_cont h1
        refine ⟨n, ?_⟩
        unfold callO
        rw [hf, hps]
        simp only
        rw [hn]
        rw [h1] at hr
        exact hr
theorem evPo_cont {d me : Nat} {s : St} {p : Po} {r : V × HP × Nat} (hr : evPo C (runL C) d me s p = some r) : ∃ n, evPo C (run C n) d me s p = some r := by
  cases p
  case call f as => simp only [evPo] at hr ⊢; exact callEv_cont hr
  case callo f as =>
    simp only [evPo] at hr ⊢
    by_cases hn : (as.map (·.ev s.env)).all noFn = true
    case neg => rw [if_neg hn] at hr; cases hr
    simp only [if_pos hn] at hr ⊢
    cases h1 : callO C (runL C) f (as.map (·.ev s.env)) s.hp ⟨d, s.ck, me⟩ with
    | none => simp [h1] at hr
    | some x =>
      obtain ⟨n, hn⟩ := callO_cont h1
      refine ⟨n, ?_⟩
      rw [hn]; rw [h1] at hr; exact hr
  case callK f as =>
    simp only [evPo] at hr ⊢
    cases h1 : callEv C (runL C) f (as.map (·.ev s.env)) s ⟨d, s.ck, me⟩ with
    | none => simp [h1] at hr
    | some x =>
      obtain ⟨n, hn⟩ := callEv_cont h1
      refine ⟨n, ?_⟩
      rw [hn]; rw [h1] at hr; exact hr
  case callR f as =>
    simp only [evPo] at hr ⊢
    cases h1 : callEv C (runL C) f (as.map (·.ev s.env)) s ⟨d, s.ck, me⟩ with
    | none => simp [h1] at hr
    | some x =>
      obtain ⟨n, hn⟩ := callEv_cont h1
      refine ⟨n, ?_⟩
      rw [hn]; rw [h1] at hr; exact hr
  case callq f as =>
    simp only [evPo] at hr ⊢
    cases h1 : callQ (runL C) f (as.map (·.ev s.env)) s.hp with
    | none => simp [h1] at hr
    | some x =>
      obtain ⟨n, hn⟩ := callQ_cont h1
      refine ⟨n, ?_⟩
      rw [hn]; rw [h1] at hr; exact hr
  case callv x as =>
    simp only [evPo] at hr ⊢
    cases hx : x.ev s.env <;> rw [hx] at hr <;> first
      | (cases hr; done)
      | exact callEv_cont hr
  all_goals exact ⟨0, hr⟩
theorem evG_cont {me : Nat} {s : St} {p : Pop} {r : V × HP × Nat} (hr : evG C (runL C) me p s = some r) : ∃ n, evG C (run C n) me p s = some r := by
  unfold evG at hr ⊢
  split at hr
  · exact evPo_cont hr
  · split at hr
    · rename_i t want _ _ x hx
      by_cases hw : x = want
      · rw [if_pos hw] at hr
        obtain ⟨n, hn⟩ := evPo_cont hr
        exact ⟨n, by rw [if_pos hw]; exact hn⟩
      · rw [if_neg hw] at hr
        exact ⟨0, by rw [if_neg hw]; exact hr⟩
    · exact ⟨0, hr⟩
    · cases hr
theorem evOps_cont : ∀ {qs : List (Nat × Pop)} {s : St} {r : St}, evOps C (runL C) qs s = some r → ∃ n, evOps C (run C n) qs s = some r
  | [], s, r, hr => ⟨0, hr⟩
  | (i, p) :: qs, s, r, hr => by
    simp only [evOps] at hr
    unfold evOp at hr
    cases h1 : evG C (runL C) i p s with
    | none => simp [h1] at hr
    | some x =>
      rw [h1] at hr
      simp only [Option.map_some] at hr
      obtain ⟨n, hn⟩ := evG_cont h1
      obtain ⟨m, hm⟩ := evOps_cont hr
      refine ⟨max n m, ?_⟩
      simp only [evOps]
      unfold evOp
      rw [evG_le (run_le (Nat.le_max_left n m)) hn]
      exact evOps_le (run_le (Nat.le_max_right n m)) hm
theorem thenC_cont {a b : Pc} {s : St} {r : Ex × St} (hr : thenC (evL C a s) (evL C b) = some r) : ∃ n, thenC (ev C n a s) (ev C n b) = some r := by
  cases h1 : evL C a s with
  | none => simp [h1, thenC] at hr
  | some x =>
    obtain ⟨n, hn⟩ := (evL_iff x).1 h1
    rw [h1] at hr
    obtain ⟨e, s1⟩ := x
    cases e with
    | normal =>
      obtain ⟨m, hm⟩ := (evL_iff r).1 hr
      refine ⟨max n m, ?_⟩
      rw [ev_le (Nat.le_max_left n m) _ _ _ hn]
      exact ev_le (Nat.le_max_right n m) _ _ _ hm
    | exit id => exact ⟨n, by rw [hn]; exact hr⟩
    | ret => exact ⟨n, by rw [hn]; exact hr⟩
theorem evL_eq (c : Pc) (s : St) : evL C c s = evStep C (runL C) (evL C) c s := by
  apply Option.ext
  intro r
  constructor
  · intro h
    obtain ⟨n, hn⟩ := (evL_iff r).1 h
    cases n with
    | zero => simp [ev] at hn
    | succ n =>
      rw [ev] at hn
      exact evStep_le (run_lim n) (ev_lim n) hn
  · intro h
    refine (evL_iff r).2 ?_
    have : ∃ n, evStep C (run C n) (ev C n) c s = some r := by
      cases c with
      | skip => exact ⟨0, h⟩
      | exit _ => exact ⟨0, h⟩
      | ret => exact ⟨0, h⟩
      | reg ops k kh =>
        simp only [evStep] at h ⊢
        cases h1 : evOps C (runL C) ops s with
        | none => simp [h1] at h
        | some x =>
          obtain ⟨n, hn⟩ := evOps_cont h1
          exact ⟨n, by rw [hn]; rw [h1] at h; exact h⟩
      | seq x y => exact thenC_cont h
      | loop x => exact thenC_cont h
      | block id x =>
        simp only [evStep] at h ⊢
        cases h1 : evL C x s with
        | none => simp [h1, blockC] at h
        | some y =>
          obtain ⟨n, hn⟩ := (evL_iff y).1 h1
          exact ⟨n, by rw [hn]; rw [h1] at h; exact h⟩
      | cond t x y =>
        simp only [evStep] at h ⊢
        split at h
        · rename_i hb
          obtain ⟨n, hn⟩ := (evL_iff r).1 h
          exact ⟨n, hn⟩
        · rename_i hb
          obtain ⟨n, hn⟩ := (evL_iff r).1 h
          exact ⟨n, hn⟩
        · cases h
    obtain ⟨n, hn⟩ := this
    exact ⟨n + 1, by rw [ev]; exact hn⟩
theorem runL_eq (f : Nat) (args : List V) (h : HP) (ck : Nat) : runL C f args h ck = runWith C (evL C) f args h ck := by
  apply Option.ext
  intro r
  constructor
  · intro hr
    obtain ⟨n, hn⟩ := (runL_iff r).1 hr
    cases n with
    | zero => simp [run] at hn
    | succ n =>
      rw [run] at hn
      exact runWith_le (ev_lim n) _ _ _ _ _ hn
  · intro hr
    refine (runL_iff r).2 ?_
    have : ∃ n, runWith C (ev C n) f args h ck = some r := by
      unfold runWith at hr ⊢
      split at hr
      · exact ⟨0, hr⟩
      · split at hr
        · cases hr
        · rename_i fn _
          unfold runFn at hr ⊢
          split at hr
          · rename_i hl
            cases h1 : evL C fn.body ⟨envOf 0 args, h, ck⟩ with
            | none => simp [h1] at hr
            | some x =>
              obtain ⟨n, hn⟩ := (evL_iff x).1 h1
              refine ⟨n, ?_⟩
              rw [if_pos hl, hn]
              rw [h1] at hr
              exact hr
          · cases hr
    obtain ⟨n, hn⟩ := this
    exact ⟨n + 1, by rw [run]; exact hn⟩
theorem evL_skip (s : St) : evL C .skip s = some (.normal, s) := evL_eq _ _
theorem evL_exit (id : Nat) (s : St) : evL C (.exit id) s = some (.exit id, s) := evL_eq _ _
theorem evL_ret (s : St) : evL C .ret s = some (.ret, s) := evL_eq _ _
theorem evL_reg (ops : List (Nat × Pop)) (k kh : List Nat) (s : St) : evL C (.reg ops k kh) s = (evOps C (runL C) ops s).bind fun s' => some (.normal, endReg k kh s') := by
  rw [evL_eq]
  simp only [evStep]
  cases evOps C (runL C) ops s <;> rfl
theorem evL_seq (a b : Pc) (s : St) : evL C (.seq a b) s = thenC (evL C a s) (evL C b) := evL_eq _ _
theorem evL_block (id : Nat) (a : Pc) (s : St) : evL C (.block id a) s = blockC id (evL C a s) := evL_eq _ _
theorem evL_loop (a : Pc) (s : St) : evL C (.loop a) s = thenC (evL C a s) (evL C (.loop a)) := evL_eq _ _
theorem evL_cond (x : Opd) (a b : Pc) (s : St) : evL C (.cond x a b) s = (match x.ev s.env with
    | .t (.b true) => evL C a s
    | .t (.b false) => evL C b s
    | _ => none) := evL_eq _ _
theorem runL_pf {f : Nat} {fn : Pfn} (h1 : C.ex f = none) (h2 : C.pf f = some fn) (args : List V) (h : HP) (ck : Nat) : runL C f args h ck = runFn (evL C) fn args h ck := by
  rw [runL_eq]
  unfold runWith
  rw [h1, h2]
theorem runL_ex {f : Nat} {p : List V → HP → Nat → Option (V × HP × Nat)} (h1 : C.ex f = some p) (args : List V) (h : HP) (ck : Nat) : runL C f args h ck = p args h ck := by
  rw [runL_eq]
  unfold runWith
  rw [h1]
end
end
end Go.Pev
namespace Go.Pev
open Go
section
section
variable {C : Cfg} {run : Run}
def bnd {α β : Type} (x : Option α) (k : α → Option β) : Option β := x.bind k
theorem bnd_some {α β : Type} (a : α) (k : α → Option β) : bnd (some a) k = k a := id rfl
@[congr] theorem bnd_congr {α β : Type} {x y : Option α} (k : α → Option β) (h : x = y) : bnd x k = bnd y k := by rw [h]
@[congr] theorem evOps_congr {qs : List (Nat × Pop)} {s s' : St} (h : s = s') : evOps C run qs s = evOps C run qs s' := by rw [h]
@[congr] theorem evL_congr {c : Pc} {s s' : St} (h : s = s') : evL C c s = evL C c s' := by rw [h]
@[congr] theorem thenC_congr {x y : Option (Ex × St)} {k : St → Option (Ex × St)} (h : x = y) : thenC x k = thenC y k := by rw [h]
theorem evL_rg (ops : List (Nat × Pop)) (k kh : List Nat) (s : St) : evL C (.reg ops k kh) s = bnd (evOps C (runL C) ops s) fun s' => some (.normal, endReg k kh s') := evL_reg ops k kh s
theorem evOps_nil (s : St) : evOps C run [] s = some s := id rfl
theorem evOps_c (i : Nat) (p : Pop) (qs : List (Nat × Pop)) (s : St) : evOps C run ((i, p) :: qs) s = bnd (evG C run i p s) fun r => evOps C run qs ⟨putD s.env p.dst r.1, r.2.1, r.2.2⟩ := by
  simp only [evOps, evOp, bnd]
  cases evG C run i p s <;> rfl
theorem evG_none (i : Nat) (d : Option Nat) (p : Po) (s : St) : evG C run i ⟨d, p, none⟩ s = evPo C run (d.getD 0) i s p := id rfl
def gcase {α : Type} (v : V) (b : Bool) (x y : Option α) : Option α := match v with
  | .t (.b c) => if c = b then x else y
  | .ud => y
  | _ => none
@[congr] theorem gcase_congr {α : Type} {v v' : V} {b : Bool} {x y : Option α} (h : v = v') : gcase v b x y = gcase v' b x y := by rw [h]
theorem gcase_tt {α : Type} (x y : Option α) : gcase (.t (.b true)) true x y = x := id rfl
theorem gcase_tf {α : Type} (x y : Option α) : gcase (.t (.b true)) false x y = y := id rfl
theorem gcase_ft {α : Type} (x y : Option α) : gcase (.t (.b false)) true x y = y := id rfl
theorem gcase_ff {α : Type} (x y : Option α) : gcase (.t (.b false)) false x y = x := id rfl
theorem gcase_ud {α : Type} (b : Bool) (x y : Option α) : gcase .ud b x y = y := id rfl
theorem evG_some (i : Nat) (d : Option Nat) (p : Po) (t : Nat) (b : Bool) (s : St) : evG C run i ⟨d, p, some (t, b)⟩ s = gcase (s.env.get t) b (evPo C run (d.getD 0) i s p) (some (.ud, s.hp, s.ck)) := by
  simp only [evG, gcase]
  generalize s.env.get t = v
  cases v with
  | t x => cases x <;> rfl
  | _ => rfl
def brc {α : Type} (v : V) (x y : Option α) : Option α := match v with
  | .t (.b true) => x
  | .t (.b false) => y
  | _ => none
@[congr] theorem brc_congr {α : Type} {v v' : V} {x y : Option α} (h : v = v') : brc v x y = brc v' x y := by rw [h]
theorem brc_t {α : Type} (x y : Option α) : brc (.t (.b true)) x y = x := id rfl
theorem brc_f {α : Type} (x y : Option α) : brc (.t (.b false)) x y = y := id rfl
theorem evL_cd (x : Opd) (a b : Pc) (s : St) : evL C (.cond x a b) s = brc (x.ev s.env) (evL C a s) (evL C b s) := by
  rw [evL_cond]
  rfl
theorem thenC_n (s : St) (k : St → Option (Ex × St)) : thenC (some (.normal, s)) k = k s := id rfl
theorem thenC_e (eid : Nat) (s : St) (k : St → Option (Ex × St)) : thenC (some (.exit eid, s)) k = some (.exit eid, s) := id rfl
theorem thenC_r (s : St) (k : St → Option (Ex × St)) : thenC (some (.ret, s)) k = some (.ret, s) := id rfl
theorem blockC_n (eid : Nat) (s : St) : blockC eid (some (.normal, s)) = some (.normal, s) := id rfl
theorem blockC_r (eid : Nat) (s : St) : blockC eid (some (.ret, s)) = some (.ret, s) := id rfl
theorem blockC_e (eid i : Nat) (s : St) : blockC eid (some (.exit i, s)) = if i = eid then some (.normal, s) else some (.exit i, s) := id rfl
theorem putD_s (e : Env) (d : Nat) (v : V) : putD e (some d) v = e.put d v := id rfl
theorem putD_n (e : Env) (v : V) : putD e none v = e := id rfl
theorem envput (e : Env) (t : Nat) (v : V) : Env.put e t v = (t, v) :: e := id rfl
theorem envget_cons (t' : Nat) (v' : V) (r : Env) (t : Nat) : Env.get ((t', v') :: r) t = if t' = t then v' else Env.get r t := id rfl
theorem hpget_cons (k' : Key) (o' : Ob) (r : HP) (k : Key) : HP.get ((k', o') :: r) k = if k' = k then some o' else HP.get r k := id rfl
theorem hpput_cons (k' : Key) (o' : Ob) (r : HP) (k k2 : Key) (o : Ob) : HP.put ((k', o') :: r) k k2 o = if k' = k then (k2, o) :: r else (k', o') :: HP.put r k k2 o := id rfl
theorem keep_nil (e : Env) : Env.keep [] e = [] := id rfl
theorem keep_cons (t : Nat) (ts : List Nat) (e : Env) : Env.keep (t :: ts) e = (t, e.get t) :: Env.keep ts e := id rfl
theorem endReg_e (k kh : List Nat) (s : St) : endReg k kh s = ⟨Env.keep k s.env, s.hp.filter (fun p => !kh.contains p.1.s), s.ck + 1⟩ := id rfl
end
def clo0 (ty sz : Nat) : List (Nat × Pop) := [(0, ⟨some 2, .nilv ty sz, none⟩)]
def clo1 : List (Nat × Pop) := [(0, ⟨some 3, .mv (.tmp 0), none⟩), (1, ⟨some 4, .isnilS false (.tmp 3), none⟩)]
def clo3 (ty sz by_ : Nat) : List (Nat × Pop) := [(0, ⟨some 5, .bslO ty sz [], none⟩), (1, ⟨some 6, .mv (.tmp 0), none⟩), (2, ⟨some 7, .app ty sz by_ (.tmp 5) (.tmp 6), none⟩), (3, ⟨some 2, .mv (.tmp 7), none⟩)]
def clob (ty sz by_ : Nat) : Pc := .seq (.reg (clo0 ty sz) [0] [2, 5, 7]) (.seq (.seq (.reg clo1 [0, 4] []) (.cond (.tmp 4) (.seq (.reg (clo0 ty sz) [2] []) .ret) .skip)) (.seq (.reg (clo3 ty sz by_) [2] []) .ret))
def cloF (ty sz by_ : Nat) : Pfn := ⟨1, 8, [.tmp 2], clob ty sz by_⟩
theorem clo_nil (C : Cfg) (ty sz by_ : Nat) (v : V) (hv : v = .nl ∨ v = .nz) (ck : Nat) : runFn (evL C) (cloF ty sz by_) [v] [] ck = some (.ow ⟨2, ck + 2, 0⟩ sz 0 0, [(⟨2, ck + 2, 0⟩, .row ty sz [] false)], ck + 3) := by
  rcases hv with rfl | rfl <;>
  simp [runFn, cloF, clob, clo0, clo1, clo3, evL_seq, evL_rg, bnd_some, evL_cd, brc_t, brc_f, evL_ret, evL_skip, evOps_nil, evOps_c, evG_none, evPo, Opd.ev, thenC_n, thenC_r, putD_s, envput, envget_cons, endReg_e, keep_nil, keep_cons, envOf, isNilS, results, resultsL, results1]
theorem clo_els (C : Cfg) (ty sz by_ : Nat) (v : V) (xs : List (List T)) (hv : isNilS false v = some (.t (.b false))) (hx : ∀ h, elsOf h sz v = some xs) (hb : xs.length * by_ ≤ 140737488355328) (hb0 : 0 < by_) (ck : Nat) : runFn (evL C) (cloF ty sz by_) [v] [] ck = some (.ow ⟨5, ck + 2, 2⟩ sz 0 xs.length, [(⟨5, ck + 2, 2⟩, .row ty sz xs false)], ck + 3) := by
  simp [runFn, cloF, clob, clo0, clo1, clo3, evL_seq, evL_rg, bnd_some, evL_cd, brc_t, brc_f, evL_ret, evL_skip, evOps_nil, evOps_c, evG_none, evPo, Opd.ev, thenC_n, thenC_r, putD_s, envput, envget_cons, endReg_e, keep_nil, keep_cons, envOf, hv, results, resultsL, results1, rowsOf, keysOfs, freezeAll, app, hx, hpget_cons, hpput_cons, hb, hb0]
end
end Go.Pev
namespace Go.Pev
open Go Go.RowKit
def oneC (f : Nat) (fn : Pfn) : Cfg := ⟨fun g => if g = f then some fn else none, fun _ => false, fun _ => false, fun _ => none⟩
theorem oneC_ok {P : Program} {f : Nat} {fn : Pfn} (hmx : P.follows .mixedOrders = true) {A : Ann} (hA : compF P A f = some fn) (hg : goodFn P f = true) : CfgOk P (oneC f fn) :=
  ⟨hmx, (fun g fn' h => by
    simp only [oneC] at h
    by_cases e : g = f
    · subst e; rw [if_pos rfl] at h; cases h; exact ⟨⟨A, hA⟩, hg⟩
    · rw [if_neg e] at h; cases h), (fun g p h => by cases h)⟩
theorem rename_row {R R' : Rl} {w w' : World} {h1 : HP} {ck c1 ck' : Nat} {v : Value} {k1 : Key} {ty sz : Nat} {els : List (List T)} (k0 : Key) (hk0 : R.μ k0 = none) (hc0 : k0.c < ck') (hcc : c1 ≤ ck') (hv : RepV R' w' v (.ow k1 sz 0 els.length)) (hg : Grow R w [] R' w' h1) (hi : HInv R' w' h1 c1 dn0) (hk : h1.get k1 = some (.row ty sz els false)) :
    ∃ R2, RepV R2 w' v (.ow k0 sz 0 els.length) ∧ Grow R w [] R2 w' [(k0, .row ty sz els false)] ∧ HInv R2 w' [(k0, .row ty sz els false)] ck' dn0 := by
  have hob := hi.ob _ _ hk
  obtain ⟨p, hp⟩ : ∃ p, R'.μ k1 = some p := hob.μ_some
  have hget : ∀ q o, HP.get [(k0, Ob.row ty sz els false)] q = some o → q = k0 ∧ o = .row ty sz els false := by
    intro q o hq
    simp only [HP.get] at hq
    by_cases e : k0 = q
    · rw [if_pos e] at hq; cases hq; exact ⟨e.symm, rfl⟩
    · rw [if_neg e] at hq; cases hq
  have hown : ∀ g, Own { R' with μ := updμ R'.μ k0 p } [(k0, .row ty sz els false)] g → Own R' h1 g := by
    rintro g ⟨q, o, n, g1, g2, g3⟩
    obtain ⟨rfl, rfl⟩ := hget q o g1
    simp only [updμ_same] at g3
    exact ⟨k1, _, n, hk, rfl, by rw [hp, Option.some.inj g3]⟩
  refine ⟨{ R' with μ := updμ R'.μ k0 p }, ?_, ?_, ?_⟩
  · rcases repV_ow hv with ⟨g, tot, A, cap, rfl, hμ, hl, hcap, hA⟩ | ⟨rfl, hμ, _, h0⟩
    · rw [hμ] at hp; cases hp
      exact .ow _ _ _ _ g tot A cap (updμ_same _ _ _) hl hcap hA
    · rw [hμ] at hp; cases hp
      rw [h0]
      exact .owv _ _ (updμ_same _ _ _)
  · exact ⟨hg.os, hg.tape, hg.output, hg.size, hg.keep, hg.S, hg.B, fun q p' hq => by
      show updμ R'.μ k0 p q = some p'
      rw [updμ_other _ _ _ _ (by rintro rfl; rw [hk0] at hq; cases hq)]
      exact hg.μ q p' hq, hg.S', fun g h => hg.own g (hown g h)⟩
  · constructor
    · intro q o hq
      obtain ⟨rfl, rfl⟩ := hget q o hq
      rcases hob with ⟨b1, b2⟩ | ⟨g, tot, arr, b1, b2, b3, b4, b5, b6, b7, b8, b9⟩
      · rw [hp] at b1; cases b1
        exact .inl ⟨updμ_same _ _ _, b2⟩
      · rw [hp] at b1; cases b1
        exact .inr ⟨g, tot, arr, updμ_same _ _ _, b2, b3, b4, b5, b6, b7, b8, b9⟩
    · intro q1 q2 o1 o2 g n1 n2 h1 h2 _ _ _
      rw [(hget _ _ h1).1, (hget _ _ h2).1]
    · exact fun g h => hi.own g (hown g h)
    · exact hi.sS
    · exact hi.sB
    · intro q p' hq
      by_cases e : q = k0
      · subst e; exact .inl hc0
      · simp only [updμ_other _ _ _ _ e] at hq
        rcases hi.fr q p' hq with h | h
        · exact .inl (by omega)
        · exact h.2.elim
    · simp
    · exact hi.gl
def cloneP (ty sz by_ : Nat) (args : List V) (h : HP) (ck : Nat) : Option (V × HP × Nat) :=
  match args, h with
  | [.t (.l xs)], [] => if (xs.all fun c => c.length == sz) = true ∧ xs.length * by_ ≤ 140737488355328 ∧ 0 < by_ then some (.ow ⟨0, ck, 0⟩ sz 0 xs.length, [(⟨0, ck, 0⟩, .row ty sz xs false)], ck + 9) else none
  | _, _ => none
theorem clone_ok {P : Program} {f ty sz by_ : Nat} (hmx : P.follows .mixedOrders = true) {A : Ann} (hA : compF P A f = some (cloF ty sz by_)) (hg : goodFn P f = true) : ∀ args h ck r h' ck', cloneP ty sz by_ args h ck = some (r, h', ck') → ∀ R w us, HInv R w h ck (fun _ => False) → ArgsRep R w us args → goodFn P f = true ∧ Calls P f us w (CPost R w h r h' ck' (fun _ => False)) := by
  intro args h ck r h' ck' hr R w us hi ha
  refine ⟨hg, ?_⟩
  unfold cloneP at hr
  split at hr
  · rename_i xs
    split at hr
    · rename_i hc
      obtain ⟨hall, hb, hb0⟩ := hc
      cases hr
      have hC := oneC_ok hmx hA hg
      have hfin : ∀ (v : V) (k : Key) (hh : HP), RepV R w (us.getD 0 undef) v → runFn (evL (oneC f (cloF ty sz by_))) (cloF ty sz by_) [v] [] ck = some (.ow k sz 0 xs.length, hh, ck + 3) → hh.get k = some (.row ty sz xs false) → Calls P f us w (CPost R w [] (.ow ⟨0, ck, 0⟩ sz 0 xs.length) [(⟨0, ck, 0⟩, .row ty sz xs false)] (ck + 9) (fun _ => False)) := by
        intro v k hh hv hrun hget
        have hL : runL (oneC f (cloF ty sz by_)) f [v] [] ck = some (.ow k sz 0 xs.length, hh, ck + 3) := by
          rw [runL_pf (fn := cloF ty sz by_) rfl (by simp [oneC])]
          exact hrun
        obtain ⟨n, hn⟩ := (runL_iff _).1 hL
        obtain ⟨_, g2⟩ := (all_ok hC n).1 f [v] [] ck _ _ _ hn R w us hi ⟨by rw [ha.1]; rfl, fun j x hx => by
          cases j with
          | zero => simp at hx; subst hx; exact hv
          | succ j => simp at hx⟩
        refine g2.mono ?_
        rintro e w' ⟨u, R', he, hv', hg', hi'⟩
        obtain ⟨R2, r1, r2, r3⟩ := rename_row (ck := ck) (ck' := ck + 9) ⟨0, ck, 0⟩ (hi.fresh (k := ⟨0, ck, 0⟩) rfl (fun h => h)).1 (by simp) (by omega) hv' hg' hi' hget
        exact ⟨u, R2, he, r1, r2, r3⟩
      have h0 := ha.2 0 _ rfl
      have hels : ∀ (h : HP) (v : V), treeOf h v = some (.l xs) → elsOf h sz v = some xs := by
        intro h v hv
        unfold elsOf
        rw [hv]
        simp only
        rw [if_pos hall]
      have hrep := repV_tl h0
      generalize hu : us.getD 0 undef = u at h0 hrep hfin
      cases hrep with
      | l B n c _ sz' g o f' hl hc' hB hS hsz hcell hrep =>
        cases xs with
        | nil =>
          simp at hl
          subst hl
          cases B with
          | none =>
            refine hfin .nz ⟨2, ck + 2, 0⟩ _ (.nz c) (clo_nil _ ty sz by_ .nz (.inr rfl) ck) ?_
            simp [HP.get]
          | some B =>
            refine hfin .nn ⟨5, ck + 2, 2⟩ _ (.nn B c) (clo_els _ ty sz by_ .nn [] rfl (fun h => hels h .nn rfl) hb hb0 ck) ?_
            simp [HP.get]
        | cons x xs =>
          refine hfin (.t (.l (x :: xs))) ⟨5, ck + 2, 2⟩ _ h0 (clo_els _ ty sz by_ _ _ rfl (fun h => hels h _ rfl) hb hb0 ck) ?_
          simp [HP.get]
    · cases hr
  · cases hr
end Go.Pev
namespace Go.Pev
open Go Go.RowKit Go.Sort
def intsOf : List (List T) → Option (List Int)
  | [] => some []
  | [.i .i64 n] :: r => (intsOf r).map (n :: ·)
  | _ => none
theorem intsOf_map (l : List Int) : intsOf (l.map fun n => [.i .i64 n]) = some l := by
  induction l with
  | nil => rfl
  | cons a l ih => simp [intsOf, ih]
theorem intsOf_eq : ∀ {els : List (List T)} {zs : List Int}, intsOf els = some zs → els = zs.map fun n => [.i .i64 n]
  | [], zs, h => by cases h; rfl
  | c :: r, zs, h => by
    unfold intsOf at h
    split at h
    · rename_i hnil; cases hnil
    · rename_i n r' hc
      cases hc
      obtain ⟨zs', h1, rfl⟩ := Option.map_eq_some_iff.1 h
      rw [intsOf_eq h1]; rfl
    · cases h
def srt (l : List Int) : List Int := l.mergeSort fun x y => decide (x ≤ y)
def sortP (args : List V) (h : HP) (ck : Nat) : Option (V × HP × Nat) :=
  match args with
  | [.ow k 1 0 n] => match h.get k with
    | some (.row ty 1 els false) => match intsOf els with
      | some zs => if n = els.length ∧ 0 < n ∧ n ≤ 140737488355328 then some (.tu [], h.put k k (.row ty 1 ((srt zs).map fun x => [.i .i64 x]) false), ck + 1) else none
      | none => none
    | _ => none
  | _ => none
def SortSaid (P : Program) (f : FuncId) : Prop := ∀ (blk off cap : Nat) (zs : List Int) (w : World), Holds (Value.int .i64) w blk off zs.toArray → blk < w.heap.size → zs.length < 4611686018427387904 →
  Calls P f #[.slice (some ⟨blk, off, none⟩) zs.length cap] w fun e w' => e = .returned (.tuple #[]) ∧ ∃ n os, w' = grow (putRow (Value.int .i64) (Sort.ahead w n) blk off (zs.mergeSort fun x y => decide (x ≤ y)).toArray) os
theorem sort_ok {P : Program} {f : FuncId} (hS : SortSaid P f) (hg : goodFn P f = true) : ∀ args h ck r h' ck', sortP args h ck = some (r, h', ck') → ∀ R w us, HInv R w h ck (fun _ => False) → ArgsRep R w us args → goodFn P f = true ∧ Calls P f us w (CPost R w h r h' ck' (fun _ => False)) := by
  intro args h ck r h' ck' hr R w us hi ha
  refine ⟨hg, ?_⟩
  unfold sortP at hr
  split at hr
  · rename_i k n
    split at hr
    · rename_i ty els hk
      split at hr
      · rename_i zs hz
        split at hr
        · rename_i hc
          obtain ⟨hn, hn0, hnb⟩ := hc
          cases hr
          obtain rfl := intsOf_eq hz
          have hzn : zs.length = n := by rw [hn]; simp
          have h0 := ha.2 0 _ rfl
          have hus : us = #[us.getD 0 undef] := by
            have h1 : us.size = 1 := ha.1.symm ▸ rfl
            apply Array.ext
            · simp [h1]
            · intro i hi1 hi2
              have : i = 0 := by omega
              subst this
              simp [Array.getD_eq_getD_getElem?, h1]
          rcases repV_ow h0 with ⟨g, tot, A, cap, hv, hμ, hl, hcap, hA⟩ | ⟨hv, hμ, _, hl0⟩
          · rcases hi.ob _ _ hk with ⟨b1, _⟩ | ⟨g', tot', arr, b1, b2, b3, b4, b5, b6, b7, b8, b9⟩
            · rw [hμ] at b1; cases b1
            · rw [hμ] at b1
              cases b1
              have hA' := hA (by omega)
              rw [Nat.zero_mul] at hA'
              subst hA'
              have hsz : zs.length ≤ arr.size := by rw [b3, Nat.mul_one]; simpa using b4
              have hcell : ∀ j, (hj : j < zs.length) → arr.getD j undef = .int .i64 zs[j] := by
                intro j hj
                have := b8 j 0 (.i .i64 zs[j]) (by simp [at2, hj])
                rw [Nat.mul_one, Nat.add_zero] at this
                generalize arr.getD j undef = u at this
                cases this; rfl
              have hH : Holds (Value.int .i64) w g 0 zs.toArray := by
                intro j hj
                have hj' : j < zs.length := by simpa using hj
                refine ⟨?_, ?_⟩
                · rw [b2.cell, Nat.zero_add, getD_of_getElem? (by omega), hcell j hj']
                  simp [hj']
                · obtain ⟨mk, hm1, hm2⟩ := b2
                  have := hm2 j (by omega)
                  simp only [World.frozen?, hm1]
                  simp; omega
              have hglt := b2.lt
              have hlen : zs.length < 4611686018427387904 := by omega
              have hcall := hS g 0 cap zs w hH hglt hlen
              rw [hus, hv, ← hzn]
              refine hcall.mono ?_
              rintro e w' ⟨rfl, m, os, rfl⟩
              have hszs : (srt zs).length = zs.length := by simp [srt, List.length_mergeSort]
              generalize hd : (srt zs).toArray = d
              have hds : d.size = zs.length := by rw [← hd]; simpa using hszs
              have hw' : (grow (putRow (Value.int .i64) (Sort.ahead w m) g 0 (zs.mergeSort fun x y => decide (x ≤ y)).toArray) os) = grow (putRow (Value.int .i64) (Sort.ahead w m) g 0 d) os := by rw [← hd]; rfl
              rw [hw']
              clear hw'
              have hheap : (grow (putRow (Value.int .i64) (Sort.ahead w m) g 0 d) os).heap = (w.heap.modify g (onCells (putCells (Value.int .i64) 0 d))) ++ os := rfl
              generalize hW : grow (putRow (Value.int .i64) (Sort.ahead w m) g 0 d) os = w' at hheap
              have hos : w'.os = w.os := by rw [← hW]; rfl
              have htp : w'.tape = w.tape := by rw [← hW]; rfl
              have hout : w'.output = w.output := by rw [← hW]; rfl
              have hasz : (putCells (Value.int .i64) 0 d arr).size = arr.size := by simp [putCells]
              have hag : ∀ j, (putCells (Value.int .i64) 0 d arr).getD j undef = if j < d.size then .int .i64 d[j]! else arr.getD j undef := by
                intro j
                rw [Array.getD_eq_getD_getElem?, Array.getD_eq_getD_getElem?]
                simp only [putCells, Array.getElem?_mapIdx]
                by_cases hj : j < d.size
                · rw [if_pos hj, Array.getElem?_eq_getElem (by omega)]
                  simp [hj]
                · rw [if_neg hj]
                  cases arr[j]? with
                  | none => rfl
                  | some v => simp [hj]
              have hold : ∀ q, q < w.heap.size → q ≠ g → w'.heap[q]? = w.heap[q]? := by
                intro q hq hne
                rw [hheap, Array.getElem?_append_left (by simpa using hq), Array.getElem?_modify, if_neg (Ne.symm hne)]
              have hnew : RowAt w' g (putCells (Value.int .i64) 0 d arr) ty := by
                obtain ⟨mk, hm1, hm2⟩ := b2
                refine ⟨mk, ?_, fun j hj => hm2 j (by omega)⟩
                rw [hheap, Array.getElem?_append_left (by simpa using hglt), Array.getElem?_modify, if_pos rfl, hm1]
                rfl
              obtain ⟨s1, s2⟩ := put_step (me := 0) (w' := w') hi k k (.row ty 1 (zs.map fun n => [.i .i64 n]) false) (.row ty 1 ((srt zs).map fun x => [.i .i64 x]) false) hk rfl (some (g, tot)) (.inl ⟨rfl, hμ⟩) hos htp hout (by rw [hheap]; simp)
                (fun q hq hne => hold q hq (fun e => hne tot (by rw [e]; exact hμ))) (fun g' n2 h => .inr ⟨tot, by cases h; exact hμ⟩) rfl
                (fun hag2 => .inr ⟨g, tot, _, updμ_same _ _ _, hnew, by rw [hasz, b3], by simp [hszs]; simpa using b4, b5, fun c hc => by
                    obtain ⟨x, _, rfl⟩ := List.mem_map.1 hc
                    rfl, fun j hj => by
                    rw [hag]
                    by_cases hjd : j < d.size
                    · rw [if_pos hjd]; rfl
                    · rw [if_neg hjd]; exact b7 j (by omega), fun i j t ht => by
                    obtain ⟨c, hc1, hc2⟩ := at2_elim ht
                    rw [List.getElem?_map] at hc1
                    cases hy : (srt zs)[i]? with
                    | none => rw [hy] at hc1; cases hc1
                    | some x =>
                      rw [hy] at hc1
                      cases hc1
                      have hj := (List.getElem?_eq_some_iff.1 hc2).1
                      obtain rfl : j = 0 := by simpa using hj
                      cases hc2
                      have hil := (List.getElem?_eq_some_iff.1 hy).1
                      rw [Nat.mul_one, Nat.add_zero, hag, if_pos (by omega)]
                      have : d[i]! = x := by
                        rw [← hd]
                        simp [hy]
                      rw [this]
                      exact .i _ _, by simp⟩)
              refine ⟨_, _, rfl, .tu #[] [] rfl (by intro j v hv; simp at hv), s1, s2.ck _ (by omega) _⟩
          · omega
        · cases hr
      · cases hr
    · cases hr
  · cases hr
end Go.Pev
namespace Go.Pev
open Go
section
def RetT (C : Cfg) (f : Nat) (args : List V) (x : V) : Prop := ∃ r h c, runL C f args [] 0 = some (r, h, c) ∧ resOf h r = some x
def RetO (C : Cfg) (f : Nat) (args : List V) (ty sz : Nat) (els : List (List T)) : Prop := ∃ k h c, runL C f args [] 0 = some (.ow k sz 0 els.length, h, c) ∧ h.get k = some (.row ty sz els false)
theorem RetT.of {C : Cfg} {f : Nat} {args : List V} {x : T} (h : ∃ h c, runL C f args [] 0 = some (.t x, h, c)) : RetT C f args (.t x) := by
  obtain ⟨h, c, h1⟩ := h
  exact ⟨_, h, c, h1, rfl⟩
section
variable {C : Cfg}
theorem callPure_ret {f : Nat} {ps : List V} {x : V} (h : RetT C f ps x) : ∃ r h', callPure (runL C) f ps = some (r, h') ∧ resOf h' r = some x := by
  obtain ⟨r, h', c, h1, h2⟩ := h
  exact ⟨r, h', by unfold callPure; rw [h1], h2⟩
theorem callEv_t {f : Nat} {args ps : List V} {s : St} {k : Key} {x : V} (hm : C.hpm f = false) (ho : C.own f = false) (hps : puresOf s.hp args = some ps) (h : RetT C f ps x) (hk : flatV x = true ∨ args.flatMap (keysOf s.hp) = []) : callEv C (runL C) f args s k = some (x, s.hp, s.ck) := by
  obtain ⟨r, h', h1, h2⟩ := callPure_ret h
  unfold callEv
  simp only [hm, Bool.false_eq_true, if_false, hps, h1, ho, h2]
  rcases hk with hk | hk
  · simp [hk]
  · simp [hk, freezeAll]
theorem callEv_k {f : Nat} {args ps : List V} {s : St} {k : Key} {x : V} (hm : C.hpm f = false) (ho : C.own f = false) (hps : puresOf s.hp args = some ps) (h : RetT C f ps x) (hk : flatV x = false) : callEv C (runL C) f args s k = some (x, freezeAll s.hp (args.flatMap (keysOf s.hp)), s.ck) := by
  obtain ⟨r, h', h1, h2⟩ := callPure_ret h
  unfold callEv
  simp only [hm, Bool.false_eq_true, if_false, hps, h1, ho, h2]
  simp [hk]
theorem callEv_o {f : Nat} {args ps : List V} {s : St} {k : Key} {ty sz : Nat} {els : List (List T)} (hm : C.hpm f = false) (ho : C.own f = true) (hps : puresOf s.hp args = some ps) (h : RetO C f ps ty sz els) : callEv C (runL C) f args s k = some (.ow k sz 0 els.length, (k, .row ty sz els false) :: freezeAll s.hp (args.flatMap (keysOf s.hp)), s.ck) := by
  obtain ⟨q, h', c, h1, h2⟩ := h
  unfold callEv callPure
  simp [hm, hps, h1, ho, h2]
theorem callQ_t {f : Nat} {args ps : List V} {h : HP} {x : V} (hps : puresOf h args = some ps) (hr : RetT C f ps x) (hk : flatV x = true ∨ args.flatMap (keysOf h) = []) : callQ (runL C) f args h = some x := by
  obtain ⟨r, h', h1, h2⟩ := callPure_ret hr
  unfold callQ
  simp only [hps, h1, h2]
  rcases hk with hk | hk <;> simp [hk]
theorem callQ_o {f : Nat} {args ps : List V} {h : HP} {ty sz : Nat} {els : List (List T)} (hps : puresOf h args = some ps) (hr : RetO C f ps ty sz els) (hk : (els.all fun c => c.all flatT) = true) : callQ (runL C) f args h = some (.t (.l els)) := by
  obtain ⟨q, h', c, h1, h2⟩ := hr
  have h3 : treeOf h' (.ow q sz 0 els.length) = some (.l els) := by simp [treeOf, h2]
  have h4 : freshR h' (.ow q sz 0 els.length) = true := by simp only [freshR, h2, hk]
  unfold callQ callPure
  simp only [hps, h1, resOf, resOf1, h3, h4, Option.map_some, Bool.or_true, if_true]
theorem RetO.tree {f : Nat} {args : List V} {ty sz : Nat} {els : List (List T)} (h : RetO C f args ty sz els) : RetT C f args (.t (.l els)) := by
  obtain ⟨q, h', c, h1, h2⟩ := h
  refine ⟨_, h', c, h1, ?_⟩
  have h3 : treeOf h' (.ow q sz 0 els.length) = some (.l els) := by simp [treeOf, h2]
  simp only [resOf, resOf1, h3, Option.map_some]
def isTr1 : V → Bool
  | .t _ => true
  | _ => false
def isTr : V → Bool
  | .t _ => true
  | .ag cs => cs.all isTr1
  | _ => false
theorem treesOf_tr (h : HP) : ∀ {cs : List V}, cs.all isTr1 = true → (∃ ts, treesOf h cs = some ts ∧ ts.map .t = cs) ∧ cs.flatMap (keysOf1 h) = []
  | [], _ => ⟨⟨[], rfl, rfl⟩, rfl⟩
  | c :: cs, hc => by
    simp only [List.all_cons, Bool.and_eq_true] at hc
    obtain ⟨⟨ts, h1, h2⟩, h3⟩ := treesOf_tr h hc.2
    cases c <;> simp [isTr1] at hc
    rename_i x
    exact ⟨⟨x :: ts, by simp [treesOf, treeOf, h1], by simp [h2]⟩, by simp [keysOf1, h3]⟩
theorem puresOf_tr (h : HP) : ∀ {args : List V}, args.all isTr = true → puresOf h args = some args ∧ args.flatMap (keysOf h) = []
  | [], _ => ⟨rfl, rfl⟩
  | a :: args, ha => by
    simp only [List.all_cons, Bool.and_eq_true] at ha
    obtain ⟨h1, h2⟩ := puresOf_tr h ha.2
    cases a <;> simp [isTr] at ha
    · exact ⟨by simp [puresOf, pureOf, h1], by simp [keysOf, h2]⟩
    · rename_i cs
      obtain ⟨⟨ts, t1, t2⟩, t3⟩ := treesOf_tr h (cs := cs) (List.all_eq_true.2 ha.1)
      exact ⟨by simp [puresOf, pureOf, h1, t1, t2], by simp [keysOf, h2, t3]⟩
theorem callEv_tr {f : Nat} {args : List V} {x : V} (h : RetT C f args x) (hm : C.hpm f = false) (ho : C.own f = false) (ha : args.all isTr = true) (s : St) (k : Key) : callEv C (runL C) f args s k = some (x, s.hp, s.ck) :=
  callEv_t hm ho (puresOf_tr s.hp ha).1 h (.inr (puresOf_tr s.hp ha).2)
theorem callEv_tro {f : Nat} {args : List V} {ty sz : Nat} {els : List (List T)} (h : RetO C f args ty sz els) (hm : C.hpm f = false) (ho : C.own f = true) (ha : args.all isTr = true) (s : St) (k : Key) : callEv C (runL C) f args s k = some (.ow k sz 0 els.length, (k, .row ty sz els false) :: s.hp, s.ck) := by
  rw [callEv_o hm ho (puresOf_tr s.hp ha).1 h, (puresOf_tr s.hp ha).2]
  rfl
theorem callO_tr {f : Nat} {args : List V} {ty sz : Nat} {els : List (List T)} (h : RetO C f args ty sz els) (hm : C.hpm f = false) (ho : C.own f = true) (ha : args.all isTr = true) (hp : HP) (k : Key) : callO C (runL C) f args hp k = some (.ow k sz 0 els.length, .row ty sz els false) := by
  obtain ⟨q, h', c, h1, h2⟩ := h
  unfold callO callPure
  simp [(puresOf_tr hp ha).1, (puresOf_tr hp ha).2, h1, h2, hm, ho]
theorem callQ_tr {f : Nat} {args : List V} {x : V} (h : RetT C f args x) (ha : args.all isTr = true) (hp : HP) : callQ (runL C) f args hp = some x :=
  callQ_t (puresOf_tr hp ha).1 h (.inr (puresOf_tr hp ha).2)
theorem evL_loop_n {c : Pc} {s s1 : St} (h : evL C c s = some (.normal, s1)) : evL C (.loop c) s = evL C (.loop c) s1 := by
  rw [evL_loop, h]; rfl
theorem evL_loop_x {c : Pc} {s s1 : St} {e : Ex} (h : evL C c s = some (e, s1)) (he : e ≠ .normal) : evL C (.loop c) s = some (e, s1) := by
  rw [evL_loop, h]
  cases e with
  | normal => exact absurd rfl he
  | exit id => rfl
  | ret => rfl
end
theorem treeOf_ow {h : HP} {k : Key} {ty sz n : Nat} {els : List (List T)} {fz : Bool} (hg : h.get k = some (.row ty sz els fz)) (hn : els.length = n) : treeOf h (.ow k sz 0 n) = some (.l els) := by
  subst hn
  simp [treeOf, hg]
theorem pureOf_ow {h : HP} {k : Key} {ty sz n : Nat} {els : List (List T)} {fz : Bool} (hg : h.get k = some (.row ty sz els fz)) (hn : els.length = n) : pureOf h (.ow k sz 0 n) = some (.t (.l els)) := by
  show (treeOf h (.ow k sz 0 n)).map V.t = _
  rw [treeOf_ow hg hn]
  rfl
section
variable {C : Cfg}
theorem callEv_h {f : Nat} {args : List V} {s : St} {r : V} {h' : HP} {c' : Nat} (hm : C.hpm f = true) (h : runL C f args s.hp (s.ck + 1) = some (r, h', c')) (k : Key) : callEv C (runL C) f args s k = some (r, h', c' + 1) := by
  unfold callEv
  rw [if_pos hm, h]
theorem callEv_owk {f : Nat} {args : List V} {x : V} {k : Key} {ty sz n : Nat} {els : List (List T)} {fz : Bool} (h : RetT C f (.t (.l els) :: args) x) (hn : els.length = n) (hm : C.hpm f = false) (ho : C.own f = false) (ha : args.all isTr = true) (hx : flatV x = false) (s : St) (k' : Key) (hg : s.hp.get k = some (.row ty sz els fz)) : callEv C (runL C) f (.ow k sz 0 n :: args) s k' = some (x, freezeAll s.hp [k], s.ck) := by
  rw [callEv_k hm ho (by rw [puresOf, pureOf_ow hg hn, (puresOf_tr s.hp ha).1]) h hx, List.flatMap_cons, (puresOf_tr s.hp ha).2]
  rfl
end
def iv (n : Int) : V := .t (.i .i64 n)
def bv (b : Bool) : V := .t (.b b)
def il (l : List Int) : T := .l (l.map fun n => [.i .i64 n])
theorem contains_at {l : List Int} {i : Nat} {x : Int} (h : i < l.length) (hx : l[i] = x) : (l.drop i).contains x = true := by
  rw [List.drop_eq_getElem_cons h, List.contains_cons, hx]
  simp
theorem contains_not {l : List Int} {i : Nat} {x : Int} (h : i < l.length) (hx : ¬ l[i] = x) : (l.drop i).contains x = (l.drop (i + 1)).contains x := by
  have hx' : ¬ x = l[i] := fun e => hx e.symm
  rw [List.drop_eq_getElem_cons h, List.contains_cons]
  have : (x == l[i]) = false := by simpa using hx'
  rw [this, Bool.false_or]
theorem wrap_id {n : Int} (h1 : -9223372036854775808 ≤ n) (h2 : n ≤ 9223372036854775807) : IntKind.i64.wrap n = n := IntWalk.i64_in _ (by omega)
def ixC (sz : Nat) (c : Option (List T)) : Option V := match c with
  | some c => if c.length = sz then some (.pr c) else none
  | none => none
def ixB (b : Option UInt8) : Option V := match b with
  | some b => some (.t (.i .u8 b.toNat))
  | none => none
section
variable (k : IntKind) (x y : Int) (a b : List UInt8) (p q : Bool)
theorem bin_add : bin .add (.t (.i k x)) (.t (.i k y)) = some (.t (.i k (k.wrap (x + y)))) := by simp [bin, isShift, binI]
theorem bin_sub : bin .sub (.t (.i k x)) (.t (.i k y)) = some (.t (.i k (k.wrap (x - y)))) := by simp [bin, isShift, binI]
theorem bin_mul : bin .mul (.t (.i k x)) (.t (.i k y)) = some (.t (.i k (k.wrap (x * y)))) := by simp [bin, isShift, binI]
theorem bin_quo : bin .quo (.t (.i k x)) (.t (.i k y)) = if y = 0 then none else some (.t (.i k (k.wrap (x.tdiv y)))) := by simp [bin, isShift, binI]
theorem bin_rem : bin .rem (.t (.i k x)) (.t (.i k y)) = if y = 0 then none else some (.t (.i k (x.tmod y))) := by simp [bin, isShift, binI]
theorem bin_and : bin .and (.t (.i k x)) (.t (.i k y)) = some (.t (.i k (k.wrap (BitVec.ofInt k.bits x &&& BitVec.ofInt k.bits y).toNat))) := by simp [bin, isShift, binI]
theorem bin_or : bin .or (.t (.i k x)) (.t (.i k y)) = some (.t (.i k (k.wrap (BitVec.ofInt k.bits x ||| BitVec.ofInt k.bits y).toNat))) := by simp [bin, isShift, binI]
theorem bin_xor : bin .xor (.t (.i k x)) (.t (.i k y)) = some (.t (.i k (k.wrap (BitVec.ofInt k.bits x ^^^ BitVec.ofInt k.bits y).toNat))) := by simp [bin, isShift, binI]
theorem bin_andNot : bin .andNot (.t (.i k x)) (.t (.i k y)) = some (.t (.i k (k.wrap (BitVec.ofInt k.bits x &&& ~~~ BitVec.ofInt k.bits y).toNat))) := by simp [bin, isShift, binI]
theorem bin_eql : bin .eql (.t (.i k x)) (.t (.i k y)) = some (.t (.b (x == y))) := by simp [bin, isShift, binI]
theorem bin_neq : bin .neq (.t (.i k x)) (.t (.i k y)) = some (.t (.b (x != y))) := by simp [bin, isShift, binI]
theorem bin_lss : bin .lss (.t (.i k x)) (.t (.i k y)) = some (.t (.b (decide (x < y)))) := by simp [bin, isShift, binI]
theorem bin_leq : bin .leq (.t (.i k x)) (.t (.i k y)) = some (.t (.b (decide (x ≤ y)))) := by simp [bin, isShift, binI]
theorem bin_gtr : bin .gtr (.t (.i k x)) (.t (.i k y)) = some (.t (.b (decide (y < x)))) := by simp [bin, isShift, binI]
theorem bin_geq : bin .geq (.t (.i k x)) (.t (.i k y)) = some (.t (.b (decide (y ≤ x)))) := by simp [bin, isShift, binI]
theorem bin_shl (k' : IntKind) : bin .shl (.t (.i k x)) (.t (.i k' y)) = shiftI .shl k x y := by simp [bin, isShift]
theorem bin_shr (k' : IntKind) : bin .shr (.t (.i k x)) (.t (.i k' y)) = shiftI .shr k x y := by simp [bin, isShift]
theorem bin_str (o : BinOp) : bin o (.t (.s a)) (.t (.s b)) = binS o a b := id rfl
theorem beq_bb (n : Bool) : beq n (.t (.b p)) (.t (.b q)) = some (.t (.b (if n then !(p == q) else p == q))) := id rfl
theorem pick_t (u v : V) : pick (.t (.b true)) u v = some u := id rfl
theorem pick_f (u v : V) : pick (.t (.b false)) u v = some v := id rfl
theorem un_not : un .not (.t (.b p)) = some (.t (.b (!p))) := id rfl
theorem un_neg : un .neg (.t (.i k x)) = some (.t (.i k (k.wrap (0 - x)))) := id rfl
theorem cvi_i (k' : IntKind) : cvi k' (.t (.i k x)) = some (.t (.i k' (k'.wrap x))) := id rfl
theorem len_t (xs : List (List T)) : len (.t (.l xs)) = some (.t (.i .i64 xs.length)) := id rfl
theorem len_ow (q : Key) (s o n : Nat) : len (.ow q s o n) = some (.t (.i .i64 n)) := id rfl
theorem len_nl : len .nl = some (.t (.i .i64 0)) := id rfl
theorem lenS_s : lenS (.t (.s a)) = some (.t (.i .i64 a.length)) := id rfl
theorem nilI_n (n : Bool) : isNilI n (.t .ni) = some (.t (.b (!n))) := id rfl
theorem nilI_e (n : Bool) : isNilI n (.t .er) = some (.t (.b n)) := id rfl
theorem nilP_n (n : Bool) : isNilP n (.t .np) = some (.t (.b (!n))) := id rfl
theorem nilP_p (n : Bool) (q : Key) (s i j : Nat) : isNilP n (.pt q s i j) = some (.t (.b n)) := id rfl
theorem ext_t (n : Nat) (vs : List V) : ext n (.tu vs) = vs[n]? := id rfl
theorem fad_pt (o : Nat) (q : Key) (s i j : Nat) : fad o (.pt q s i j) = some (.pt q s i (j + o)) := id rfl
theorem fad_pr (o : Nat) (cs : List T) : fad o (.pr cs) = some (.pr (cs.drop o)) := id rfl
theorem fld_ag (g : Bool) (o n : Nat) (cs : List V) : fld g o n (.ag cs) = loadOf g n (cs.drop o) := id rfl
theorem ixS_t (sz : Nat) (xs : List (List T)) : ixS sz (.t (.l xs)) (.t (.i k x)) = if 0 ≤ x then ixC sz (xs[x.toNat]?) else none := by
  simp only [ixS, isInt, ixC]
  split
  · split <;> simp_all
  · rfl
theorem ixS_ow (sz s o n : Nat) (q : Key) : ixS sz (.ow q s o n) (.t (.i k x)) = if 0 ≤ x ∧ s = sz ∧ x < n then some (.pt q sz (o + x.toNat) 0) else none := by
  simp only [ixS, isInt]
  by_cases h : 0 ≤ x <;> simp [h]
theorem ixs_s : ixs (.t (.s a)) (.t (.i k x)) = if 0 ≤ x then ixB (a[x.toNat]?) else none := by
  simp only [ixs, isInt, ixB]
  split
  · split <;> simp_all
  · rfl
end
attribute [simp] gcase_tt gcase_tf gcase_ft gcase_ff gcase_ud brc_t brc_f bin_add bin_sub bin_mul bin_quo bin_rem bin_and bin_or bin_xor bin_andNot bin_eql bin_neq bin_lss bin_leq bin_gtr bin_geq bin_shl bin_shr bin_str beq_bb pick_t pick_f un_not un_neg cvi_i len_t len_ow len_nl lenS_s nilI_n nilI_e nilP_n nilP_p ext_t fad_pt fad_pr fld_ag ixS_t ixS_ow ixs_s ixC ixB
attribute [simp] bnd_some evL_seq evL_rg evL_cd evL_ret evL_skip evL_exit evL_block evOps_nil evOps_c evG_none evG_some evPo Opd.ev thenC_n thenC_r thenC_e blockC_n blockC_r blockC_e putD_s putD_n envput envget_cons endReg_e keep_nil keep_cons
attribute [simp] hpget_cons hpput_cons binS shiftI isNilS loadOf load store ixA ixV isInt bound slS sls opt cells results resultsL results1 noFn iv bv il envOf runFn
end
end Go.Pev
