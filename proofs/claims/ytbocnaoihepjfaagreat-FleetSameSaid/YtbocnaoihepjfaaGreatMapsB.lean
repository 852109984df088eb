/- What the functions of these laws tell (made by mergecom.py out of SFleet3 SFleet4 SFleet5 SFleet6 SDel SRet SFleet7 SFleet8 SFleet9 SFleet10 SFleet11 SFleet12 SFleet13 SFleet14 SRRight SMay SFleet15 SFleet16 SFleet17 SAwake SAwake2 ArgsL LMaps LMaps2). -/
import Derived.Test.YtbocnaoihepjfaaGreatMapsA
set_option linter.unusedVariables false
set_option linter.unusedSimpArgs false
section
/- What a fleet's begin and come tell. -/
namespace Go.Proofs.YtbocnaoihepjfaaGreat.Pv
open Go Go.Pev

theorem put_put (h : HP) (k : Key) (a b : Ob) : (h.put k k a).put k k b = h.put k k b := by
  induction h with
  | nil => rfl
  | cons p h ih =>
    obtain ⟨p, x⟩ := p
    simp only [HP.put]
    by_cases e : p = k
    · subst e; simp [HP.put]
    · rw [if_neg e, if_neg e]
      simp only [HP.put, if_neg e, ih]
theorem partsA_in : ∀ (cs : List Cho) (ss : List (Int × Int)) (t : Nat), ∀ p ∈ partsA t cs ss, (t : Int) ≤ p.token ∧ p.token < ((t + cs.length : Nat) : Int) ∧ 0 ≤ p.rank ∧ p.rank ≤ 1
  | [], _, t, p, h => by simp [partsA] at h
  | c :: cs, [], t, p, h => by simp [partsA] at h
  | c :: cs, s :: ss, t, p, h => by
    simp only [partsA, List.mem_append] at h
    rcases h with (h | h) | h
    · unfold pt0 at h
      split at h
      · simp at h; subst h; simp; omega
      · simp at h
    · unfold pt1 at h
      split at h
      · simp at h; subst h; simp; omega
      · simp at h
    · have := partsA_in cs ss (t + 1) p h
      simp only [List.length_cons]
      omega
theorem partsP_in {l : Lay} {ts : List (List Int)} : ∀ p ∈ partsP l ts, 0 ≤ p.token ∧ p.token < ts.length ∧ 0 ≤ p.rank ∧ p.rank ≤ 1 := by
  intro p hp
  have := partsA_in _ _ 0 p hp
  simp [chosen] at this
  omega
theorem partsA_len : ∀ (cs : List Cho) (ss : List (Int × Int)) (t : Nat), (partsA t cs ss).length ≤ 2 * cs.length
  | [], _, t => by simp [partsA]
  | c :: cs, [], t => by simp [partsA]
  | c :: cs, s :: ss, t => by
    have := partsA_len cs ss (t + 1)
    have a := pt0_len t c s.1
    have b := pt1_len t c s.2
    simp only [partsA, List.length_append, List.length_cons]
    omega
theorem partsP_len (l : Lay) (ts : List (List Int)) : (partsP l ts).length ≤ 2 * ts.length := by
  have := partsA_len (chosen l ts) (asg l.exps.length l.cap g0 (wants (chosen l ts))) 0
  simpa [partsP, chosen] using this
/-- What must be for a layer to begin. -/
structure Fit0 (F : Flt) : Prop where
  m : FewM F.m
  toks : Few F.toks
  ntok : F.toks.length ≤ 10000
  ph : F.ph.length ≤ 1000000 ∧ ∀ r ∈ F.ph, r.length ≤ 100000
  bag : F.bag.length ≤ 1000000
def newP (F : Flt) : Flt := { F with parts := partsP (layAt F.m F.at_) F.toks, ans := List.replicate (partsP (layAt F.m F.at_) F.toks).length [], answd := List.replicate (partsP (layAt F.m F.at_) F.toks).length false }
def beginP (F : Flt) : Flt := if F.at_ < F.m.lays.length then askP (newP F) else F
theorem newP_fit {F : Flt} (h : Fit0 F) : Fit (newP F) := ⟨by simp [newP], by simp [newP], by
    have := partsP_len (layAt F.m F.at_) F.toks
    have := h.ntok
    simp only [newP]; omega, fun p hp => partsP_in p hp, h.toks, by have := h.ntok; simp only [newP]; omega, h.ph, h.bag⟩
def rowsAre (h : HP) (F : Flt) (v : Vs) (ca cb : Nat) : Prop := v.vp = .t (ptl F.parts) ∧ v.va = .ow ⟨38, ca, 6⟩ 1 0 F.parts.length ∧ v.vd = .ow ⟨47, cb, 6⟩ 1 0 F.parts.length ∧ h.get ⟨38, ca, 6⟩ = some (.row 42 1 (F.ans.map fun r => [il r]) false) ∧ h.get ⟨47, cb, 6⟩ = some (.row 4 1 (bl F.answd) false)
theorem begin_run {h : HP} {cf ck : Nat} {F : Flt} {v : Vs} (hF : FlB h cf F v) (hw : Fit0 F) (hcf : cf < ck) : ∃ h' ck' v' ca cb, runL cfg 36 [.pt ⟨34, cf, 5⟩ 15 0 0] h ck = some (.tu [], h', ck') ∧ ck ≤ ck' ∧ FlB h' cf (beginP F) v' ∧ (F.at_ < F.m.lays.length → rowsAre h' (beginP F) v' ca cb ∧ ck ≤ ca ∧ ca < ck' ∧ ck ≤ cb ∧ cb < ck') ∧ ∀ q, q.c < ck → q ≠ ⟨34, cf, 5⟩ → h'.get q = h.get q := by
  rw [runL_pf (fn := f36) rfl rfl]
  have hg := hF.1
  obtain ⟨o0, o1, o2, o3, o4, o5, o6⟩ := hF.2
  unfold beginP
  by_cases c : F.at_ < F.m.lays.length
  case neg =>
    have c' : F.m.lays.length ≤ F.at_ := by omega
    simp only [fcs, laysT] at hg
    rw [if_neg c]
    refine ⟨h, ck + 1, v, 0, 0, ?_, by omega, hF, fun hc => absurd hc c, fun q _ _ => rfl⟩
    simp [hg, c', filt_t]
  rw [if_pos c]
  have c' : ¬ F.m.lays.length ≤ F.at_ := by omega
  have hla : layAt F.m F.at_ = F.m.lays[F.at_] := by simp [layAt, List.getD_eq_getElem?_getD, c]
  have hfl := hw.m.2 _ (List.getElem_mem c)
  have hP := fun hp => callQ_tr (C := cfg) (parts_ret F.m.lays[F.at_] F.toks hfl.1 (by have := hw.ntok; omega)) rfl hp
  have hnf := newP_fit hw
  have hN : newP F = { F with parts := partsP (layAt F.m F.at_) F.toks, ans := List.replicate (partsP (layAt F.m F.at_) F.toks).length [], answd := List.replicate (partsP (layAt F.m F.at_) F.toks).length false } := rfl
  rw [← hla] at hP
  have hpl : (partsP (layAt F.m F.at_) F.toks).length ≤ 20000 := by have := partsP_len (layAt F.m F.at_) F.toks; have := hw.ntok; omega
  generalize partsP (layAt F.m F.at_) F.toks = ps at *
  have b1 : (ps.length : Int) * 24 ≤ 140737488355328 := by omega
  have b2 : (ps.length : Int) ≤ 140737488355328 := by omega
  generalize hV : ({ v with vp := .t (ptl ps), va := .ow ⟨38, ck + 1 + 1, 6⟩ 1 0 ps.length, vd := .ow ⟨47, ck + 1 + 1 + 1, 6⟩ 1 0 ps.length } : Vs) = v2
  generalize hH : ((⟨47, ck + 1 + 1 + 1, 6⟩, Ob.row 4 1 (List.replicate ps.length [.b false]) false) :: (⟨38, ck + 1 + 1, 6⟩, .row 42 1 (List.replicate ps.length [.l []]) false) :: h.put ⟨34, cf, 5⟩ ⟨34, cf, 5⟩ (.box 78 (fcs (newP F) v2)) : HP) = h2
  have hB2 : FlB h2 cf (newP F) v2 := by
    subst hH hV
    refine ⟨?_, ?_⟩
    · simp [hp_get_put, hg]
    · rw [hN]
      exact ⟨o0, o1, o2, o3, o4, o5, rd_t _⟩
  have e38 : HP.get h2 ⟨38, ck + 1 + 1, 6⟩ = some (.row 42 1 (List.replicate ps.length [.l []]) false) := by subst hH; simp
  have e47 : HP.get h2 ⟨47, ck + 1 + 1 + 1, 6⟩ = some (.row 4 1 (List.replicate ps.length [.b false]) false) := by subst hH; simp
  obtain ⟨h', ck', vb, hrun, hle, hB', hfr⟩ := ask_run (cb := ck + 1 + 1 + 1) (ck := ck + 1 + 1 + 1 + 1 + 1) hB2 hnf (by omega) (by omega) (fun _ => by
    rw [hN]; subst hV
    exact ⟨rfl, rfl, by rw [e47]; simp [bl]⟩)
  have hS := fun e k => callEv_h (C := cfg) (s := ⟨e, h2, ck + 1 + 1 + 1 + 1⟩) rfl hrun k
  have hA : (askP (newP F)).parts = ps ∧ (askP (newP F)).ans = List.replicate ps.length [] ∧ (askP (newP F)).answd = List.replicate ps.length false := by
    unfold askP; rw [hN]; split <;> exact ⟨rfl, rfl, rfl⟩
  refine ⟨h', ck' + 1 + 1, { v2 with vb := vb }, ck + 1 + 1, ck + 1 + 1 + 1, ?_, by omega, hB', fun _ => ⟨?_, by omega, by omega, by omega, by omega⟩, fun q hq hk => ?_⟩
  · subst hV
    rw [← hH, hN] at hS
    rw [hla] at hP
    simp only [fcs, laysT, layV, iv, gl, ptl, il] at hS hg hP
    simp [hg, c, c', filt_t, gl, il, laysT, layT, hP, ptl, b1, b2, over, put_put, hp_get_put, hS]
  · obtain ⟨a1, a2, a3⟩ := hA
    refine ⟨?_, ?_, ?_, ?_, ?_⟩
    · rw [a1]; subst hV; rfl
    · rw [a1]; subst hV; rfl
    · rw [a1]; subst hV; rfl
    · rw [hfr _ (by simp) (by simp), e38, a2]; simp
    · rw [hfr _ (by simp) (by simp), e47, a3]; simp [bl]
  · rw [hfr q (by omega) hk]
    subst hH
    rw [get_new (by omega), get_new (by omega), get_put_ne hk]
end Go.Proofs.YtbocnaoihepjfaaGreat.Pv
end

section
/- What a fleet's come tells. -/
namespace Go.Proofs.YtbocnaoihepjfaaGreat.Pv
open Go Go.Pev
variable {N : Nat}

def ibQ (l : List Bool) (x : Bool) (E : Option (Ex × St)) : Prop := (x ∈ l ∧ ∃ (j : Nat) (ck : Nat), E = some (.ret, ⟨[(4, iv j)], [], ck⟩)) ∨ (¬ x ∈ l ∧ ∃ e ck, E = some (.exit 0, ⟨e, [], ck⟩))
def ibI (l : List Bool) (x : Bool) (i : Nat) (s : St) : Prop := Upto (fun y => y != x) l i ∧ ∃ ck, s = ⟨[(0, .t (.l (bl l))), (1, bv x), (7, iv l.length), (8, iv (i : Int))], [], ck⟩
theorem containsb_ret (l : List Bool) (x : Bool) (hl : l.length ≤ 1000000) : RetT cfg 74 [.t (.l (bl l)), bv x] (bv (l.contains x)) := by
  have hL : ∀ ck, ibQ l x (evL cfg (.loop f111l0) ⟨[(0, .t (.l (bl l))), (1, bv x), (7, iv l.length), (8, iv 0)], [], ck⟩) := by
    intro ck
    refine loop_q l.length (ibI l x) ?_ ?_ _ ⟨upto0 _ _, ck, rfl⟩
    · rintro i s hi ⟨h1, ck, rfl⟩
      have hw : IntKind.i64.wrap ((i : Int) + 1) = (i : Int) + 1 := wrap_id (by omega) (by omega)
      by_cases hx : l[i] = x
      · have hb : (x == l[i]) = true := by simp [hx]
        simp [f111l0e, bl, hi, hb]
        exact .inl ⟨by rw [← hx]; exact List.getElem_mem hi, _, _, rfl⟩
      · have hb : (x == l[i]) = false := by simp; exact fun e => hx e.symm
        simp [f111l0e, bl, hi, hb, hw]
        exact ⟨upto_s h1 hi (by simpa using hx), _, rfl⟩
    · rintro s ⟨h1, ck, rfl⟩
      simp [f111l0e]
      refine .inr ⟨fun hm => ?_, _, _, rfl⟩
      obtain ⟨j, hj, rfl⟩ := List.getElem_of_mem hm
      have := h1 j hj hj
      simp at this
  have hI : ∃ j : Int, (0 ≤ j ↔ x ∈ l) ∧ RetT cfg 111 [.t (.l (bl l)), bv x] (iv j) := by
    rcases hL 2 with ⟨hm, j, ck, hc⟩ | ⟨hm, e, ck, hc⟩
    · refine ⟨j, by simp [hm], RetT.of ?_⟩
      rw [runL_pf (fn := f111) rfl rfl]
      simp [bl] at hc
      simp [bl, hc]
    · refine ⟨-1, by simp [hm], RetT.of ?_⟩
      rw [runL_pf (fn := f111) rfl rfl]
      simp [bl] at hc
      simp [bl, hc]
  obtain ⟨j, hj, hr⟩ := hI
  have hc := fun s k => callEv_tr (C := cfg) hr rfl rfl rfl s k
  simp only [bv, iv] at hc
  refine RetT.of ?_
  rw [runL_pf (fn := f74) rfl rfl]
  by_cases hx : x ∈ l
  · have h0 : 0 ≤ j := hj.2 hx
    simp [hc, hx, h0]
  · have h0 : ¬ 0 ≤ j := fun h => hx (hj.1 h)
    simp [hc, hx, h0]

/-- A fleet, its rows there. -/
def FlS (h : HP) (ck cf ca cb : Nat) (F : Flt) : Prop := ∃ v, FlB h cf F v ∧ cf < ck ∧ ca < ck ∧ cb < ck ∧ (F.at_ < F.m.lays.length → rowsAre h F v ca cb)
/-- What turned, and what did not. -/
structure Ran (h : HP) (ck cf ca cb : Nat) (h' : HP) (ck' ca' cb' : Nat) : Prop where
  le : ck ≤ ck'
  fr : ∀ q, q.c < ck → q ≠ ⟨34, cf, 5⟩ → q ≠ ⟨38, ca, 6⟩ → q ≠ ⟨47, cb, 6⟩ → h'.get q = h.get q
  ca : ca' = ca ∨ ck ≤ ca'
  cb : cb' = cb ∨ ck ≤ cb'
theorem Ran.trans {h h' h'' : HP} {ck cf ca cb ck' ca' cb' ck'' ca'' cb'' : Nat} (a : Ran h ck cf ca cb h' ck' ca' cb') (b : Ran h' ck' cf ca' cb' h'' ck'' ca'' cb'') : Ran h ck cf ca cb h'' ck'' ca'' cb'' := by
  have l1 := a.le
  have l2 := b.le
  refine ⟨by omega, fun q hq h1 h2 h3 => ?_, ?_, ?_⟩
  · rw [b.fr q (by omega) h1 ?_ ?_, a.fr q hq h1 h2 h3]
    · rintro rfl
      rcases a.ca with e | e
      · rw [e] at h2; exact h2 rfl
      · simp only at hq; omega
    · rintro rfl
      rcases a.cb with e | e
      · rw [e] at h3; exact h3 rfl
      · simp only at hq; omega
  · rcases b.ca with e | e
    · rw [e]; exact a.ca
    · exact .inr (by omega)
  · rcases b.cb with e | e
    · rw [e]; exact a.cb
    · exact .inr (by omega)
theorem Ran.to {h h' : HP} {ck cf ca cb ck' : Nat} (hle : ck ≤ ck') (hfr : ∀ q, q.c < ck → q ≠ ⟨34, cf, 5⟩ → h'.get q = h.get q) : Ran h ck cf ca cb h' ck' ca cb := ⟨hle, fun q hq h1 _ _ => hfr q hq h1, .inl rfl, .inl rfl⟩
structure Ok (N : Nat) (F : Flt) : Prop where
  f0 : Fit0 F
  f1 : F.at_ < F.m.lays.length → Fit F
  ans : ∀ r ∈ F.ans, r.length ≤ 1000000
  led : ∀ l ∈ F.led, l.length ≤ N ∧ ∀ e ∈ l, e.vec.length ≤ 1000000
  bags : ∀ s ∈ F.bag, s.length ≤ 100000
  led5 : F.led.length = 5
def onP (F : Flt) : Flt := { F with toks := combP F.toks F.parts F.ans, at_ := F.at_ + 1 }
def stepP (F : Flt) : Flt := beginP (onP F)
def comeN : Nat → Flt → Flt
  | 0, F => F
  | n + 1, F => if F.at_ < F.m.lays.length ∧ ¬ false ∈ F.answd then comeN n (stepP F) else F
def comeP (F : Flt) : Flt := comeN (F.m.lays.length - F.at_) F
theorem combP_few {ts : List (List Int)} {parts : List Pt} {answers : List (List Int)} (h : Few ts) : Few (combP ts parts answers) ∧ (combP ts parts answers).length = ts.length := by
  have key : ∀ (ps : List Pt) (i : Nat) (acc : List (List Int)), (∀ r ∈ acc, r.length ≤ 1000000) → (∀ r ∈ combA answers i ps acc, r.length ≤ 1000000) ∧ (combA answers i ps acc).length = acc.length := by
    intro ps
    induction ps with
    | nil => intro i acc h; exact ⟨h, rfl⟩
    | cons p ps ih =>
      intro i acc h
      obtain ⟨a, b⟩ := ih (i + 1) _ (comb1_few (answers := answers) (i := i) (p := p) h)
      exact ⟨a, b.trans (comb1_len _ _ _ _)⟩
  obtain ⟨a, b⟩ := key parts 0 ts h.2
  exact ⟨⟨by unfold combP; rw [b]; exact h.1, a⟩, b⟩
theorem askL_len {F : Flt} : ∀ (l : List (Pt × Bool)) (b : List (List UInt8)), b.length ≤ 1000000 → (askL F l b).length ≤ 1000000
  | [], b, h => h
  | x :: r, b, h => by
    unfold askL
    refine askL_len r _ ?_
    split
    · exact h
    · exact sendB_len h
theorem putB_len {a : Msg} (h : wrightM a = true) : (putB a).length ≤ 100 := by
  have hv := (wright_num h).2.2.2.2.2.1
  have hb := bodyB_len (numsA a)
  have hl : (numsA a).length = 11 + a.vec.length := by simp [numsA, nums]; omega
  unfold putB frameB
  simp only [List.length_append, fourI_len, hb, hl]
  omega
theorem sendB_s {b : List (List UInt8)} {a : Msg} (h : ∀ s ∈ b, s.length ≤ 100000) : ∀ s ∈ sendB b a, s.length ≤ 100000 := by
  unfold sendB bagPut
  split
  · rename_i hw
    split
    · intro s hs
      rcases List.mem_append.1 hs with hs | hs
      · exact h s hs
      · rw [List.mem_singleton] at hs
        have := putB_len hw
        rw [hs]; omega
    · exact h
  · exact h
theorem askL_s {F : Flt} : ∀ (l : List (Pt × Bool)) (b : List (List UInt8)), (∀ s ∈ b, s.length ≤ 100000) → ∀ s ∈ askL F l b, s.length ≤ 100000
  | [], b, h => h
  | x :: r, b, h => by
    unfold askL
    refine askL_s r _ ?_
    split
    · exact h
    · exact sendB_s h
theorem askP_ok {F : Flt} (h : Ok N F) : Ok N (askP F) := by
  unfold askP
  split
  · have hb := askL_len (F := F) (F.parts.zip F.answd) F.bag h.f0.bag
    exact ⟨⟨h.f0.m, h.f0.toks, h.f0.ntok, h.f0.ph, hb⟩, fun hc => ⟨(h.f1 hc).na, (h.f1 hc).nd, (h.f1 hc).np, (h.f1 hc).tok, (h.f1 hc).toks, (h.f1 hc).ntok, (h.f1 hc).ph, hb⟩, h.ans, h.led, askL_s _ _ h.bags, h.led5⟩
  · exact h
theorem beginP_ok {F : Flt} (h : Fit0 F) (ha : ∀ r ∈ F.ans, r.length ≤ 1000000) (hl : ∀ l ∈ F.led, l.length ≤ N ∧ ∀ e ∈ l, e.vec.length ≤ 1000000) (hs : ∀ s ∈ F.bag, s.length ≤ 100000) (h5 : F.led.length = 5) : Ok N (beginP F) := by
  unfold beginP
  split
  · refine askP_ok ⟨⟨h.m, h.toks, h.ntok, h.ph, h.bag⟩, fun _ => newP_fit h, fun r hr => ?_, hl, hs, h5⟩
    simp only [newP] at hr
    rw [(List.mem_replicate.1 hr).2]; simp
  · rename_i hc
    exact ⟨h, fun h2 => absurd h2 hc, ha, hl, hs, h5⟩
theorem stepP_ok {F : Flt} (h : Ok N F) : Ok N (stepP F) := by
  obtain ⟨a, b⟩ := combP_few (parts := F.parts) (answers := F.ans) h.f0.toks
  exact beginP_ok ⟨h.f0.m, a, by simp only [onP]; rw [b]; exact h.f0.ntok, h.f0.ph, h.f0.bag⟩ h.ans h.led h.bags h.led5
theorem askP_m (F : Flt) : (askP F).m = F.m ∧ (askP F).at_ = F.at_ ∧ (askP F).pe = F.pe ∧ (askP F).ph = F.ph ∧ (askP F).toks = F.toks ∧ (askP F).led = F.led ∧ (askP F).parts = F.parts ∧ (askP F).ans = F.ans ∧ (askP F).answd = F.answd := by
  unfold askP; split <;> exact ⟨rfl, rfl, rfl, rfl, rfl, rfl, rfl, rfl, rfl⟩
theorem beginP_m (F : Flt) : (beginP F).m = F.m ∧ (beginP F).at_ = F.at_ ∧ (beginP F).pe = F.pe ∧ (beginP F).ph = F.ph ∧ (beginP F).toks = F.toks ∧ (beginP F).led = F.led := by
  unfold beginP
  split
  · obtain ⟨a, b, c, d, e, f, _⟩ := askP_m (newP F)
    exact ⟨a, b, c, d, e, f⟩
  · exact ⟨rfl, rfl, rfl, rfl, rfl, rfl⟩
end Go.Proofs.YtbocnaoihepjfaaGreat.Pv
end

section
/- What a fleet's come tells, whole. -/
namespace Go.Proofs.YtbocnaoihepjfaaGreat.Pv
open Go Go.Pev
variable {N : Nat}

theorem come_end {h : HP} {ck cf ca cb : Nat} {F : Flt} (hS : FlS h ck cf ca cb F) (hO : Ok N F) (hc : ¬ (F.at_ < F.m.lays.length ∧ ¬ false ∈ F.answd)) : ∃ e, evL cfg (.loop f37l0) ⟨[(0, .pt ⟨34, cf, 5⟩ 15 0 0)], h, ck⟩ = some (.exit 0, ⟨e, h, ck + 1⟩) := by
  obtain ⟨v, hB, _, _, _, hr⟩ := hS
  have hg := hB.1
  rw [evL_loop]
  by_cases c : F.at_ < F.m.lays.length
  · obtain ⟨r1, r2, r3, r4, r5⟩ := hr c
    have hm : false ∈ F.answd := Classical.byContradiction fun hn => hc ⟨c, hn⟩
    have hnd := (hO.f1 c).nd
    have hnp := (hO.f1 c).np
    have hq := fun hp (hh : HP.get hp ⟨47, cb, 6⟩ = some (.row 4 1 (bl F.answd) false)) => callQ_t (C := cfg) (h := hp) (args := [.ow ⟨47, cb, 6⟩ 1 0 F.parts.length, bv false]) (ps := [.t (.l (bl F.answd)), bv false]) (by simp only [puresOf, pureOf_ow hh (by simp [bl, hnd] : (bl F.answd).length = F.parts.length)]; rfl) (containsb_ret F.answd false (by omega)) (.inl rfl)
    have hcn : F.answd.contains false = true := by simpa using hm
    rw [hcn] at hq
    simp only [bv] at hq
    simp only [fcs, laysT, r2, r3] at hg
    simp [f37l0e, hg, c, filt_t, hq, r5]
  · simp only [fcs, laysT] at hg
    simp [f37l0e, hg, c, filt_t]
theorem come_step {h : HP} {ck cf ca cb : Nat} {F : Flt} (hS : FlS h ck cf ca cb F) (hO : Ok N F) (hc : F.at_ < F.m.lays.length ∧ ¬ false ∈ F.answd) : ∃ h' ck' ca' cb', evL cfg f37l0 ⟨[(0, .pt ⟨34, cf, 5⟩ 15 0 0)], h, ck⟩ = some (.normal, ⟨[(0, .pt ⟨34, cf, 5⟩ 15 0 0)], h', ck'⟩) ∧ FlS h' ck' cf ca' cb' (stepP F) ∧ Ran h ck cf ca cb h' ck' ca' cb' := by
  obtain ⟨v, hB, l1, l2, l3, hr⟩ := hS
  obtain ⟨c, hm⟩ := hc
  have hg := hB.1
  obtain ⟨o0, o1, o2, o3, o4, o5, o6⟩ := hB.2
  obtain ⟨r1, r2, r3, r4, r5⟩ := hr c
  have hf := hO.f1 c
  have hq := fun hp (hh : HP.get hp ⟨47, cb, 6⟩ = some (.row 4 1 (bl F.answd) false)) => callQ_t (C := cfg) (h := hp) (args := [.ow ⟨47, cb, 6⟩ 1 0 F.parts.length, bv false]) (ps := [.t (.l (bl F.answd)), bv false]) (by simp only [puresOf, pureOf_ow hh (by simp [bl, hf.nd] : (bl F.answd).length = F.parts.length)]; rfl) (containsb_ret F.answd false (by have := hf.nd; have := hf.np; omega)) (.inl rfl)
  have hcn : F.answd.contains false = false := by simpa using hm
  rw [hcn] at hq
  have hw : IntKind.i64.wrap ((F.at_ : Int) + 1) = ((F.at_ + 1 : Nat) : Int) := by
    have := hO.f0.m.1
    rw [wrap_id (by omega) (by omega)]; rfl
  have hcb := fun (s : St) (k : Key) (hh : s.hp.get ⟨38, ca, 6⟩ = some (.row 42 1 (F.ans.map fun r => [il r]) false)) => callEv_k (C := cfg) (k := k) (args := [.t (gl F.toks), .t (ptl F.parts), .ow ⟨38, ca, 6⟩ 1 0 F.parts.length]) (ps := [.t (gl F.toks), .t (ptl F.parts), .t (gl F.ans)]) (s := s) rfl rfl (by simp only [puresOf, pureOf_ow hh (by simp [hf.na] : (F.ans.map fun r => [il r]).length = F.parts.length)]; rfl) (comb_ret F.toks F.parts F.ans (by have := hf.np; omega) hf.toks ⟨by have := hf.na; have := hf.np; omega, hO.ans⟩) rfl
  obtain ⟨cf1, cf2⟩ := combP_few (parts := F.parts) (answers := F.ans) hO.f0.toks
  generalize hH : (HP.put (HP.put h ⟨38, ca, 6⟩ ⟨38, ca, 6⟩ (.row 42 1 (F.ans.map fun r => [il r]) true)) ⟨34, cf, 5⟩ ⟨34, cf, 5⟩ (.box 78 (fcs (onP F) v)) : HP) = h2
  have hB2 : FlB h2 cf (onP F) v := by
    subst hH
    refine ⟨?_, o0, o1, o2, o3, o4, o5, o6⟩
    simp [hp_get_put, hg]
  have h0 : Fit0 (onP F) := ⟨hO.f0.m, cf1, by simp only [onP]; rw [cf2]; exact hO.f0.ntok, hO.f0.ph, hO.f0.bag⟩
  obtain ⟨h', ck', v', ca', cb', hrun, hle, hB', hro, hfr⟩ := begin_run (ck := ck + 1 + 1 + 1 + 1) hB2 h0 (by omega)
  have hbg := fun e k => callEv_h (C := cfg) (s := ⟨e, h2, ck + 1 + 1 + 1⟩) rfl hrun k
  have hfr2 : ∀ q, q.c < ck → q ≠ ⟨34, cf, 5⟩ → q ≠ ⟨38, ca, 6⟩ → q ≠ ⟨47, cb, 6⟩ → h'.get q = h.get q := fun q hq e1 e2 e3 => by
    rw [hfr q (by omega) e1]
    subst hH
    rw [get_put_ne e1, get_put_ne e2]
  have hE : evL cfg f37l0 ⟨[(0, .pt ⟨34, cf, 5⟩ 15 0 0)], h, ck⟩ = some (.normal, ⟨[(0, .pt ⟨34, cf, 5⟩ 15 0 0)], h', ck' + 1 + 1⟩) := by
    rw [← hH] at hbg
    simp only [fcs, onP, laysT, r1, r2, r3, iv, gl, ptl, il] at hbg hg hcb r4
    have hcast : ((F.at_ + 1 : Nat) : Int) = (F.at_ : Int) + 1 := rfl
    rw [hcast] at hw
    simp only [hcast] at hbg
    simp only [bv] at hq
    have e1 : ∀ o, (h.put ⟨38, ca, 6⟩ ⟨38, ca, 6⟩ o).get ⟨34, cf, 5⟩ = h.get ⟨34, cf, 5⟩ := fun o => get_put_ne (by simp)
    simp [f37l0e, hg, c, filt_t, hq, r5, hcb, r4, keysOf, freezeAll, freeze1, e1, hp_get_put, over, hw, put_put, ptl, gl, il, laysT, hbg]
  have hm1 := beginP_m (onP F)
  by_cases c2 : F.at_ + 1 < F.m.lays.length
  · obtain ⟨q1, q2, q3, q4, q5⟩ := hro c2
    exact ⟨h', ck' + 1 + 1, ca', cb', hE, ⟨v', hB', by omega, by omega, by omega, fun _ => q1⟩, by omega, hfr2, .inr (by omega), .inr (by omega)⟩
  · refine ⟨h', ck' + 1 + 1, ca, cb, hE, ⟨v', hB', by omega, by omega, by omega, fun hx => absurd hx ?_⟩, by omega, hfr2, .inl rfl, .inl rfl⟩
    show ¬ (beginP (onP F)).at_ < (beginP (onP F)).m.lays.length
    rw [hm1.1, hm1.2.1]
    exact c2
theorem come_loop : ∀ (n : Nat) {h : HP} {ck cf ca cb : Nat} {F : Flt}, FlS h ck cf ca cb F → Ok N F → F.m.lays.length - F.at_ ≤ n → ∃ h' ck' ca' cb' e, evL cfg (.loop f37l0) ⟨[(0, .pt ⟨34, cf, 5⟩ 15 0 0)], h, ck⟩ = some (.exit 0, ⟨e, h', ck'⟩) ∧ FlS h' ck' cf ca' cb' (comeN n F) ∧ Ok N (comeN n F) ∧ Ran h ck cf ca cb h' ck' ca' cb'
  | 0, h, ck, cf, ca, cb, F, hS, hO, hn => by
    obtain ⟨e, hE⟩ := come_end hS hO (fun hc => by omega)
    refine ⟨h, ck + 1, ca, cb, e, hE, ?_, hO, Ran.to (by omega) fun _ _ _ => rfl⟩
    obtain ⟨v, a, b, c, d, f⟩ := hS
    exact ⟨v, a, by omega, by omega, by omega, f⟩
  | n + 1, h, ck, cf, ca, cb, F, hS, hO, hn => by
    unfold comeN
    by_cases hc : F.at_ < F.m.lays.length ∧ ¬ false ∈ F.answd
    · rw [if_pos hc]
      obtain ⟨h1, ck1, ca1, cb1, hE, hS1, hR1⟩ := come_step hS hO hc
      have hm1 := beginP_m (onP F)
      obtain ⟨h2, ck2, ca2, cb2, e, hE2, hS2, hO2, hR2⟩ := come_loop n hS1 (stepP_ok hO) (by
        unfold stepP
        rw [hm1.1, hm1.2.1]
        simp only [onP]
        omega)
      exact ⟨h2, ck2, ca2, cb2, e, by rw [evL_loop_n hE]; exact hE2, hS2, hO2, hR1.trans hR2⟩
    · rw [if_neg hc]
      obtain ⟨e, hE⟩ := come_end hS hO hc
      refine ⟨h, ck + 1, ca, cb, e, hE, ?_, hO, Ran.to (by omega) fun _ _ _ => rfl⟩
      obtain ⟨v, a, b, c, d, f⟩ := hS
      exact ⟨v, a, by omega, by omega, by omega, f⟩
theorem come_run {h : HP} {ck cf ca cb : Nat} {F : Flt} (hS : FlS h ck cf ca cb F) (hO : Ok N F) : ∃ h' ck' ca' cb', runL cfg 37 [.pt ⟨34, cf, 5⟩ 15 0 0] h ck = some (.tu [], h', ck') ∧ FlS h' ck' cf ca' cb' (comeP F) ∧ Ok N (comeP F) ∧ Ran h ck cf ca cb h' ck' ca' cb' := by
  obtain ⟨h', ck', ca', cb', e, hE, hS', hO', hR⟩ := come_loop (F.m.lays.length - F.at_) hS hO (Nat.le_refl _)
  refine ⟨h', ck', ca', cb', ?_, hS', hO', hR⟩
  rw [runL_pf (fn := f37) rfl rfl]
  simp [hE]
end Go.Proofs.YtbocnaoihepjfaaGreat.Pv
end

section
/- What a fleet's answer tells. -/
namespace Go.Proofs.YtbocnaoihepjfaaGreat.Pv
open Go Go.Pev
variable {N : Nat}

def hitP (a : Msg) (p : Pt) : Bool := decide (p.token = a.token) && decide (p.rank = a.rank) && decide (p.expert = a.expert)
def setP (F : Flt) (i : Nat) (v : List Int) : Flt := { F with ans := F.ans.set i v, answd := F.answd.set i true }
def goodA (F : Flt) (a : Msg) : Prop := a.kind = 2 ∧ a.batch = 1 ∧ a.layer = F.at_ ∧ (a.vec.length : Int) = F.m.dim ∧ F.at_ < F.m.lays.length
instance (F : Flt) (a : Msg) : Decidable (goodA F a) := by unfold goodA; exact inferInstance
def answerP (F : Flt) (a : Msg) : Flt := if goodA F a ∧ 0 ≤ fidx (hitP a) F.parts ∧ F.answd.getD (fidx (hitP a) F.parts).toNat true = false then comeP (setP F (fidx (hitP a) F.parts).toNat a.vec) else F
theorem hit_ret (a : Msg) (p : Pt) : RetT cfg 92 [.ag [iv p.token, iv p.rank, iv p.expert, iv p.weight], .pr (msgC a)] (bv (hitP a p)) := by
  refine RetT.of ?_
  rw [runL_pf (fn := f92) rfl rfl]
  unfold hitP
  by_cases h1 : p.token = a.token
  case neg =>
    have d1 : (p.token == a.token) = false := by simp [h1]
    simp [msgC, h1, d1]
  by_cases h2 : p.rank = a.rank
  case neg =>
    have d2 : (p.rank == a.rank) = false := by simp [h2]
    simp [msgC, h1, h2, d2]
  by_cases h3 : p.expert = a.expert
  · simp [msgC, h1, h2, h3]
  · have d3 : (p.expert == a.expert) = false := by simp [h3]
    simp [msgC, h1, h2, h3, d3]
theorem hits_ret (a : Msg) (l : List Pt) (hl : l.length ≤ 1000000) : RetT cfg 91 [.t (ptl l), .fn 92 [.pr (msgC a)]] (.t (.i .i64 (fidx (hitP a) l))) := by
  refine ixf_run (ag := true) (sz := 4) ptT (hitP a) (fun p => .ag [iv p.token, iv p.rank, iv p.expert, iv p.weight]) rfl rfl (by simp [ptT]) (by simp [ptT]) hl ?_
  intro p _ s k hs
  exact ⟨s.ck, by rw [callEv_cl (C := cfg) (hit_ret a p) rfl rfl rfl s k (by simp [puresOf, pureOf, treesOf, treeOf]), hs]; rfl⟩
/-- A message's variable. -/
def mbox (a : Msg) : Ob := .box 44 [iv a.kind, iv a.fr, iv a.to, iv a.seq, iv a.batch, iv a.layer, iv a.token, iv a.rank, iv a.expert, iv a.epoch, .t (il a.vec)]
theorem fls_new {h : HP} {ck cf ca cb : Nat} {F : Flt} (hS : FlS h ck cf ca cb F) {s c o ck' : Nat} (h1 : s ≠ 34) (h2 : s ≠ 38) (h3 : s ≠ 47) (ob : Ob) (hle : ck ≤ ck') : FlS ((⟨s, c, o⟩, ob) :: h) ck' cf ca cb F := by
  obtain ⟨v, hB, l1, l2, l3, hr⟩ := hS
  refine ⟨v, flb_new hB h1 ob, by omega, by omega, by omega, fun hc => ?_⟩
  obtain ⟨a1, a2, a3, a4, a5⟩ := hr hc
  have e1 : ¬ (⟨s, c, o⟩ : Key) = ⟨38, ca, 6⟩ := by rintro h; cases h; exact h2 rfl
  have e2 : ¬ (⟨s, c, o⟩ : Key) = ⟨47, cb, 6⟩ := by rintro h; cases h; exact h3 rfl
  exact ⟨a1, a2, a3, by simp only [HP.get, if_neg e1]; exact a4, by simp only [HP.get, if_neg e2]; exact a5⟩
theorem fls_le {h : HP} {ck cf ca cb ck' : Nat} {F : Flt} (hS : FlS h ck cf ca cb F) (hle : ck ≤ ck') : FlS h ck' cf ca cb F := by
  obtain ⟨v, hB, l1, l2, l3, hr⟩ := hS
  exact ⟨v, hB, by omega, by omega, by omega, hr⟩
set_option maxHeartbeats 2000000 in
theorem answer_run {h : HP} {ck cf ca cb : Nat} {F : Flt} (a : Msg) (hS : FlS h ck cf ca cb F) (hO : Ok N F) (hav : a.vec.length ≤ 1000000) : ∃ h' ck' ca' cb', runL cfg 52 [.pt ⟨34, cf, 5⟩ 15 0 0, msgV a] h ck = some (.tu [], h', ck') ∧ FlS h' ck' cf ca' cb' (answerP F a) ∧ Ok N (answerP F a) ∧ Ran h ck cf ca cb h' ck' ca' cb' := by
  have hS0 := hS
  obtain ⟨v, hB, l1, l2, l3, hr⟩ := hS
  have hg := hB.1
  rw [runL_pf (fn := f52) rfl rfl]
  simp only [fcs, laysT] at hg
  have bad : ∀ n : Nat, ∀ ob : Ob, ¬ (goodA F a ∧ 0 ≤ fidx (hitP a) F.parts ∧ F.answd.getD (fidx (hitP a) F.parts).toNat true = false) → FlS ((⟨3, ck, 0⟩, ob) :: h) (ck + n) cf ca cb (answerP F a) ∧ Ok N (answerP F a) ∧ Ran h ck cf ca cb ((⟨3, ck, 0⟩, ob) :: h) (ck + n) ca cb := fun n ob hc => by
    unfold answerP
    rw [if_neg hc]
    exact ⟨fls_new hS0 (by decide) (by decide) (by decide) ob (by omega), hO, Ran.to (by omega) fun q hq _ => get_new hq⟩
  by_cases c1 : a.kind = 2
  case neg =>
    have d1 : (a.kind != 2) = true := by simp [c1]
    refine ⟨(⟨3, ck, 0⟩, mbox a) :: h, ck + 2, ca, cb, ?_, bad 2 _ (fun h => c1 h.1.1)⟩
    simp [msgV, mbox, hg, filt_t, d1]
  have d1 : (a.kind != 2) = false := by simp [c1]
  by_cases c2 : a.batch = 1
  case neg =>
    have d2 : (a.batch != 1) = true := by simp [c2]
    refine ⟨(⟨3, ck, 0⟩, mbox a) :: h, ck + 2, ca, cb, ?_, bad 2 _ (fun h => c2 h.1.2.1)⟩
    simp [msgV, mbox, hg, filt_t, d1, d2]
  have d2 : (a.batch != 1) = false := by simp [c2]
  by_cases c3 : a.layer = F.at_
  case neg =>
    have d3 : (a.layer != (F.at_ : Int)) = true := by simp [c3]
    refine ⟨(⟨3, ck, 0⟩, mbox a) :: h, ck + 2, ca, cb, ?_, bad 2 _ (fun h => c3 h.1.2.2.1)⟩
    simp [msgV, mbox, hg, filt_t, d1, d2, d3]
  have d3 : (a.layer != (F.at_ : Int)) = false := by simp [c3]
  by_cases c4 : (a.vec.length : Int) = F.m.dim
  case neg =>
    have d4 : ((a.vec.length : Int) != F.m.dim) = true := by simp [c4]
    refine ⟨(⟨3, ck, 0⟩, mbox a) :: h, ck + 2, ca, cb, ?_, bad 2 _ (fun h => c4 h.1.2.2.2.1)⟩
    simp [msgV, mbox, hg, filt_t, d1, d2, d3, d4]
  have d4 : ((a.vec.length : Int) != F.m.dim) = false := by simp [c4]
  by_cases c5 : F.at_ < F.m.lays.length
  case neg =>
    have d5 : F.m.lays.length ≤ F.at_ := by omega
    refine ⟨(⟨3, ck, 0⟩, mbox a) :: h, ck + 2, ca, cb, ?_, bad 2 _ (fun h => c5 h.1.2.2.2.2)⟩
    simp [msgV, mbox, hg, filt_t, d1, d2, d3, d4, d5]
  have d5 : ¬ F.m.lays.length ≤ F.at_ := by omega
  have hga : goodA F a := ⟨c1, c2, c3, c4, c5⟩
  obtain ⟨r1, r2, r3, r4, r5⟩ := hr c5
  have hf := hO.f1 c5
  have hx := fun (s : St) (k : Key) => callEv_fn (C := cfg) (caps0 := [.pt ⟨3, ck, 0⟩ 11 0 0]) (hits_ret a F.parts (by have := hf.np; omega)) rfl rfl rfl s k
  have hlt := fidx_lt (hitP a) F.parts
  have hge := fidx_ge (hitP a) F.parts
  generalize hidx : fidx (hitP a) F.parts = idx at *
  simp only [r1, r2, r3] at hg
  simp only [ptl, msgC, il] at hx hg
  by_cases c6 : idx < 0
  · refine ⟨(⟨3, ck, 0⟩, mbox a) :: h, ck + 4, ca, cb, ?_, bad 4 _ (fun h => by omega)⟩
    simp [msgV, mbox, hg, filt_t, d1, d2, d3, d4, d5, hx, capsOf, capOf, treesOf, treeOf, c6]
  obtain ⟨i, rfl⟩ : ∃ i : Nat, idx = i := ⟨idx.toNat, by omega⟩
  have hi : i < F.parts.length := by omega
  have hid : i < F.answd.length := by have := hf.nd; omega
  have hia : i < F.ans.length := by have := hf.na; omega
  have d6 : decide ((i : Int) < 0) = false := decide_eq_false (by omega)
  have hgd : F.answd.getD i true = F.answd[i] := by simp [List.getD_eq_getElem?_getD, hid]
  have hrg : (bl F.answd)[i]? = some [.b F.answd[i]] := by simp [bl, hid]
  cases c7 : F.answd[i] with
  | true =>
    rw [c7] at hrg
    refine ⟨(⟨3, ck, 0⟩, mbox a) :: h, ck + 4, ca, cb, ?_, bad 4 _ (fun h => by
      have := h.2.2
      rw [Int.toNat_natCast, hgd, c7] at this
      cases this)⟩
    simp [msgV, mbox, hg, filt_t, d1, d2, d3, d4, d5, hx, capsOf, capOf, treesOf, treeOf, d6, hi, r5, hrg]
  | false =>
    rw [c7] at hrg hgd
    have hAP : answerP F a = comeP (setP F i a.vec) := by
      unfold answerP
      rw [hidx, Int.toNat_natCast, if_pos ⟨hga, by omega, hgd⟩]
    generalize hH : ((⟨3, ck, 0⟩, mbox a) :: HP.put (HP.put h ⟨38, ca, 6⟩ ⟨38, ca, 6⟩ (.row 42 1 ((F.ans.set i a.vec).map fun r => [il r]) false)) ⟨47, cb, 6⟩ ⟨47, cb, 6⟩ (.row 4 1 (bl (F.answd.set i true)) false) : HP) = h2
    have hS2 : FlS h2 (ck + 1 + 1 + 1 + 1 + 1 + 1) cf ca cb (setP F i a.vec) := by
      subst hH
      have hb : FlS (HP.put (HP.put h ⟨38, ca, 6⟩ ⟨38, ca, 6⟩ (.row 42 1 ((F.ans.set i a.vec).map fun r => [il r]) false)) ⟨47, cb, 6⟩ ⟨47, cb, 6⟩ (.row 4 1 (bl (F.answd.set i true)) false)) ck cf ca cb (setP F i a.vec) := by
        refine ⟨v, ⟨?_, hB.2⟩, l1, l2, l3, fun _ => ⟨r1, r2, r3, ?_, ?_⟩⟩
        · rw [get_put_ne (by simp), get_put_ne (by simp)]; exact hB.1
        · rw [get_put_ne (by simp), hp_get_put, if_pos rfl, r4]; rfl
        · rw [hp_get_put, if_pos rfl, get_put_ne (by simp), r5]; rfl
      exact fls_le (fls_new hb (by decide) (by decide) (by decide) _ (Nat.le_refl _)) (by omega)
    have hO2 : Ok N (setP F i a.vec) := ⟨⟨hO.f0.m, hO.f0.toks, hO.f0.ntok, hO.f0.ph, hO.f0.bag⟩, fun _ => ⟨by simp [setP, hf.na], by simp [setP, hf.nd], hf.np, hf.tok, hf.toks, hf.ntok, hf.ph, hf.bag⟩, fun r hr => by
      rcases List.mem_or_eq_of_mem_set hr with hr | rfl
      · exact hO.ans r hr
      · exact hav, hO.led, hO.bags, hO.led5⟩
    obtain ⟨h', ck', ca', cb', hrun, hS', hO', hR⟩ := come_run hS2 hO2
    have hcm := fun e k => callEv_h (C := cfg) (s := ⟨e, h2, ck + 1 + 1 + 1 + 1 + 1⟩) rfl hrun k
    rw [hAP]
    refine ⟨h', ck' + 1 + 1, ca', cb', ?_, fls_le hS' (by omega), hO', ?_⟩
    · rw [← hH] at hcm
      simp only [mbox, il, iv, List.map_set, bl] at hcm r4 r5
      simp only [bl] at hrg
      simp [msgV, hg, filt_t, d1, d2, d3, d4, d5, hx, capsOf, capOf, treesC, treesOf, treeOf, keysOf, freezeAll, d6, hi, hia, hid, r4, r5, bl, hrg, c7, hp_get_put, over, hcm]
    · have hle := hR.le
      refine ⟨by omega, fun q hq e1 e2 e3 => ?_, ?_, ?_⟩
      · rw [hR.fr q (by omega) e1 e2 e3]
        subst hH
        rw [get_new hq, get_put_ne e3, get_put_ne e2]
      · rcases hR.ca with e | e
        · exact .inl e
        · exact .inr (by omega)
      · rcases hR.cb with e | e
        · exact .inl e
        · exact .inr (by omega)
end Go.Proofs.YtbocnaoihepjfaaGreat.Pv
end

section
/- What slices.IndexFunc and slices.DeleteFunc tell, of place.Retire's closure. -/
namespace Go.Proofs.YtbocnaoihepjfaaGreat.Pv
open Go Go.Pev

theorem filt_true {α : Type} (l : List α) : List.filter (fun _ => true) l = l := List.filter_eq_self.2 fun _ _ => rfl

/-- The closure, of read-only cells, or of a variable. -/
theorem ret1_pr (x n : Int) (s : St) (k : Key) : callEv cfg (runL cfg) 62 [.t (.i .i64 x), .pr [.i .i64 n]] s k = some (.t (.b (x == n)), s.hp, s.ck + 4) := by
  refine callEv_h (C := cfg) (c' := s.ck + 3) rfl ?_ k
  rw [runL_pf (fn := f62) rfl rfl]
  simp [filt_true]
theorem ret1_pt (x n : Int) (q : Key) (bt : Nat) (s : St) (k : Key) (hq : s.hp.get q = some (.box bt [.t (.i .i64 n)])) : callEv cfg (runL cfg) 62 [.t (.i .i64 x), .pt q 1 0 0] s k = some (.t (.b (x == n)), s.hp, s.ck + 4) := by
  refine callEv_h (C := cfg) (c' := s.ck + 3) rfl ?_ k
  rw [runL_pf (fn := f62) rfl rfl]
  simp [hq, filt_true]

def idx (l : List Int) (n : Int) : Int := if l.contains n then l.idxOf n else -1

theorem ixf_loop (l : List Int) (n : Int) (hl : l.length ≤ 1000000) : ∀ (k i ck : Nat), i + k = l.length → (∀ j, j < i → l[j]? ≠ some n) → ∃ c, evL cfg (.loop f102l0) ⟨[(0, .t (il l)), (1, .fn 62 [.pr [.i .i64 n]]), (7, iv l.length), (8, iv i)], [], ck⟩ =
    some (if (l.drop i).contains n then (.ret, ⟨[(4, iv (idx l n))], [], c⟩) else (.exit 0, ⟨[(0, .t (il l)), (1, .fn 62 [.pr [.i .i64 n]]), (7, iv l.length), (8, iv l.length), (9, bv false)], [], c⟩)) := by
  intro k
  induction k with
  | zero =>
    intro i ck h _
    obtain rfl : i = l.length := by omega
    refine ⟨ck + 1, ?_⟩
    rw [evL_loop]
    simp [f102l0e]
  | succ k ih =>
    intro i ck h hb
    have hi : i < l.length := by omega
    by_cases hx : l[i] = n
    · have hid : l.idxOf n = i := by
        have h1 : l.idxOf n < l.length := List.idxOf_lt_length_of_mem (by rw [← hx]; exact List.getElem_mem hi)
        have h2 : l[l.idxOf n] = n := List.getElem_idxOf h1
        have h3 : ¬ l.idxOf n < i := fun h => hb _ h (by rw [List.getElem?_eq_getElem h1, h2])
        have h4 : ¬ i < l.idxOf n := fun h => by
          have := List.not_of_lt_findIdx (p := (· == n)) (xs := l) (i := i) (by simpa [List.idxOf] using h)
          simp [hx] at this
        omega
      have hin : l.contains n = true := by simp; rw [← hx]; exact List.getElem_mem hi
      refine ⟨ck + 7 + 1, ?_⟩
      rw [evL_loop, contains_at hi hx]
      simp only [idx, hin, hid]
      simp [f102l0e, hi, hx, ret1_pr, filt_true]
    · obtain ⟨c, hc⟩ := ih (i + 1) (ck + 8) (by omega) (fun j hj => by
        rcases Nat.lt_succ_iff_lt_or_eq.1 hj with h | rfl
        · exact hb j h
        · rw [List.getElem?_eq_getElem hi]; simpa using hx)
      refine ⟨c, ?_⟩
      rw [evL_loop_n (s1 := ⟨[(0, .t (il l)), (1, .fn 62 [.pr [.i .i64 n]]), (7, iv l.length), (8, iv ((i + 1 : Nat) : Int))], [], ck + 8⟩), hc, contains_not hi hx]
      have hb : (l[i] == n) = false := by simp [hx]
      have hw : IntKind.i64.wrap ((i : Int) + 1) = (i : Int) + 1 := wrap_id (by omega) (by omega)
      simp [f102l0e, hi, hb, hw, ret1_pr, filt_true]

theorem ixf_ret (l : List Int) (n : Int) (hl : l.length ≤ 1000000) : RetT cfg 102 [.t (il l), .fn 62 [.pr [.i .i64 n]]] (iv (idx l n)) := by
  obtain ⟨c, hc⟩ := ixf_loop l n hl l.length 0 2 (by omega) (by omega)
  refine RetT.of ?_
  rw [runL_pf (fn := f102) rfl rfl]
  simp at hc
  by_cases hx : n ∈ l
  · simp [hx] at hc; simp [hc]
  · have : idx l n = -1 := by simp [idx, hx]
    rw [this]
    simp [hx] at hc; simp [hc]

theorem ixf_call (l : List Int) (n : Int) (hl : l.length ≤ 1000000) (k q : Key) (ty bt : Nat) (s : St) (kk : Key) (hk : s.hp.get k = some (.row ty 1 (cl l) false)) (hq : s.hp.get q = some (.box bt [.t (.i .i64 n)])) : callEv cfg (runL cfg) 102 [.ow k 1 0 l.length, .fn 62 [.pt q 1 0 0]] s kk = some (.t (.i .i64 (idx l n)), s.hp, s.ck) := by
  have h1 : treeOf s.hp (.ow k 1 0 l.length) = some (il l) := treeOf_ow hk (by simp [cl])
  refine callEv_t (C := cfg) rfl rfl (ps := [.t (il l), .fn 62 [.pr [.i .i64 n]]]) ?_ (ixf_ret l n hl) (.inl rfl)
  simp only [puresOf, pureOf, h1]
  simp [capsOf, capOf, hq, treesOf, treeOf]

theorem del_loop (n : Int) (k q : Key) (ty bt : Nat) (rest : HP) (hkq : ¬ k = q) (hq : rest.get q = some (.box bt [.t (.i .i64 n)])) : ∀ (m j w : Nat) (r : List Int) (ck : Nat), j + m = r.length → w ≤ j → r.length ≤ 1000000 → ∃ c r', r'.length = r.length ∧ r'.take (w + ((r.drop j).filter (· != n)).length) = r.take w ++ (r.drop j).filter (· != n) ∧ evL cfg (.loop f61l0) ⟨[(0, .ow k 1 0 r.length), (1, .fn 62 [.pt q 1 0 0]), (5, iv w), (6, iv j)], (k, .row ty 1 (cl r) false) :: rest, ck⟩ =
    some (.exit 0, ⟨[(0, .ow k 1 0 r.length), (1, .fn 62 [.pt q 1 0 0]), (5, iv ((w + ((r.drop j).filter (· != n)).length : Nat) : Int)), (6, iv r.length), (19, bv false)], (k, .row ty 1 (cl r') false) :: rest, c⟩) := by
  intro m
  induction m with
  | zero =>
    intro j w r ck h hw hl
    obtain rfl : j = r.length := by omega
    refine ⟨ck + 1, r, rfl, by simp, ?_⟩
    rw [evL_loop]
    simp [f61l0e]
  | succ m ih =>
    intro j w r ck h hwj hl
    have hj : j < r.length := by omega
    have hw6 : IntKind.i64.wrap ((j : Int) + 1) = (j : Int) + 1 := wrap_id (by omega) (by omega)
    have hw5 : IntKind.i64.wrap ((w : Int) + 1) = (w : Int) + 1 := wrap_id (by omega) (by omega)
    have hd : r.drop j = r[j] :: r.drop (j + 1) := List.drop_eq_getElem_cons hj
    have hwl : w < r.length := by omega
    by_cases hx : r[j] = n
    · have hb : (r[j] == n) = true := by simp [hx]
      have hf : (r.drop j).filter (· != n) = (r.drop (j + 1)).filter (· != n) := by rw [hd]; simp [hx]
      obtain ⟨c, r', h1, h2, h3⟩ := ih (j + 1) w r (ck + 8) (by omega) (by omega) hl
      refine ⟨c, r', h1, by rw [hf]; exact h2, ?_⟩
      rw [hf, ← h3]
      rw [evL_loop_n (s1 := ⟨[(0, .ow k 1 0 r.length), (1, .fn 62 [.pt q 1 0 0]), (5, iv w), (6, iv ((j + 1 : Nat) : Int))], (k, .row ty 1 (cl r) false) :: rest, ck + 8⟩)]
      have hr1 := fun (s : St) (kk : Key) hg => ret1_pt r[j] n q bt s kk hg
      simp [f61l0e, hj, hb, hw6, cl, hr1, hkq, hq, filt_true]
    · have hb : (r[j] == n) = false := by simp [hx]
      have hf : (r.drop j).filter (· != n) = r[j] :: (r.drop (j + 1)).filter (· != n) := by rw [hd]; exact List.filter_cons_of_pos (by simpa using hx)
      obtain ⟨c, r', h1, h2, h3⟩ := ih (j + 1) (w + 1) (r.set w r[j]) (ck + 10) (by simp; omega) (by omega) (by simpa using hl)
      have hdr : (r.set w r[j]).drop (j + 1) = r.drop (j + 1) := by
        rw [List.drop_set]; simp; omega
      rw [hdr] at h2 h3
      simp only [List.length_set] at h1 h2 h3
      have htk : (r.set w r[j]).take (w + 1) = r.take w ++ [r[j]] := by
        rw [List.take_succ_eq_append_getElem (by simpa using hwl)]
        simp [List.take_set_of_le]
      refine ⟨c, r', h1, ?_, ?_⟩
      · rw [hf, List.length_cons, show w + (((r.drop (j + 1)).filter (· != n)).length + 1) = w + 1 + ((r.drop (j + 1)).filter (· != n)).length by omega, h2, htk]
        simp
      · rw [hf, List.length_cons, show w + (((r.drop (j + 1)).filter (· != n)).length + 1) = w + 1 + ((r.drop (j + 1)).filter (· != n)).length by omega, ← h3]
        rw [evL_loop_n (s1 := ⟨[(0, .ow k 1 0 r.length), (1, .fn 62 [.pt q 1 0 0]), (5, iv ((w + 1 : Nat) : Int)), (6, iv ((j + 1 : Nat) : Int))], (k, .row ty 1 (cl (r.set w r[j])) false) :: rest, ck + 10⟩)]
        have hr1 := fun (s : St) (kk : Key) hg => ret1_pt r[j] n q bt s kk hg
        simp [f61l0e, hj, hb, hw6, hw5, cl, hr1, hkq, hq, filt_true, hwl, treesC, treesOf, treeOf, keysOf, freezeAll, over, List.map_set]

theorem del_split (n : Int) : ∀ l : List Int, n ∈ l → l.take (l.idxOf n) ++ (l.drop (l.idxOf n + 1)).filter (· != n) = l.filter (· != n)
  | [], h => by cases h
  | a :: l, h => by
    by_cases e : a = n
    · subst e; simp
    · have h' : n ∈ l := by
        rcases List.mem_cons.1 h with h | h
        · exact absurd h.symm e
        · exact h
      have := del_split n l h'
      have hi : (a :: l).idxOf n = l.idxOf n + 1 := by
        rw [List.idxOf_cons]
        have : (a == n) = false := by simpa using e
        rw [this]; rfl
      rw [hi, List.take_succ_cons, List.drop_succ_cons, List.cons_append, this, List.filter_cons_of_pos (by simpa using e)]

theorem del_run (l : List Int) (n : Int) (hl : l.length ≤ 1000000) (k q : Key) (ty bt : Nat) (rest : HP) (hkq : ¬ k = q) (hq : rest.get q = some (.box bt [.t (.i .i64 n)])) (hk4 : ¬ k.s = 4) (hf : rest.filter (fun p => !([4] : List Nat).contains p.1.s) = rest) (ck : Nat) : ∃ c, runL cfg 61 [.ow k 1 0 l.length, .fn 62 [.pt q 1 0 0]] ((k, .row ty 1 (cl l) false) :: rest) ck = some (.ow k 1 0 (l.filter (· != n)).length, (k, .row ty 1 (cl (l.filter (· != n))) false) :: rest, c) := by
  have hix := fun (s : St) (kk : Key) h1 h2 => ixf_call l n hl k q ty bt s kk h1 h2
  have hf : List.filter (fun p : Key × Ob => !decide (p.fst.s = 4)) rest = rest := List.filter_eq_self.2 fun a ha => by
    have := List.filter_eq_self.1 hf a ha
    simpa using this
  by_cases hx : n ∈ l
  · have hidx : idx l n = l.idxOf n := by simp [idx, hx]
    have hil : l.idxOf n < l.length := List.idxOf_lt_length_of_mem hx
    have hw : IntKind.i64.wrap ((l.idxOf n : Int) + 1) = (l.idxOf n : Int) + 1 := wrap_id (by omega) (by omega)
    obtain ⟨c, r', h1, h2, h3⟩ := del_loop n k q ty bt rest hkq hq (l.length - (l.idxOf n + 1)) (l.idxOf n + 1) (l.idxOf n) l (ck + 4) (by omega) (by omega) hl
    rw [del_split n l hx] at h2
    have hlen : l.idxOf n + ((l.drop (l.idxOf n + 1)).filter (· != n)).length = (l.filter (· != n)).length := by
      rw [← del_split n l hx, List.length_append, List.length_take, Nat.min_eq_left (by omega)]
    rw [hlen] at h2 h3
    have hn1 : ((l.idxOf n : Int) == -1) = false := by simp
    have hle : (l.filter (· != n)).length ≤ l.length := List.length_filter_le _ _
    have hclr : (cl r').take (l.filter (· != n)).length = cl (l.filter (· != n)) := by
      rw [← h2]; simp [cl]
    have hlr : (cl r').length = l.length := by simp [cl, h1]
    refine ⟨c + 2, ?_⟩
    rw [runL_pf (fn := f61) rfl rfl]
    simp at h3
    simp [hk4, hf, hix, hkq, hq, hidx, filt_true, hn1, hw, h3, clr, hle, hlr, hclr]
  · have hidx : idx l n = -1 := by simp [idx, hx]
    have hfl : l.filter (· != n) = l := List.filter_eq_self.2 fun a ha => by
      have : a ≠ n := fun e => hx (e ▸ ha)
      simpa using this
    refine ⟨ck + 4, ?_⟩
    rw [runL_pf (fn := f61) rfl rfl, hfl]
    simp [hk4, hf, hix, hkq, hq, hidx, filt_true]
end Go.Proofs.YtbocnaoihepjfaaGreat.Pv
end

section
/- What place.Retire tells. -/
namespace Go.Proofs.YtbocnaoihepjfaaGreat.Pv
open Go Go.Pev

def pret (e : Int) (h : List (List Int)) (x n : Int) : Int × List (List Int) × Int := if may e h x n = false then (e, h, 1) else if holds h x n = false then (e, h, 4) else if (h.getD x.toNat []).length = 1 then (e, h, 7) else (e + 1, h.set x.toNat ((h.getD x.toNat []).filter (· != n)), 0)

theorem turned_ow (e : Int) (h : List (List Int)) (x : Nat) (l : List Int) (hh : h.length ≤ 1000000) (hx : x < h.length) (he : 0 ≤ e ∧ e < 2147483647) (s : St) (k1 k : Key) (ty m : Nat) (hm : m = l.length) (hg : s.hp.get k1 = some (.row ty 1 (cl l) false)) : callEv cfg (runL cfg) 60 [.ag [iv e, .t (gl h)], iv x, .ow k1 1 0 m] s k = some (.ag [iv (e + 1), .t (gl (h.set x l))], freezeAll s.hp [k1], s.ck) := by
  subst hm
  have hps : puresOf s.hp [.ag [iv e, .t (gl h)], iv x, .ow k1 1 0 l.length] = some [.ag [iv e, .t (gl h)], iv x, .t (il l)] := by
    have ht : List.take l.length (cl l) = cl l := List.take_of_length_le (by simp [cl])
    simp [puresOf, pureOf, treesOf, treeOf, hg, ht, gl, il, cl]
    simpa [cl] using ht
  exact callEv_k (C := cfg) (k := k) rfl rfl hps (turned_ret e h x l hh hx he) rfl

theorem pret_ret (e : Int) (h : List (List Int)) (x n : Int) (hh : h.length ≤ 1000000) (hr : ∀ r ∈ h, r.length ≤ 100000) : RetT cfg 24 [.ag [iv e, .t (gl h)], iv x, iv n] (.tu [.ag [iv (pret e h x n).1, .t (gl (pret e h x n).2.1)], iv (pret e h x n).2.2]) := by
  have hm := fun s k => callEv_tr (C := cfg) (may_ret e h x n hh (fun r hm => by have := hr r hm; omega)) rfl rfl rfl s k
  have hho := fun s k => callEv_tr (C := cfg) (holds_ret e h x n (fun r hm => by have := hr r hm; omega)) rfl rfl rfl s k
  simp only [gl, il, iv, bv] at hm hho
  unfold RetT
  rw [runL_pf (fn := f24) rfl rfl]
  unfold pret
  by_cases h1 : may e h x n = false
  · rw [if_pos h1]
    simp [gl, il, hm, h1, over]
    refine ⟨_, _, ⟨rfl, rfl⟩, ?_⟩
    simp [resOf, resOfs, resOf1, treesOf, treeOf, gl, il]
  · rw [if_neg h1]
    have h1' : may e h x n = true := by simpa using h1
    by_cases h2 : holds h x n = false
    · rw [if_pos h2]
      simp [gl, il, hm, hho, h1', h2, over]
      refine ⟨_, _, ⟨rfl, rfl⟩, ?_⟩
      simp [resOf, resOfs, resOf1, treesOf, treeOf, gl, il]
    · rw [if_neg h2]
      have h2' : holds h x n = true := by simpa using h2
      have hp := h1'
      simp only [may, Bool.and_eq_true, decide_eq_true_eq] at hp
      obtain ⟨⟨⟨⟨⟨p1, p2⟩, p3⟩, p4⟩, p5⟩, p6⟩ := hp
      have p0 := (right_e p1).1
      obtain ⟨y, rfl⟩ : ∃ y : Nat, x = y := ⟨x.toNat, by omega⟩
      have hy : y < h.length := by omega
      have hry := hr _ (List.getElem_mem hy)
      have hgd : h.getD y [] = h[y] := by simp [List.getD_eq_getElem?_getD, List.getElem?_eq_getElem hy]
      simp only [Int.toNat_natCast, hgd]
      by_cases h3 : h[y].length = 1
      · rw [if_pos h3]
        simp [gl, il, hm, hho, h1', h2', over, hy, h3]
        refine ⟨_, _, ⟨rfl, rfl⟩, ?_⟩
        simp [resOf, resOfs, resOf1, treesOf, treeOf, gl, il]
      · rw [if_neg h3]
        have h3b : ((h[y].length : Int) == 1) = false := by simp; omega
        have hcl := fun hp k => callO_tr (C := cfg) (clone_ret (h[y].map fun n => [.i .i64 n]) (by simp) (by simpa using (by omega : h[y].length ≤ 1000000))) rfl rfl rfl hp k
        obtain ⟨c, hde⟩ := del_run h[y] n (by omega) ⟨38, 4, 7⟩ ⟨5, 0, 1⟩ 3 3 [(⟨6, 0, 2⟩, .box 27 [.t (.i .i64 0), .nl]), (⟨5, 0, 1⟩, .box 3 [iv n]), (⟨3, 0, 0⟩, .box 27 [iv e, .t (gl h)])] (by simp) (by simp) (by simp) (by simp) 5
        have hdE := fun (env : Env) (k : Key) => callEv_h (C := cfg) (s := ⟨env, _, 4⟩) rfl hde k
        have hT := fun (s : St) (k1 k : Key) (hg : s.hp.get k1 = some (.row 3 1 (cl (h[y].filter (· != n))) false)) => turned_ow e h y (h[y].filter (· != n)) hh hy ⟨p0, p6⟩ s k1 k _ _ rfl hg
        simp only [gl, il, iv, bv, cl, List.length_map] at hcl hdE hT
        simp [gl, il, hm, hho, h1', h2', hy, h3b, hcl, hdE, hT, freezeAll, freeze1, over, keptB, isBox, isRow]
        refine ⟨_, _, ⟨rfl, rfl⟩, ?_⟩
        simp [resOf, resOfs, resOf1, treesOf, treeOf, gl, il]
end Go.Proofs.YtbocnaoihepjfaaGreat.Pv
end

section
/- What a fleet's Drop, Twice, Add, Retire, Bag, Worked, Done tell. -/
namespace Go.Proofs.YtbocnaoihepjfaaGreat.Pv
open Go Go.Pev
variable {N : Nat}

/-- The same but for what lies in the box. -/
theorem fls_put {h : HP} {ck cf ca cb : Nat} {F F' : Flt} {v v' : Vs} (hB : FlB h cf F v) (l1 : cf < ck) (l2 : ca < ck) (l3 : cb < ck) (hr : F.at_ < F.m.lays.length → rowsAre h F v ca cb) (hV : VsOk F' v') (e1 : F'.parts = F.parts) (e2 : F'.ans = F.ans) (e3 : F'.answd = F.answd) (e4 : F'.at_ = F.at_) (e5 : F'.m = F.m) (g1 : v'.vp = v.vp) (g2 : v'.va = v.va) (g3 : v'.vd = v.vd) : FlS (h.put ⟨34, cf, 5⟩ ⟨34, cf, 5⟩ (.box 78 (fcs F' v'))) ck cf ca cb F' := by
  refine ⟨v', ⟨?_, hV⟩, l1, l2, l3, fun hc => ?_⟩
  · rw [hp_get_put, if_pos rfl, hB.1]; rfl
  · rw [e4, e5] at hc
    obtain ⟨r1, r2, r3, r4, r5⟩ := hr hc
    exact ⟨by rw [g1, e1]; exact r1, by rw [g2, e1]; exact r2, by rw [g3, e1]; exact r3, by rw [get_put_ne (by simp), e2]; exact r4, by rw [get_put_ne (by simp), e3]; exact r5⟩
theorem ran_put {h : HP} {ck cf ca cb n : Nat} (ob : Ob) : Ran h ck cf ca cb (h.put ⟨34, cf, 5⟩ ⟨34, cf, 5⟩ ob) (ck + n) ca cb := Ran.to (by omega) fun q hq e => get_put_ne e
theorem take_s {l : List (List UInt8)} {i : Int} (h : ∀ s ∈ l, s.length ≤ 100000) : (∀ s ∈ (bagTake l i).2.1, s.length ≤ 100000) ∧ (bagTake l i).1.length ≤ 100000 ∧ (bagTake l i).2.1.length ≤ l.length := by
  unfold bagTake
  split
  · refine ⟨fun s hs => ?_, ?_, ?_⟩
    · rcases List.mem_append.1 hs with hs | hs
      · exact h s (List.mem_of_mem_take hs)
      · exact h s (List.mem_of_mem_drop hs)
    · rename_i hc
      have hj : i.toNat < l.length := by omega
      have : l.getD i.toNat [] = l[i.toNat] := by simp [List.getD_eq_getElem?_getD, hj]
      simp only [this]
      exact h _ (List.getElem_mem hj)
    · simp; omega
  · exact ⟨h, by simp, Nat.le_refl _⟩
def dropP (F : Flt) (i : Int) : Flt × Int := ({ F with bag := (bagTake F.bag i).2.1 }, if (bagTake F.bag i).2.2 then 0 else 4)
theorem bag_ok {F : Flt} {b : List (List UInt8)} (hO : Ok N F) (h1 : b.length ≤ 1000000) (h2 : ∀ s ∈ b, s.length ≤ 100000) : Ok N { F with bag := b } := ⟨⟨hO.f0.m, hO.f0.toks, hO.f0.ntok, hO.f0.ph, h1⟩, fun hc => ⟨(hO.f1 hc).na, (hO.f1 hc).nd, (hO.f1 hc).np, (hO.f1 hc).tok, (hO.f1 hc).toks, (hO.f1 hc).ntok, (hO.f1 hc).ph, h1⟩, hO.ans, hO.led, h2, hO.led5⟩
theorem drop_run {h : HP} {ck cf ca cb : Nat} {F : Flt} (i : Int) (hS : FlS h ck cf ca cb F) (hO : Ok N F) : ∃ h' ck', runL cfg 29 [.pt ⟨34, cf, 5⟩ 15 0 0, iv i] h ck = some (iv (dropP F i).2, h', ck') ∧ FlS h' ck' cf ca cb (dropP F i).1 ∧ Ok N (dropP F i).1 ∧ Ran h ck cf ca cb h' ck' ca cb := by
  obtain ⟨v, hB, l1, l2, l3, hr⟩ := hS
  have hg := hB.1
  obtain ⟨o0, o1, o2, o3, o4, o5, o6⟩ := hB.2
  have hT := fun s k => callEv_rd (C := cfg) (btake_ret F.bag i hO.f0.bag) rfl rfl (rdA_v o5 (rdA_t rdA_nil)) s k
  obtain ⟨t1, t2, t3⟩ := take_s (i := i) hO.bags
  unfold dropP
  generalize bagTake F.bag i = r at *
  obtain ⟨s, rest, ok⟩ := r
  have hV : VsOk { F with bag := rest } { v with vb := .t (sl rest) } := ⟨o0, o1, o2, o3, o4, rd_t _, o6⟩
  refine ⟨h.put ⟨34, cf, 5⟩ ⟨34, cf, 5⟩ (.box 78 (fcs { F with bag := rest } { v with vb := .t (sl rest) })), ck + 5, ?_, fls_le (fls_put hB l1 l2 l3 hr hV rfl rfl rfl rfl rfl rfl rfl rfl) (by omega), bag_ok hO (by have := hO.f0.bag; simp only at t3 ⊢; omega) t1, ran_put _⟩
  simp only [iv, bv] at hT
  simp only [fcs] at hg
  rw [runL_pf (fn := f29) rfl rfl]
  cases ok <;> simp [fcs, hg, hT, filt_t, over]
def twiceP (F : Flt) (i : Int) : Flt × Int := if 0 ≤ i ∧ i < F.bag.length then ({ F with bag := bagTwice F.bag i }, 0) else (F, 4)
theorem twice_s {l : List (List UInt8)} {i : Int} (h : ∀ s ∈ l, s.length ≤ 100000) (hl : l.length ≤ 1000000) : (∀ s ∈ bagTwice l i, s.length ≤ 100000) ∧ (bagTwice l i).length ≤ 1000000 := by
  unfold bagTwice
  split
  · rename_i hc
    have hj : i.toNat < l.length := by omega
    have e : l.getD i.toNat [] = l[i.toNat] := by simp [List.getD_eq_getElem?_getD, hj]
    unfold bagPut
    split
    · refine ⟨fun s hs => ?_, by simp; omega⟩
      rcases List.mem_append.1 hs with hs | hs
      · exact h s hs
      · rw [List.mem_singleton] at hs
        rw [hs, e]
        exact h _ (List.getElem_mem hj)
    · exact ⟨h, hl⟩
  · exact ⟨h, hl⟩
theorem twice_run {h : HP} {ck cf ca cb : Nat} {F : Flt} (i : Int) (hS : FlS h ck cf ca cb F) (hO : Ok N F) : ∃ h' ck', runL cfg 63 [.pt ⟨34, cf, 5⟩ 15 0 0, iv i] h ck = some (iv (twiceP F i).2, h', ck') ∧ FlS h' ck' cf ca cb (twiceP F i).1 ∧ Ok N (twiceP F i).1 ∧ Ran h ck cf ca cb h' ck' ca cb := by
  have hS0 := hS
  obtain ⟨v, hB, l1, l2, l3, hr⟩ := hS
  have hg := hB.1
  obtain ⟨o0, o1, o2, o3, o4, o5, o6⟩ := hB.2
  have hT := fun s k => callEv_rd (C := cfg) (btwice_ret F.bag i hO.f0.bag) rfl rfl (rdA_v o5 (rdA_t rdA_nil)) s k
  have hlen := rd_len o5
  rw [slc_len] at hlen
  rw [runL_pf (fn := f63) rfl rfl]
  unfold twiceP
  simp only [fcs] at hg
  by_cases c1 : i < 0
  · rw [if_neg (by omega)]
    refine ⟨h, ck + 3, ?_, fls_le hS0 (by omega), hO, Ran.to (by omega) fun _ _ _ => rfl⟩
    simp [hg, c1, filt_t]
  by_cases c2 : (F.bag.length : Int) ≤ i
  · rw [if_neg (by omega)]
    refine ⟨h, ck + 3, ?_, fls_le hS0 (by omega), hO, Ran.to (by omega) fun _ _ _ => rfl⟩
    simp [hg, c1, c2, hlen, filt_t]
  rw [if_pos (by omega)]
  obtain ⟨t1, t2⟩ := twice_s (i := i) hO.bags hO.f0.bag
  have hV : VsOk { F with bag := bagTwice F.bag i } { v with vb := .t (sl (bagTwice F.bag i)) } := ⟨o0, o1, o2, o3, o4, rd_t _, o6⟩
  refine ⟨h.put ⟨34, cf, 5⟩ ⟨34, cf, 5⟩ (.box 78 (fcs { F with bag := bagTwice F.bag i } { v with vb := .t (sl (bagTwice F.bag i)) })), ck + 4, ?_, fls_le (fls_put hB l1 l2 l3 hr hV rfl rfl rfl rfl rfl rfl rfl rfl) (by omega), bag_ok hO t2 t1, ran_put _⟩
  simp [fcs, hg, hT, c1, c2, hlen, filt_t, over]
def addP (F : Flt) (x n : Int) : Flt × Int := ({ F with pe := (padd F.pe F.ph x n).1, ph := (padd F.pe F.ph x n).2.1 }, (padd F.pe F.ph x n).2.2)
def retP (F : Flt) (x n : Int) : Flt × Int := ({ F with pe := (pret F.pe F.ph x n).1, ph := (pret F.pe F.ph x n).2.1 }, (pret F.pe F.ph x n).2.2)
theorem map_ok {F : Flt} {e : Int} {ph : List (List Int)} (hO : Ok N F) (h1 : ph.length ≤ 1000000 ∧ ∀ r ∈ ph, r.length ≤ 100000) : Ok N { F with pe := e, ph := ph } := ⟨⟨hO.f0.m, hO.f0.toks, hO.f0.ntok, h1, hO.f0.bag⟩, fun hc => ⟨(hO.f1 hc).na, (hO.f1 hc).nd, (hO.f1 hc).np, (hO.f1 hc).tok, (hO.f1 hc).toks, (hO.f1 hc).ntok, h1, hO.f0.bag⟩, hO.ans, hO.led, hO.bags, hO.led5⟩
theorem padd_few {e : Int} {ph : List (List Int)} (x n : Int) (h : ph.length ≤ 1000000 ∧ ∀ r ∈ ph, r.length ≤ 100000) : (padd e ph x n).2.1.length ≤ 1000000 ∧ ∀ r ∈ (padd e ph x n).2.1, r.length ≤ 100000 := by
  unfold padd
  split
  · exact h
  · split
    · exact h
    · rename_i h1 h2
      refine ⟨by simp; exact h.1, fun r hr => ?_⟩
      rcases List.mem_or_eq_of_mem_set hr with hr | rfl
      · exact h.2 r hr
      · have hm : may e ph x n = true := by simpa using h1
        simp only [may, right, Bool.and_eq_true, decide_eq_true_eq, List.all_eq_true] at hm
        have hxl : x.toNat < ph.length := by omega
        have hrow := (hm.1.1.1.1.1.2 _ (List.getElem_mem hxl)).1
        have hl := rowUp_len hrow
        have eg : ph.getD x.toNat [] = ph[x.toNat] := by simp [List.getD_eq_getElem?_getD, hxl]
        rw [eg]
        simp only [srt, List.length_mergeSort, List.length_append, List.length_cons, List.length_nil]
        omega
theorem pret_few {e : Int} {ph : List (List Int)} (x n : Int) (h : ph.length ≤ 1000000 ∧ ∀ r ∈ ph, r.length ≤ 100000) : (pret e ph x n).2.1.length ≤ 1000000 ∧ ∀ r ∈ (pret e ph x n).2.1, r.length ≤ 100000 := by
  unfold pret
  split
  · exact h
  · split
    · exact h
    · split
      · exact h
      · rename_i h1 h2 h3
        refine ⟨by simp; exact h.1, fun r hr => ?_⟩
        rcases List.mem_or_eq_of_mem_set hr with hr | rfl
        · exact h.2 r hr
        · have hm : may e ph x n = true := by simpa using h1
          simp only [may, right, Bool.and_eq_true, decide_eq_true_eq, List.all_eq_true] at hm
          have hxl : x.toNat < ph.length := by omega
          have eg : ph.getD x.toNat [] = ph[x.toNat] := by simp [List.getD_eq_getElem?_getD, hxl]
          rw [eg]
          have := List.length_filter_le (fun z => z != n) ph[x.toNat]
          have := h.2 _ (List.getElem_mem hxl)
          omega
theorem fadd_run {h : HP} {ck cf ca cb : Nat} {F : Flt} (x n : Int) (hS : FlS h ck cf ca cb F) (hO : Ok N F) : ∃ h' ck', runL cfg 25 [.pt ⟨34, cf, 5⟩ 15 0 0, iv x, iv n] h ck = some (iv (addP F x n).2, h', ck') ∧ FlS h' ck' cf ca cb (addP F x n).1 ∧ Ok N (addP F x n).1 ∧ Ran h ck cf ca cb h' ck' ca cb := by
  obtain ⟨v, hB, l1, l2, l3, hr⟩ := hS
  have hg := hB.1
  have hT := fun s k => callEv_tr (C := cfg) (padd_ret F.pe F.ph x n hO.f0.ph.1 hO.f0.ph.2) rfl rfl rfl s k
  have hfew := padd_few (e := F.pe) x n hO.f0.ph
  unfold addP
  generalize padd F.pe F.ph x n = r at *
  obtain ⟨e, ph, er⟩ := r
  have hX : FlS (h.put ⟨34, cf, 5⟩ ⟨34, cf, 5⟩ (.box 78 (fcs { F with pe := e, ph := ph } v))) ck cf ca cb { F with pe := e, ph := ph } := fls_put hB l1 l2 l3 hr hB.2 rfl rfl rfl rfl rfl rfl rfl rfl
  refine ⟨(⟨7, ck + 1, 10⟩, .box 27 [iv e, .t (gl ph)]) :: h.put ⟨34, cf, 5⟩ ⟨34, cf, 5⟩ (.box 78 (fcs { F with pe := e, ph := ph } v)), ck + 4, ?_, fls_le (fls_new hX (s := 7) (c := ck + 1) (o := 10) (by decide) (by decide) (by decide) _ (Nat.le_refl _)) (by omega), map_ok hO hfew, Ran.to (by omega) fun q hq e => by rw [get_new (by omega), get_put_ne e]⟩
  simp only [fcs, gl, iv] at hT hg
  rw [runL_pf (fn := f25) rfl rfl]
  simp [fcs, gl, hg, hT, filt_t, over]
theorem fret_run {h : HP} {ck cf ca cb : Nat} {F : Flt} (x n : Int) (hS : FlS h ck cf ca cb F) (hO : Ok N F) : ∃ h' ck', runL cfg 26 [.pt ⟨34, cf, 5⟩ 15 0 0, iv x, iv n] h ck = some (iv (retP F x n).2, h', ck') ∧ FlS h' ck' cf ca cb (retP F x n).1 ∧ Ok N (retP F x n).1 ∧ Ran h ck cf ca cb h' ck' ca cb := by
  obtain ⟨v, hB, l1, l2, l3, hr⟩ := hS
  have hg := hB.1
  have hT := fun s k => callEv_tr (C := cfg) (pret_ret F.pe F.ph x n hO.f0.ph.1 hO.f0.ph.2) rfl rfl rfl s k
  have hfew := pret_few (e := F.pe) x n hO.f0.ph
  unfold retP
  generalize pret F.pe F.ph x n = r at *
  obtain ⟨e, ph, er⟩ := r
  have hX : FlS (h.put ⟨34, cf, 5⟩ ⟨34, cf, 5⟩ (.box 78 (fcs { F with pe := e, ph := ph } v))) ck cf ca cb { F with pe := e, ph := ph } := fls_put hB l1 l2 l3 hr hB.2 rfl rfl rfl rfl rfl rfl rfl rfl
  refine ⟨(⟨7, ck + 1, 10⟩, .box 27 [iv e, .t (gl ph)]) :: h.put ⟨34, cf, 5⟩ ⟨34, cf, 5⟩ (.box 78 (fcs { F with pe := e, ph := ph } v)), ck + 4, ?_, fls_le (fls_new hX (s := 7) (c := ck + 1) (o := 10) (by decide) (by decide) (by decide) _ (Nat.le_refl _)) (by omega), map_ok hO hfew, Ran.to (by omega) fun q hq e => by rw [get_new (by omega), get_put_ne e]⟩
  simp only [fcs, gl, iv] at hT hg
  rw [runL_pf (fn := f26) rfl rfl]
  simp [fcs, gl, hg, hT, filt_t, over]
end Go.Proofs.YtbocnaoihepjfaaGreat.Pv
end

section
/- What a fleet's Bag, Worked, Done tell. -/
namespace Go.Proofs.YtbocnaoihepjfaaGreat.Pv
open Go Go.Pev
variable {N : Nat}

theorem fls_fr {h h' : HP} {ck ck' cf ca cb : Nat} {F : Flt} (hS : FlS h ck cf ca cb F) (hle : ck ≤ ck') (hfr : ∀ q, q.c < ck → h'.get q = h.get q) : FlS h' ck' cf ca cb F := by
  obtain ⟨v, hB, l1, l2, l3, hr⟩ := hS
  refine ⟨v, ⟨?_, hB.2⟩, by omega, by omega, by omega, fun hc => ?_⟩
  · rw [hfr _ l1]; exact hB.1
  · obtain ⟨r1, r2, r3, r4, r5⟩ := hr hc
    exact ⟨r1, r2, r3, by rw [hfr _ l2]; exact r4, by rw [hfr _ l3]; exact r5⟩
theorem callEv_rdo {C : Cfg} {f : Nat} {args ps : List V} {ty sz : Nat} {els : List (List T)} (h : RetO C f ps ty sz els) (hm : C.hpm f = false) (ho : C.own f = true) (ha : RdA args ps) (s : St) (k : Key) : callEv C (runL C) f args s k = some (.ow k sz 0 els.length, (k, .row ty sz els false) :: s.hp, s.ck) := by
  rw [callEv_o hm ho (rdA_is ha s.hp).1 h, (rdA_is ha s.hp).2]; rfl
theorem bag_run {h : HP} {ck cf ca cb : Nat} {F : Flt} (hS : FlS h ck cf ca cb F) (hO : Ok N F) : runL cfg 14 [.pt ⟨34, cf, 5⟩ 15 0 0] h ck = some (.ow ⟨7, ck + 1, 4⟩ 1 0 F.bag.length, (⟨7, ck + 1, 4⟩, .row 9 1 (slc F.bag) false) :: (⟨2, ck, 0⟩, .row 9 1 [] false) :: h, ck + 2) := by
  obtain ⟨v, hB, l1, l2, l3, hr⟩ := hS
  have hg := hB.1
  obtain ⟨o0, o1, o2, o3, o4, o5, o6⟩ := hB.2
  have hc := fun s k => callEv_rdo (C := cfg) (clones_ret F.bag hO.f0.bag) rfl rfl (rdA_v o5 rdA_nil) s k
  have hl := slc_len F.bag
  rw [hl] at hc
  simp only [fcs] at hg
  rw [runL_pf (fn := f14) rfl rfl]
  simp [hg, hc, filt_t]
/-- The bag, handed on read-only. -/
theorem bag_ret (F : Flt) (cs : List T) (h9 : cs[9]? = some (sl F.bag)) (hb : F.bag.length ≤ 1000000) : RetO cfg 14 [.pr cs] 9 1 (slc F.bag) := by
  have hc := fun s k => callEv_tro (C := cfg) (clones_ret F.bag hb) rfl rfl rfl s k
  have hd : cs.drop 9 = sl F.bag :: cs.drop 10 := by
    have h := (List.getElem?_eq_some_iff.1 h9)
    obtain ⟨h1, h2⟩ := h
    rw [List.drop_eq_getElem_cons h1, h2]
  unfold RetO
  rw [runL_pf (fn := f14) rfl rfl]
  simp [hd, hc]
  exact ⟨_, _, ⟨rfl, rfl⟩, by simp [HP.get]⟩
def doneP (F : Flt) : List (List Int) × Bool := if F.at_ < F.m.lays.length then ([], false) else (F.toks, true)
theorem done_run {h : HP} {ck cf ca cb : Nat} {F : Flt} (hS : FlS h ck cf ca cb F) (hO : Ok N F) : ∃ h' ck' kd, runL cfg 17 [.pt ⟨34, cf, 5⟩ 15 0 0] h ck = some (.tu [.ow kd 1 0 (doneP F).1.length, bv (doneP F).2], h', ck') ∧ h'.get kd = some (.row 42 1 ((doneP F).1.map fun r => [il r]) false) ∧ ck ≤ ck' ∧ ck ≤ kd.c ∧ kd.c < ck' ∧ (kd.s = 2 ∨ kd.s = 19) ∧ ∀ q, q.c < ck → h'.get q = h.get q := by
  obtain ⟨v, hB, l1, l2, l3, hr⟩ := hS
  have hg := hB.1
  rw [runL_pf (fn := f17) rfl rfl]
  unfold doneP
  by_cases c : F.at_ < F.m.lays.length
  · rw [if_pos c]
    refine ⟨(⟨2, ck + 1 + 1, 0⟩, .row 42 1 [] false) :: (⟨2, ck, 0⟩, .row 42 1 [] false) :: h, ck + 3, ⟨2, ck + 1 + 1, 0⟩, ?_, by simp, by omega, by simp; omega, by simp, .inl rfl, fun q hq => by rw [get_new (by omega), get_new hq]⟩
    simp only [fcs, laysT] at hg
    simp [hg, c, filt_t]
  · rw [if_neg c]
    have hc := fun s k => callEv_tro (C := cfg) (clone2_ret (F.toks.map fun r => [il r]) (by simp) (by simpa using hO.f0.toks.1)) rfl rfl rfl s k
    refine ⟨(⟨19, ck + 1 + 1, 4⟩, .row 42 1 (F.toks.map fun r => [il r]) false) :: (⟨2, ck, 0⟩, .row 42 1 [] false) :: h, ck + 3, ⟨19, ck + 1 + 1, 4⟩, ?_, by simp, by omega, by simp; omega, by simp, .inr rfl, fun q hq => by rw [get_new (by omega), get_new hq]⟩
    simp only [fcs, laysT, gl] at hg
    simp only [List.length_map, il] at hc
    simp [hg, c, filt_t, hc]
def workedP (F : Flt) : Nat := (F.led.map (·.length)).sum
def wkS (F : Flt) (i : Nat) : Nat := ((F.led.take i).map (·.length)).sum
def wkI (F : Flt) (v : Vs) (h : HP) (ck0 : Nat) (i : Nat) (s : St) : Prop := ∃ ck, ck0 ≤ ck ∧ s = ⟨[(3, iv (wkS F i)), (9, .ag [v.l0, v.l1, v.l2, v.l3, v.l4]), (10, iv (i : Int))], h, ck⟩
theorem wk_bound {N : Nat} {F : Flt} (hO : Ok N F) (i : Nat) : wkS F i ≤ 5 * N := by
  have key : ∀ (l : List (List Ent)), (∀ x ∈ l, x.length ≤ N) → (l.map (·.length)).sum ≤ l.length * N := by
    intro l
    induction l with
    | nil => intro _; simp
    | cons a l ih =>
      intro h
      have h1 := ih (fun x hx => h x (List.mem_cons_of_mem _ hx))
      have h2 := h a List.mem_cons_self
      simp only [List.map_cons, List.sum_cons, List.length_cons, Nat.add_mul]
      omega
  have := key (F.led.take i) (fun x hx => (hO.led x (List.mem_of_mem_take hx)).1)
  have hl : (F.led.take i).length ≤ 5 := by simp [hO.led5]; omega
  have := Nat.mul_le_mul_right N hl
  unfold wkS
  omega
theorem wk_loop {h : HP} {F : Flt} {v : Vs} (hV : VsOk F v) (hO : Ok N F) (hN : N ≤ 1000000) (ck : Nat) : ∃ e ck', ck ≤ ck' ∧ evL cfg (.loop f18l0) ⟨[(3, iv 0), (9, .ag [v.l0, v.l1, v.l2, v.l3, v.l4]), (10, iv 0)], h, ck⟩ = some (.exit 0, ⟨(3, iv (workedP F)) :: e, h, ck'⟩) := by
  obtain ⟨o0, o1, o2, o3, o4, -⟩ := hV
  have h5 := hO.led5
  refine loop_q (Q := fun E => ∃ e ck', ck ≤ ck' ∧ E = some (.exit 0, ⟨(3, iv (workedP F)) :: e, h, ck'⟩)) 5 (wkI F v h ck) ?_ ?_ _ ⟨ck, Nat.le_refl _, rfl⟩
  · rintro i s hi ⟨ck, hck, rfl⟩
    have hs : wkS F (i + 1) = wkS F i + (F.led.getD i []).length := by
      unfold wkS
      have hil : i < F.led.length := by omega
      have e : F.led.getD i [] = F.led[i] := by simp [List.getD_eq_getElem?_getD, hil]
      rw [List.take_succ_eq_append_getElem hil, List.map_append, List.sum_append, e]
      simp only [List.map_cons, List.map_nil, List.sum_cons, List.sum_nil, Nat.add_zero]
    have b1 := wk_bound hO (i + 1)
    have hw : IntKind.i64.wrap ((wkS F i : Int) + ((F.led.getD i []).length : Int)) = (wkS F (i + 1) : Int) := by
      rw [hs] at b1 ⊢
      rw [wrap_id (by omega) (by omega)]; rfl
    have q0 := rd_len (xs := (F.led.getD 0 []).map enT) o0
    have q1 := rd_len (xs := (F.led.getD 1 []).map enT) o1
    have q2 := rd_len (xs := (F.led.getD 2 []).map enT) o2
    have q3 := rd_len (xs := (F.led.getD 3 []).map enT) o3
    have q4 := rd_len (xs := (F.led.getD 4 []).map enT) o4
    simp only [List.length_map, List.getD_eq_getElem?_getD] at q0 q1 q2 q3 q4 hw
    have e1 : IntKind.i64.wrap 1 = 1 := by decide
    have e2 : IntKind.i64.wrap 2 = 2 := by decide
    have e3 : IntKind.i64.wrap 3 = 3 := by decide
    have e4 : IntKind.i64.wrap 4 = 4 := by decide
    have e5 : IntKind.i64.wrap 5 = 5 := by decide
    match i, hi with
    | 0, _ => simp only [Int.natCast_zero] at hw ⊢
              simp [f18l0e, q0, filt_t, hw, e1]; exact ⟨_, by omega, rfl⟩
    | 1, _ => simp [f18l0e, q1, filt_t, hw, e2]; exact ⟨_, by omega, rfl⟩
    | 2, _ => simp [f18l0e, q2, filt_t, hw, e3]; exact ⟨_, by omega, rfl⟩
    | 3, _ => simp [f18l0e, q3, filt_t, hw, e4]; exact ⟨_, by omega, rfl⟩
    | 4, _ => simp [f18l0e, q4, filt_t, hw, e5]; exact ⟨_, by omega, rfl⟩
  · rintro s ⟨ck, hck, rfl⟩
    have : wkS F 5 = workedP F := by unfold wkS workedP; rw [List.take_of_length_le (by omega)]
    rw [this]
    simp [f18l0e, filt_t]
    omega
theorem worked_run {h : HP} {ck cf ca cb : Nat} {F : Flt} (hS : FlS h ck cf ca cb F) (hO : Ok N F) (hN : N ≤ 1000000) : ∃ ck', runL cfg 18 [.pt ⟨34, cf, 5⟩ 15 0 0] h ck = some (iv (workedP F), h, ck') ∧ ck ≤ ck' := by
  obtain ⟨v, hB, l1, l2, l3, hr⟩ := hS
  have hg := hB.1
  obtain ⟨e, ck', hle, hL⟩ := wk_loop (h := h) hB.2 hO hN (ck + 1 + 1 + 1)
  refine ⟨ck' + 1, ?_, by omega⟩
  simp only [fcs] at hg
  simp at hL
  rw [runL_pf (fn := f18) rfl rfl]
  simp [hg, filt_t, hL]
end Go.Proofs.YtbocnaoihepjfaaGreat.Pv
end

section
/- What a fleet's Deliver tells. -/
namespace Go.Proofs.YtbocnaoihepjfaaGreat.Pv
open Go Go.Pev
variable {N : Nat}

def ledAt (F : Flt) (n : Int) : List Ent := F.led.getD n.toNat []
def nodeP (F : Flt) (a : Msg) : List Ent × Msg × Bool := workP F.m F.pe F.ph a.to (ledAt F a.to) a
def workF (F : Flt) (a : Msg) : Flt := { F with led := F.led.set a.to.toNat (nodeP F a).1, bag := if (nodeP F a).2.2 then sendB F.bag (nodeP F a).2.1 else F.bag }
def gotP (F : Flt) (s : List UInt8) : Flt :=
  if (takeP s).2 ≠ 0 then F
  else if (takeP s).1.to = 0 then answerP F (takeP s).1
  else if (takeP s).1.to ≤ 4 then workF F (takeP s).1
  else F
def delvP (F : Flt) (i : Int) : Flt × Int :=
  if (bagTake F.bag i).2.2 then (gotP { F with bag := (bagTake F.bag i).2.1 } (bagTake F.bag i).1, 0) else (F, 4)
theorem takeP_ok {s : List UInt8} (h : (takeP s).2 = 0) : wrightM (takeP s).1 = true := by
  unfold takeP at h ⊢
  split
  · rename_i c; rw [if_pos c] at h; cases h
  · rename_i c
    rw [if_neg c] at h
    split
    · rename_i c2; rw [if_pos c2] at h; cases h
    · rename_i c2
      rw [if_neg c2] at h
      split
      · rename_i c3; rw [if_pos c3] at h; cases h
      · rename_i c3
        have : wrightM (msgB s) ≠ false := fun e => c3 (.inr e)
        simpa using this
theorem takeP_vec (s : List UInt8) : (takeP s).1.vec.length ≤ 1000000 := by
  by_cases h : (takeP s).2 = 0
  · have := (wright_num (takeP_ok h)).2.2.2.2.2.1; omega
  · unfold takeP at h ⊢
    split
    · simp [msg0]
    · split
      · simp [msg0]
      · split
        · simp [msg0]
        · rename_i c1 c2 c3
          rw [if_neg c1, if_neg c2, if_neg c3] at h
          exact absurd rfl h
theorem workV_len {m : Mod} {l : List Ent} {a : Msg} (hm : FewM m) (hl : ∀ e ∈ l, e.vec.length ≤ 1000000) (pe node : Int) (ph : List (List Int)) (hf : fitsP m pe ph node a = true) : (workV m l a).length ≤ 1000000 := by
  obtain ⟨i, hi, j, hj, ei, ej, hx, hla, hea⟩ := fits_exp hf
  unfold workV
  split
  · unfold findP
    split
    · simp
    · rename_i h
      have hlt := fidx_lt (atKey (keyOf a)) l
      have hq : (fidx (atKey (keyOf a)) l).toNat < l.length := by omega
      have : l.getD (fidx (atKey (keyOf a)) l).toNat ent0 = l[(fidx (atKey (keyOf a)) l).toNat] := by simp [List.getD_eq_getElem?_getD, hq]
      simp only [this]
      exact hl _ (List.getElem_mem hq)
  · rw [hea]
    simp only [runP, scoresP, List.length_map]
    exact ((hm.2 _ (List.getElem_mem hi)).2.2 _ (List.getElem_mem hj)).2.1
theorem nodeP_ok {F : Flt} {a : Msg} (hO : Ok N F) (hav : a.vec.length ≤ 1000000) : (nodeP F a).1.length ≤ N + 1 ∧ (∀ e ∈ (nodeP F a).1, e.vec.length ≤ 1000000) ∧ (nodeP F a).2.1.vec.length ≤ 1000000 := by
  have hl : (ledAt F a.to).length ≤ N ∧ ∀ e ∈ ledAt F a.to, e.vec.length ≤ 1000000 := by
    unfold ledAt
    by_cases h : a.to.toNat < F.led.length
    · have : F.led.getD a.to.toNat [] = F.led[a.to.toNat] := by simp [List.getD_eq_getElem?_getD, h]
      rw [this]; exact hO.led _ (List.getElem_mem h)
    · have : F.led.getD a.to.toNat [] = [] := by simp [List.getD_eq_getElem?_getD, h]
      rw [this]; simp
  unfold nodeP workP
  split
  · exact ⟨by simp only; omega, hl.2, by simp [msg0]⟩
  · split
    · exact ⟨by simp only; omega, hl.2, by simp [staleOf]⟩
    · rename_i h1 h2
      have hf : fitsP F.m F.pe F.ph a.to a = true := by simpa using h1
      have hv := workV_len hO.f0.m hl.2 _ _ _ hf
      refine ⟨?_, ?_, hv⟩
      · unfold workL; split
        · simp only; omega
        · simp only [List.length_append, List.length_cons, List.length_nil]; omega
      · intro e he
        unfold workL at he
        split at he
        · exact hl.2 e he
        · rcases List.mem_append.1 he with he | he
          · exact hl.2 e he
          · rw [List.mem_singleton] at he
            rw [he]; exact hv
theorem workF_ok {F : Flt} {a : Msg} (hO : Ok N F) (hav : a.vec.length ≤ 1000000) : Ok (N + 1) (workF F a) := by
  obtain ⟨n1, n2, n3⟩ := nodeP_ok hO hav
  have hbl : (workF F a).bag.length ≤ 1000000 := by
    simp only [workF]; split
    · exact sendB_len hO.f0.bag
    · exact hO.f0.bag
  have hbs : ∀ s ∈ (workF F a).bag, s.length ≤ 100000 := by
    simp only [workF]; split
    · exact sendB_s hO.bags
    · exact hO.bags
  refine ⟨⟨hO.f0.m, hO.f0.toks, hO.f0.ntok, hO.f0.ph, hbl⟩, fun hc => ⟨(hO.f1 hc).na, (hO.f1 hc).nd, (hO.f1 hc).np, (hO.f1 hc).tok, (hO.f1 hc).toks, (hO.f1 hc).ntok, (hO.f1 hc).ph, hbl⟩, hO.ans, ?_, hbs, by simp [workF, hO.led5]⟩
  intro l hl
  simp only [workF] at hl
  rcases List.mem_or_eq_of_mem_set hl with hl | rfl
  · have := hO.led l hl; exact ⟨by omega, this.2⟩
  · exact ⟨n1, n2⟩
theorem Ok.up {F : Flt} (h : Ok N F) : Ok (N + 1) F := ⟨h.f0, h.f1, h.ans, fun l hl => ⟨by have := (h.led l hl).1; omega, (h.led l hl).2⟩, h.bags, h.led5⟩
/-- The ledger's value of a node. -/
def Vs.at (v : Vs) : Nat → V
  | 0 => v.l0 | 1 => v.l1 | 2 => v.l2 | 3 => v.l3 | _ => v.l4
def Vs.put (v : Vs) (n : Nat) (x : V) : Vs := match n with
  | 0 => { v with l0 := x } | 1 => { v with l1 := x } | 2 => { v with l2 := x } | 3 => { v with l3 := x } | _ => { v with l4 := x }
theorem vs_put {F : Flt} {v : Vs} {n : Nat} (hn : n < 5) (hV : VsOk F v) (h5 : F.led.length = 5) (l : List Ent) : VsOk { F with led := F.led.set n l } (v.put n (.t (enl l))) := by
  obtain ⟨o0, o1, o2, o3, o4, o5, o6⟩ := hV
  obtain ⟨m, pe, ph, led, bag, toks, at_, parts, ans, answd⟩ := F
  simp only at h5 o0 o1 o2 o3 o4 o5 o6
  match led, h5 with
  | [a0, a1, a2, a3, a4], _ =>
    match n, hn with
    | 0, _ => exact ⟨rd_t _, o1, o2, o3, o4, o5, o6⟩
    | 1, _ => exact ⟨o0, rd_t _, o2, o3, o4, o5, o6⟩
    | 2, _ => exact ⟨o0, o1, rd_t _, o3, o4, o5, o6⟩
    | 3, _ => exact ⟨o0, o1, o2, rd_t _, o4, o5, o6⟩
    | 4, _ => exact ⟨o0, o1, o2, o3, rd_t _, o5, o6⟩
theorem vs_at {F : Flt} {v : Vs} {n : Nat} (hn : n < 5) (hV : VsOk F v) : Rd (v.at n) (enl (F.led.getD n [])) := by
  obtain ⟨o0, o1, o2, o3, o4, o5, o6⟩ := hV
  match n, hn with
  | 0, _ => exact o0
  | 1, _ => exact o1
  | 2, _ => exact o2
  | 3, _ => exact o3
  | 4, _ => exact o4
end Go.Proofs.YtbocnaoihepjfaaGreat.Pv
end

section
/- What a fleet's Deliver tells: the node's regions. -/
namespace Go.Proofs.YtbocnaoihepjfaaGreat.Pv
open Go Go.Pev
variable {N : Nat}

/-- The cells after a node's ledger was laid anew. -/
def lcs (n : Nat) (x d ly pe ph l0 l1 l2 l3 l4 vb tk at_ vp va vd : V) : List V := match n with
  | 1 => [d, ly, pe, ph, l0, x, l2, l3, l4, vb, tk, at_, vp, va, vd]
  | 2 => [d, ly, pe, ph, l0, l1, x, l3, l4, vb, tk, at_, vp, va, vd]
  | 3 => [d, ly, pe, ph, l0, l1, l2, x, l4, vb, tk, at_, vp, va, vd]
  | _ => [d, ly, pe, ph, l0, l1, l2, l3, x, vb, tk, at_, vp, va, vd]
def lsel (n : Nat) (l1 l2 l3 l4 : V) : V := match n with
  | 1 => l1 | 2 => l2 | 3 => l3 | _ => l4
def wst : Pc := .seq f21r10 (.seq f21r11 f21r12)
set_option maxHeartbeats 2000000 in
theorem wst1 {h : HP} {cf c8 ck : Nat} {d ly pe ph l0 l1 l2 l3 l4 vb tk at_ vp va vd : V} {a o : Msg} {L : T} {is : Bool} (hg : h.get ⟨34, cf, 5⟩ = some (.box 78 [d, ly, pe, ph, l0, l1, l2, l3, l4, vb, tk, at_, vp, va, vd])) (h8 : h.get ⟨8, c8, 5⟩ = some (mbox a)) (ht : a.to = 1) (hW : callQ (runL cfg) 53 [.ag [d, ly], .ag [pe, ph], iv 1, l1, msgV a] h = some (.tu [.t L, msgV o, bv is])) (hl : cf < ck) :
    ∃ e, evL cfg wst ⟨[(0, .pt ⟨34, cf, 5⟩ 15 0 0), (8, .pt ⟨8, c8, 5⟩ 11 0 0), (44, bv true)], h, ck⟩ = some (.normal, ⟨(0, .pt ⟨34, cf, 5⟩ 15 0 0) :: (11, .pt ⟨11, ck, 23⟩ 11 0 0) :: (78, bv is) :: e, HP.put ((⟨11, ck, 23⟩, mbox o) :: h) ⟨34, cf, 5⟩ ⟨34, cf, 5⟩ (.box 78 (lcs 1 (.t L) d ly pe ph l0 l1 l2 l3 l4 vb tk at_ vp va vd)), ck + 1 + 1 + 1⟩) := by
  unfold wst
  simp only [msgV, il, iv, bv] at hW
  simp only [mbox, il, iv, ht] at h8
  rw [ht] at hW
  simp [hg, h8, hW, filt_t, lcs, mbox, HP.put, over]
set_option maxHeartbeats 2000000 in
theorem wst2 {h : HP} {cf c8 ck : Nat} {d ly pe ph l0 l1 l2 l3 l4 vb tk at_ vp va vd : V} {a o : Msg} {L : T} {is : Bool} (hg : h.get ⟨34, cf, 5⟩ = some (.box 78 [d, ly, pe, ph, l0, l1, l2, l3, l4, vb, tk, at_, vp, va, vd])) (h8 : h.get ⟨8, c8, 5⟩ = some (mbox a)) (ht : a.to = 2) (hW : callQ (runL cfg) 53 [.ag [d, ly], .ag [pe, ph], iv 2, l2, msgV a] h = some (.tu [.t L, msgV o, bv is])) (hl : cf < ck) :
    ∃ e, evL cfg wst ⟨[(0, .pt ⟨34, cf, 5⟩ 15 0 0), (8, .pt ⟨8, c8, 5⟩ 11 0 0), (44, bv true)], h, ck⟩ = some (.normal, ⟨(0, .pt ⟨34, cf, 5⟩ 15 0 0) :: (11, .pt ⟨11, ck, 23⟩ 11 0 0) :: (78, bv is) :: e, HP.put ((⟨11, ck, 23⟩, mbox o) :: h) ⟨34, cf, 5⟩ ⟨34, cf, 5⟩ (.box 78 (lcs 2 (.t L) d ly pe ph l0 l1 l2 l3 l4 vb tk at_ vp va vd)), ck + 1 + 1 + 1⟩) := by
  unfold wst
  simp only [msgV, il, iv, bv] at hW
  simp only [mbox, il, iv, ht] at h8
  rw [ht] at hW
  simp [hg, h8, hW, filt_t, lcs, mbox, HP.put, over]
set_option maxHeartbeats 2000000 in
theorem wst3 {h : HP} {cf c8 ck : Nat} {d ly pe ph l0 l1 l2 l3 l4 vb tk at_ vp va vd : V} {a o : Msg} {L : T} {is : Bool} (hg : h.get ⟨34, cf, 5⟩ = some (.box 78 [d, ly, pe, ph, l0, l1, l2, l3, l4, vb, tk, at_, vp, va, vd])) (h8 : h.get ⟨8, c8, 5⟩ = some (mbox a)) (ht : a.to = 3) (hW : callQ (runL cfg) 53 [.ag [d, ly], .ag [pe, ph], iv 3, l3, msgV a] h = some (.tu [.t L, msgV o, bv is])) (hl : cf < ck) :
    ∃ e, evL cfg wst ⟨[(0, .pt ⟨34, cf, 5⟩ 15 0 0), (8, .pt ⟨8, c8, 5⟩ 11 0 0), (44, bv true)], h, ck⟩ = some (.normal, ⟨(0, .pt ⟨34, cf, 5⟩ 15 0 0) :: (11, .pt ⟨11, ck, 23⟩ 11 0 0) :: (78, bv is) :: e, HP.put ((⟨11, ck, 23⟩, mbox o) :: h) ⟨34, cf, 5⟩ ⟨34, cf, 5⟩ (.box 78 (lcs 3 (.t L) d ly pe ph l0 l1 l2 l3 l4 vb tk at_ vp va vd)), ck + 1 + 1 + 1⟩) := by
  unfold wst
  simp only [msgV, il, iv, bv] at hW
  simp only [mbox, il, iv, ht] at h8
  rw [ht] at hW
  simp [hg, h8, hW, filt_t, lcs, mbox, HP.put, over]
set_option maxHeartbeats 2000000 in
theorem wst4 {h : HP} {cf c8 ck : Nat} {d ly pe ph l0 l1 l2 l3 l4 vb tk at_ vp va vd : V} {a o : Msg} {L : T} {is : Bool} (hg : h.get ⟨34, cf, 5⟩ = some (.box 78 [d, ly, pe, ph, l0, l1, l2, l3, l4, vb, tk, at_, vp, va, vd])) (h8 : h.get ⟨8, c8, 5⟩ = some (mbox a)) (ht : a.to = 4) (hW : callQ (runL cfg) 53 [.ag [d, ly], .ag [pe, ph], iv 4, l4, msgV a] h = some (.tu [.t L, msgV o, bv is])) (hl : cf < ck) :
    ∃ e, evL cfg wst ⟨[(0, .pt ⟨34, cf, 5⟩ 15 0 0), (8, .pt ⟨8, c8, 5⟩ 11 0 0), (44, bv true)], h, ck⟩ = some (.normal, ⟨(0, .pt ⟨34, cf, 5⟩ 15 0 0) :: (11, .pt ⟨11, ck, 23⟩ 11 0 0) :: (78, bv is) :: e, HP.put ((⟨11, ck, 23⟩, mbox o) :: h) ⟨34, cf, 5⟩ ⟨34, cf, 5⟩ (.box 78 (lcs 4 (.t L) d ly pe ph l0 l1 l2 l3 l4 vb tk at_ vp va vd)), ck + 1 + 1 + 1⟩) := by
  unfold wst
  simp only [msgV, il, iv, bv] at hW
  simp only [mbox, il, iv, ht] at h8
  rw [ht] at hW
  simp [hg, h8, hW, filt_t, lcs, mbox, HP.put, over]
end Go.Proofs.YtbocnaoihepjfaaGreat.Pv
end

section
/- What a fleet's Deliver tells. -/
namespace Go.Proofs.YtbocnaoihepjfaaGreat.Pv
open Go Go.Pev
variable {N : Nat}

theorem vs_same {v : Vs} {n : Nat} (hn : n < 5) (x : V) : (v.put n x).vp = v.vp ∧ (v.put n x).va = v.va ∧ (v.put n x).vd = v.vd := by
  match n, hn with
  | 0, _ => exact ⟨rfl, rfl, rfl⟩
  | 1, _ => exact ⟨rfl, rfl, rfl⟩
  | 2, _ => exact ⟨rfl, rfl, rfl⟩
  | 3, _ => exact ⟨rfl, rfl, rfl⟩
  | 4, _ => exact ⟨rfl, rfl, rfl⟩
theorem fcs_lcs {F : Flt} {v : Vs} {n : Nat} (h1 : 1 ≤ n) (h4 : n ≤ 4) (x : V) (l : List (List Ent)) : fcs { F with led := l } (v.put n x) = lcs n x (iv F.m.dim) (.t (laysT F.m)) (iv F.pe) (.t (gl F.ph)) v.l0 v.l1 v.l2 v.l3 v.l4 v.vb (.t (gl F.toks)) (iv F.at_) v.vp v.va v.vd := by
  match n, h1, h4 with
  | 1, _, _ => rfl
  | 2, _, _ => rfl
  | 3, _, _ => rfl
  | 4, _, _ => rfl
theorem wst_all {h : HP} {cf c8 ck : Nat} {d ly pe ph l0 l1 l2 l3 l4 vb tk at_ vp va vd : V} {a o : Msg} {L : T} {is : Bool} {n : Nat} (h1 : 1 ≤ n) (h4 : n ≤ 4) (hg : h.get ⟨34, cf, 5⟩ = some (.box 78 [d, ly, pe, ph, l0, l1, l2, l3, l4, vb, tk, at_, vp, va, vd])) (h8 : h.get ⟨8, c8, 5⟩ = some (mbox a)) (ht : a.to = n) (hW : callQ (runL cfg) 53 [.ag [d, ly], .ag [pe, ph], iv n, lsel n l1 l2 l3 l4, msgV a] h = some (.tu [.t L, msgV o, bv is])) (hl : cf < ck) :
    ∃ e, evL cfg wst ⟨[(0, .pt ⟨34, cf, 5⟩ 15 0 0), (8, .pt ⟨8, c8, 5⟩ 11 0 0), (44, bv true)], h, ck⟩ = some (.normal, ⟨(0, .pt ⟨34, cf, 5⟩ 15 0 0) :: (11, .pt ⟨11, ck, 23⟩ 11 0 0) :: (78, bv is) :: e, HP.put ((⟨11, ck, 23⟩, mbox o) :: h) ⟨34, cf, 5⟩ ⟨34, cf, 5⟩ (.box 78 (lcs n (.t L) d ly pe ph l0 l1 l2 l3 l4 vb tk at_ vp va vd)), ck + 1 + 1 + 1⟩) := by
  match n, h1, h4 with
  | 1, _, _ => exact wst1 hg h8 ht hW hl
  | 2, _, _ => exact wst2 hg h8 ht hW hl
  | 3, _, _ => exact wst3 hg h8 ht hW hl
  | 4, _, _ => exact wst4 hg h8 ht hW hl
def wtl : Pc := .cond (.tmp 78) f21r13 .skip
/-- The heap after the node's work. -/
theorem flb_work {h : HP} {cf ck : Nat} {F : Flt} {v : Vs} {n : Nat} (h1 : 1 ≤ n) (h4 : n ≤ 4) (hB : FlB h cf F v) (h5 : F.led.length = 5) (hl : cf < ck) (l : List Ent) (ob : Ob) : ∃ v' : Vs, FlB (HP.put ((⟨11, ck, 23⟩, ob) :: h) ⟨34, cf, 5⟩ ⟨34, cf, 5⟩ (.box 78 (lcs n (.t (enl l)) (iv F.m.dim) (.t (laysT F.m)) (iv F.pe) (.t (gl F.ph)) v.l0 v.l1 v.l2 v.l3 v.l4 v.vb (.t (gl F.toks)) (iv F.at_) v.vp v.va v.vd))) cf { F with led := F.led.set n l } v' ∧ v'.vp = v.vp ∧ v'.va = v.va ∧ v'.vd = v.vd := by
  obtain ⟨q1, q2, q3⟩ := vs_same (v := v) (n := n) (by omega) (.t (enl l))
  refine ⟨v.put n (.t (enl l)), ⟨?_, vs_put (by omega) hB.2 h5 l⟩, q1, q2, q3⟩
  rw [fcs_lcs h1 h4, hp_get_put, if_pos rfl, get_new (q := ⟨34, cf, 5⟩) hl, hB.1]
  rfl
theorem lsel_at {v : Vs} {n : Nat} (h1 : 1 ≤ n) (h4 : n ≤ 4) : lsel n v.l1 v.l2 v.l3 v.l4 = v.at n := by
  match n, h1, h4 with
  | 1, _, _ => rfl
  | 2, _, _ => rfl
  | 3, _, _ => rfl
  | 4, _, _ => rfl
theorem wtl_run {h : HP} {cf ck c11 : Nat} {F : Flt} {v : Vs} (hB : FlB h cf F v) (o : Msg) (h11 : h.get ⟨11, c11, 23⟩ = some (mbox o)) (is : Bool) (e : List (Nat × V)) (hb : F.bag.length ≤ 1000000) (hv : o.vec.length ≤ 1000000) :
    ∃ h' ck' vb e', evL cfg wtl ⟨(0, .pt ⟨34, cf, 5⟩ 15 0 0) :: (11, .pt ⟨11, c11, 23⟩ 11 0 0) :: (78, bv is) :: e, h, ck⟩ = some (.normal, ⟨e', h', ck'⟩) ∧ ck ≤ ck' ∧ FlB h' cf { F with bag := if is then sendB F.bag o else F.bag } { v with vb := vb } ∧ ∀ q, q.c < ck → q ≠ ⟨34, cf, 5⟩ → h'.get q = h.get q := by
  unfold wtl
  cases is with
  | false => exact ⟨h, ck, v.vb, _, by simp [bv]; rfl, Nat.le_refl _, hB, fun _ _ _ => rfl⟩
  | true =>
    obtain ⟨h3, ck3, vb3, hrun, hle, hB3, hfr3⟩ := send_run (ck := ck + 1) o hB hb hv
    have hS := fun e k => callEv_h (C := cfg) (s := ⟨e, h, ck⟩) rfl hrun k
    refine ⟨h3, ck3 + 1 + 1, vb3, [], ?_, by omega, hB3, fun q hq hk => hfr3 q (by omega) hk⟩
    simp only [mbox, il, iv] at h11
    simp only [msgV, il, iv] at hS
    simp [bv, h11, hS, filt_t]
theorem work_stage {h : HP} {cf ck c8 : Nat} {F : Flt} {v : Vs} (a : Msg) (hB : FlB h cf F v) (hO : Ok N F) (hN : N ≤ 800000) (hav : a.vec.length ≤ 1000000) (h0 : 1 ≤ a.to) (h4 : a.to ≤ 4) (h8 : h.get ⟨8, c8, 5⟩ = some (mbox a)) (hl : cf < ck) :
    ∃ e s, evL cfg wst ⟨[(0, .pt ⟨34, cf, 5⟩ 15 0 0), (8, .pt ⟨8, c8, 5⟩ 11 0 0), (44, bv true)], h, ck⟩ = some (.normal, s) ∧ ∃ h' ck' v', evL cfg wtl s = some (.normal, ⟨e, h', ck'⟩) ∧ ck ≤ ck' ∧ FlB h' cf (workF F a) v' ∧ v'.vp = v.vp ∧ v'.va = v.va ∧ v'.vd = v.vd ∧ ∀ q, q.c < ck → q ≠ ⟨34, cf, 5⟩ → h'.get q = h.get q := by
  obtain ⟨n, hn2⟩ : ∃ n : Nat, a.to = n := ⟨a.to.toNat, by omega⟩
  have hn1 : 1 ≤ n := by omega
  have hn4 : n ≤ 4 := by omega
  have hlok : (F.led.getD n []).length ≤ N ∧ ∀ e ∈ F.led.getD n [], e.vec.length ≤ 1000000 := by
    have hlt : n < F.led.length := by rw [hO.led5]; omega
    have : F.led.getD n [] = F.led[n] := by simp [List.getD_eq_getElem?_getD, hlt]
    rw [this]; exact hO.led _ (List.getElem_mem hlt)
  have hW := fun hp => callQ_rd (C := cfg) (args := [modV F.m, mapV F.pe F.ph, iv a.to, v.at n, msgV a]) (work_ret F.m F.pe F.ph a.to (F.led.getD n []) a hO.f0.m hO.f0.ph.1 (fun r hr => by have := hO.f0.ph.2 r hr; omega) (by omega) (by omega) hlok.2) (rdA_ag (cs := [.i .i64 F.m.dim, laysT F.m]) (rdA_ag (cs := [.i .i64 F.pe, gl F.ph]) (rdA_t (rdA_v (vs_at (by omega) hB.2) (rdA_ag (cs := msgC a) rdA_nil))))) hp
  have hnp : nodeP F a = workP F.m F.pe F.ph a.to (F.led.getD n []) a := by unfold nodeP ledAt; rw [hn2]; rfl
  obtain ⟨n1, n2, n3⟩ := nodeP_ok hO (a := a) hav
  unfold workF
  have hto : a.to.toNat = n := by omega
  rw [hto]
  rw [← hnp] at hW
  generalize nodeP F a = r at *
  obtain ⟨L, out, is⟩ := r
  simp only at hW n1 n2 n3 ⊢
  rw [hn2, ← lsel_at hn1 hn4] at hW
  obtain ⟨e, he⟩ := wst_all hn1 hn4 hB.1 h8 hn2 (hW _) hl
  obtain ⟨v2, hB2, q1, q2, q3⟩ := flb_work hn1 hn4 hB hO.led5 hl L (mbox out)
  have h11 : HP.get (HP.put ((⟨11, ck, 23⟩, mbox out) :: h) ⟨34, cf, 5⟩ ⟨34, cf, 5⟩ (.box 78 (lcs n (.t (enl L)) (iv F.m.dim) (.t (laysT F.m)) (iv F.pe) (.t (gl F.ph)) v.l0 v.l1 v.l2 v.l3 v.l4 v.vb (.t (gl F.toks)) (iv F.at_) v.vp v.va v.vd))) ⟨11, ck, 23⟩ = some (mbox out) := by
    rw [get_put_ne (by simp)]; simp [HP.get]
  obtain ⟨h3, ck3, vb3, e3, hrun, hle, hB3, hfr3⟩ := wtl_run (ck := ck + 1 + 1 + 1) hB2 out h11 is e hO.f0.bag n3
  refine ⟨e3, _, he, h3, ck3, _, hrun, by omega, hB3, q1, q2, q3, fun q hq hk => ?_⟩
  rw [hfr3 q (by omega) hk, get_put_ne hk, get_new hq]
end Go.Proofs.YtbocnaoihepjfaaGreat.Pv
end

section
/- What a fleet's Deliver tells, whole. -/
namespace Go.Proofs.YtbocnaoihepjfaaGreat.Pv
open Go Go.Pev
variable {N : Nat}

theorem evL_pre {C : Cfg} {a b c x : Pc} {s s' : St} (h : evL C (.seq a (.seq b c)) s = some (.normal, s')) : evL C (.seq a (.seq b (.seq c x))) s = evL C x s' := by
  have key : ∀ (r : Option (Ex × St)) (f : St → Option (Ex × St)) (t : Option (Ex × St)), thenC r f = t → ∀ s', t = some (.normal, s') → ∃ s1, r = some (.normal, s1) ∧ f s1 = some (.normal, s') := by
    intro r f t h s' ht
    subst ht
    cases r with
    | none => simp [thenC] at h
    | some r =>
      obtain ⟨o, s1⟩ := r
      cases o with
      | normal => exact ⟨s1, rfl, h⟩
      | _ => simp [thenC] at h
  rw [evL_seq] at h
  obtain ⟨s1, e1, h⟩ := key _ _ _ h _ rfl
  rw [evL_seq] at h
  obtain ⟨s2, e2, h⟩ := key _ _ _ h _ rfl
  rw [evL_seq, e1]
  show evL C _ s1 = _
  rw [evL_seq, e2]
  show evL C _ s2 = _
  rw [evL_seq, h]
  rfl
def dvW : Pc := .seq f21r10 (.seq f21r11 (.seq f21r12 wtl))
theorem dvW_run {h : HP} {cf ck c8 : Nat} {F : Flt} {v : Vs} (a : Msg) (hB : FlB h cf F v) (hO : Ok N F) (hN : N ≤ 800000) (hav : a.vec.length ≤ 1000000) (h0 : 1 ≤ a.to) (h4 : a.to ≤ 4) (h8 : h.get ⟨8, c8, 5⟩ = some (mbox a)) (hl : cf < ck) :
    ∃ e h' ck' v', evL cfg dvW ⟨[(0, .pt ⟨34, cf, 5⟩ 15 0 0), (8, .pt ⟨8, c8, 5⟩ 11 0 0), (44, bv true)], h, ck⟩ = some (.normal, ⟨e, h', ck'⟩) ∧ ck ≤ ck' ∧ FlB h' cf (workF F a) v' ∧ v'.vp = v.vp ∧ v'.va = v.va ∧ v'.vd = v.vd ∧ ∀ q, q.c < ck → q ≠ ⟨34, cf, 5⟩ → h'.get q = h.get q := by
  obtain ⟨e, s, hs, h', ck', v', ht, r⟩ := work_stage (N := N) a hB hO hN hav h0 h4 h8 hl
  exact ⟨e, h', ck', v', (evL_pre hs).trans ht, r⟩
def dvK : Pc := .block 0 (.seq f21r6 (.cond (.tmp 34) .skip (.seq f21r7 (.cond (.tmp 37) f21r8 (.seq f21r9 (.cond (.tmp 44) dvW .skip))))))
abbrev dvB : Pc := (.seq f21r0 (.seq f21r1 (.seq (.seq f21r2 (.cond (.tmp 24) (.seq f21r3 .ret) .skip)) (.seq f21r4 (.seq f21r5 (.seq dvK (.seq f21r14 .ret)))))))
def gotM (F : Flt) (a : Msg) (st : Int) : Flt := if st ≠ 0 then F else if a.to = 0 then answerP F a else if a.to ≤ 4 then workF F a else F
theorem ran_in {h h' : HP} {ck cf ca cb ck1 ck2 ck' ca' cb' : Nat} (r : Ran h ck1 cf ca cb h' ck2 ca' cb') (h1 : ck ≤ ck1) (h2 : ck2 ≤ ck') : Ran h ck cf ca cb h' ck' ca' cb' := by
  have := r.le
  refine ⟨by omega, fun q hq a b c => r.fr q (by omega) a b c, ?_, ?_⟩
  · rcases r.ca with e | e
    · exact .inl e
    · exact .inr (by omega)
  · rcases r.cb with e | e
    · exact .inl e
    · exact .inr (by omega)
theorem dvK_run {h : HP} {ck cf ca cb c8 : Nat} {F : Flt} (a : Msg) (st : Int) (hS : FlS h ck cf ca cb F) (hO : Ok N F) (hN : N ≤ 800000) (hav : a.vec.length ≤ 1000000) (hto : st = 0 → 0 ≤ a.to) (h8 : h.get ⟨8, c8, 5⟩ = some (mbox a)) : ∃ e h' ck' ca' cb', evL cfg dvK ⟨[(0, .pt ⟨34, cf, 5⟩ 15 0 0), (8, .pt ⟨8, c8, 5⟩ 11 0 0), (9, iv st)], h, ck⟩ = some (.normal, ⟨e, h', ck'⟩) ∧ FlS h' ck' cf ca' cb' (gotM F a st) ∧ Ok (N + 1) (gotM F a st) ∧ Ran h ck cf ca cb h' ck' ca' cb' := by
  unfold dvK gotM
  have h8' := h8
  simp only [mbox, il, iv] at h8'
  by_cases c1 : st = 0
  case neg =>
    rw [if_pos c1]
    refine ⟨[(0, .pt ⟨34, cf, 5⟩ 15 0 0), (8, .pt ⟨8, c8, 5⟩ 11 0 0), (34, bv true)], h, ck + 1, ca, cb, ?_, fls_le hS (by omega), hO.up, Ran.to (by omega) fun _ _ _ => rfl⟩
    have b1 : (st != 0) = true := by simpa using c1
    simp [b1, bv, filt_t]
  have h0 := hto c1
  rw [if_neg (by simpa using c1)]
  subst c1
  by_cases c2 : a.to = 0
  · rw [if_pos c2]
    obtain ⟨h3, ck3, ca3, cb3, hrun, hS3, hO3, hR3⟩ := answer_run (ck := ck + 1 + 1 + 1) a (fls_le hS (by omega)) hO hav
    have hA := fun e k => callEv_h (C := cfg) (s := ⟨e, h, ck + 1 + 1⟩) rfl hrun k
    have b2 : (a.to == 0) = true := by simpa using c2
    refine ⟨[], h3, ck3 + 2, ca3, cb3, ?_, fls_le hS3 (by omega), hO3.up, ran_in hR3 (by omega) (by omega)⟩
    simp only [msgV, il, iv] at hA
    simp [h8', hA, b2, filt_t]
  rw [if_neg c2]
  have b2 : (a.to == 0) = false := by simpa using c2
  by_cases c3 : a.to ≤ 4
  · rw [if_pos c3]
    obtain ⟨v, hB, l1, l2, l3, hr⟩ := hS
    obtain ⟨e3, h3, ck3, v3, hrun, hle, hB3, q1, q2, q3, hfr⟩ := dvW_run (ck := ck + 1 + 1 + 1) a hB hO hN hav (by omega) c3 h8 (by omega)
    refine ⟨e3, h3, ck3, ca, cb, ?_, ⟨v3, hB3, by omega, by omega, by omega, fun hc => ?_⟩, workF_ok hO hav, ⟨by omega, fun q hq h1 _ _ => hfr q (by omega) h1, .inl rfl, .inl rfl⟩⟩
    · simp only [bv] at hrun
      simp [h8', b2, c3, filt_t, hrun]
    · obtain ⟨r1, r2, r3, r4, r5⟩ := hr hc
      exact ⟨by rw [q1, r1]; rfl, by rw [q2, r2]; rfl, by rw [q3, r3]; rfl, by rw [hfr _ (by simp only; omega) (by simp)]; exact r4, by rw [hfr _ (by simp only; omega) (by simp)]; exact r5⟩
  · rw [if_neg c3]
    refine ⟨[(0, .pt ⟨34, cf, 5⟩ 15 0 0), (8, .pt ⟨8, c8, 5⟩ 11 0 0), (44, bv false)], h, ck + 3, ca, cb, ?_, fls_le hS (by omega), hO.up, Ran.to (by omega) fun _ _ _ => rfl⟩
    simp [bv, h8', b2, c3, filt_t]
end Go.Proofs.YtbocnaoihepjfaaGreat.Pv
end

section
/- What a fleet's Deliver tells, whole. -/
namespace Go.Proofs.YtbocnaoihepjfaaGreat.Pv
open Go Go.Pev
variable {N : Nat}

theorem ran_mid {h h' : HP} {ck cf ca cb ck' ca' cb' : Nat} {ob ob2 : Ob} (r : Ran ((⟨8, ck + 4, 5⟩, ob2) :: h.put ⟨34, cf, 5⟩ ⟨34, cf, 5⟩ ob) (ck + 5) cf ca cb h' ck' ca' cb') : Ran h ck cf ca cb h' ck' ca' cb' := by
  have := r.le
  refine ⟨by omega, fun q hq a b c => ?_, ?_, ?_⟩
  · rw [r.fr q (by omega) a b c, get_new (by omega), get_put_ne a]
  · rcases r.ca with e | e
    · exact .inl e
    · exact .inr (by omega)
  · rcases r.cb with e | e
    · exact .inl e
    · exact .inr (by omega)
theorem deliver_run {h : HP} {ck cf ca cb : Nat} {F : Flt} (i : Int) (hS : FlS h ck cf ca cb F) (hO : Ok N F) (hN : N ≤ 800000) : ∃ h' ck' ca' cb', runL cfg 21 [.pt ⟨34, cf, 5⟩ 15 0 0, iv i] h ck = some (iv (delvP F i).2, h', ck') ∧ FlS h' ck' cf ca' cb' (delvP F i).1 ∧ Ok (N + 1) (delvP F i).1 ∧ Ran h ck cf ca cb h' ck' ca' cb' := by
  have hS0 := hS
  obtain ⟨v, hB, l1, l2, l3, hr⟩ := hS
  have hg := hB.1
  obtain ⟨o0, o1, o2, o3, o4, o5, o6⟩ := hB.2
  have hT := fun s k => callEv_rd (C := cfg) (btake_ret F.bag i hO.f0.bag) rfl rfl (rdA_v o5 (rdA_t rdA_nil)) s k
  obtain ⟨t1, t2, t3⟩ := take_s (i := i) hO.bags
  unfold delvP
  generalize bagTake F.bag i = r at *
  obtain ⟨s, rest, ok⟩ := r
  simp only at t1 t2 t3 hT ⊢
  rw [runL_pf (fn := ⟨2, 82, [.tmp 4], dvB⟩) rfl rfl]
  simp only [iv, bv] at hT
  cases ok with
  | false =>
    refine ⟨h, ck + 4, ca, cb, ?_, fls_le hS0 (by omega), hO.up, Ran.to (by omega) fun _ _ _ => rfl⟩
    simp only [fcs] at hg
    simp [dvB, hg, hT, filt_t]
  | true =>
    have hV : VsOk { F with bag := rest } { v with vb := .t (sl rest) } := ⟨o0, o1, o2, o3, o4, rd_t _, o6⟩
    have hS1 := fls_put hB l1 l2 l3 hr hV rfl rfl rfl rfl rfl rfl rfl rfl
    have hO1 : Ok N { F with bag := rest } := bag_ok hO (by have := hO.f0.bag; omega) t1
    have hk := fun t k => callEv_tr (C := cfg) (take_ret s t2) rfl rfl rfl t k
    have hav := takeP_vec s
    have htw : (takeP s).2 = 0 → 0 ≤ (takeP s).1.to := fun e => (wright_num (takeP_ok e)).2.2.2.2.2.2.1.1
    have hgm : gotP { F with bag := rest } s = gotM { F with bag := rest } (takeP s).1 (takeP s).2 := rfl
    simp only [↓reduceIte]
    rw [hgm]
    generalize takeP s = q at *
    obtain ⟨a, st⟩ := q
    simp only at hk hav htw ⊢
    obtain ⟨e, h3, ck3, ca3, cb3, hrun, hS3, hO3, hR3⟩ := dvK_run (c8 := ck + 4) (ck := ck + 5) (h := (⟨8, ck + 4, 5⟩, mbox a) :: h.put ⟨34, cf, 5⟩ ⟨34, cf, 5⟩ (.box 78 (fcs { F with bag := rest } { v with vb := .t (sl rest) }))) a st (fls_new hS1 (by decide) (by decide) (by decide) _ (by omega)) hO1 hN hav htw (by simp [HP.get])
    refine ⟨h3, ck3 + 1, ca3, cb3, ?_, fls_le hS3 (by omega), hO3, ?_⟩
    · simp only [msgV, il, iv] at hk
      simp only [mbox, fcs, il, iv] at hrun
      simp only [fcs, iv] at hg
      simp [dvB, hg, hT, hk, filt_t, over]
      simp [hrun]
    · refine ran_in (ck1 := ck) (ck2 := ck3) (ran_mid hR3) (by omega) (by omega)
end Go.Proofs.YtbocnaoihepjfaaGreat.Pv
end

section
/- What fleet.New tells. -/
namespace Go.Proofs.YtbocnaoihepjfaaGreat.Pv
open Go Go.Pev

def newF (m : Mod) (pe : Int) (ph ts : List (List Int)) : Flt := ⟨m, pe, ph, [[], [], [], [], []], [], ts, 0, [], [], []⟩
def newOk (m : Mod) (pe : Int) (ph ts : List (List Int)) : Bool := modRight m && tokRight m ts && right pe ph && m.lays.all fun l => !decide (ph.length < l.exps.length)
def startF (m : Mod) (pe : Int) (ph ts : List (List Int)) : Flt := comeP (beginP (newF m pe ph ts))
theorem new1_ret (l : Lay) (pe : Int) (ph : List (List Int)) : RetT cfg 34 [layV l, .pr [.i .i64 pe, gl ph]] (bv (decide (ph.length < l.exps.length))) := by
  refine RetT.of ?_
  rw [runL_pf (fn := f34) rfl rfl]
  by_cases c : ph.length < l.exps.length
  · have c' : ((l.exps.length : Int) > ph.length) := by omega
    simp [layV, gl, c]
  · simp [layV, gl, c]
theorem newc_ret (m : Mod) (pe : Int) (ph : List (List Int)) (h : FewM m) : RetT cfg 33 [.t (laysT m), .fn 34 [.pr [.i .i64 pe, gl ph]]] (bv (!(m.lays.all fun l => !decide (ph.length < l.exps.length)))) := by
  rw [List.not_all_eq_any_not]
  refine ctf_run (ix := 72) rfl rfl rfl rfl (fun _ => rfl) ?_
  refine ixf_run (ag := true) (sz := 3) layT _ layV rfl rfl (by simp [layT]) (by simp [layT, layV]) h.1 ?_
  intro l hl s k hs
  exact ⟨s.ck, by rw [callEv_cl (C := cfg) (new1_ret l pe ph) rfl rfl rfl s k (by simp [puresOf, pureOf, layV, treesOf, treeOf]), hs, Bool.not_not]; rfl⟩
theorem new_bad {m : Mod} {pe : Int} {ph ts : List (List Int)} (hm : FewM m) (ht : Few ts) (hp : ph.length ≤ 1000000 ∧ ∀ r ∈ ph, r.length ≤ 100000) (hb : newOk m pe ph ts = false) (h : HP) (ck : Nat) : ∃ h' ck', runL cfg 12 [modV m, mapV pe ph, .t (gl ts)] h ck = some (.tu [.t .np, iv 1], h', ck') ∧ ck ≤ ck' ∧ ∀ q, q.c < ck → h'.get q = h.get q := by
  have h1 := fun s k => callEv_tr (C := cfg) (mod_ret m hm) rfl rfl rfl s k
  have h2 := fun s k => callEv_tr (C := cfg) (tok_ret m ts ht) rfl rfl rfl s k
  have h3 := fun s k => callEv_tr (C := cfg) (pright_ret pe ph hp.1 (fun r hr => by have := hp.2 r hr; omega)) rfl rfl rfl s k
  have h4 := fun s k => callEv_fn (C := cfg) (caps0 := [.pt ⟨4, ck, 1⟩ 2 0 0]) (newc_ret m pe ph hm) rfl rfl rfl s k
  refine ⟨(⟨4, ck, 1⟩, .box 27 [iv pe, .t (gl ph)]) :: (⟨3, ck, 0⟩, .box 24 [iv m.dim, .t (laysT m)]) :: h, ck + 3, ?_, by omega, fun q hq => by rw [get_new hq, get_new hq]⟩
  rw [runL_pf (fn := f12) rfl rfl]
  unfold newOk at hb
  simp only [modV, mapV, gl, iv, bv, laysT] at h1 h2 h3 h4
  generalize modRight m = b1 at *
  generalize tokRight m ts = b2 at *
  generalize right pe ph = b3 at *
  generalize (m.lays.all fun l => !decide (ph.length < l.exps.length)) = b4 at *
  cases b1 with
  | false => simp [modV, mapV, laysT, gl, h1, filt_t]
  | true =>
  cases b2 with
  | false => simp [modV, mapV, laysT, gl, h1, h2, filt_t]
  | true =>
  cases b3 with
  | false => simp [modV, mapV, laysT, gl, h1, h2, h3, filt_t]
  | true =>
  cases b4 with
  | false => simp [modV, mapV, laysT, gl, h1, h2, h3, h4, filt_t, capsOf, capOf, treesOf, treeOf]
  | true => cases hb
end Go.Proofs.YtbocnaoihepjfaaGreat.Pv
end

section
/- The document's Right of the layer 17. -/
namespace Go.Proofs.YtbocnaoihepjfaaGreat.Pv
open Go Go.Pev
theorem rright_row (r : List Int) (i : V) (ty : Nat) (bx : List V) (hr : r.length ≤ 1000000) : ∀ (k j : Nat) (last : Int) (ck : Nat), j + k = r.length → ((j = 0 ∧ last = 0) ∨ (0 < j ∧ r[j - 1]? = some last ∧ 1 ≤ last)) → ∃ c, evL cfg (.loop f40l0) ⟨[(1, .pt ⟨1, 0, 0⟩ 2 0 0), (3, i), (4, .t (il r)), (5, iv j)], [(⟨1, 0, 0⟩, .box ty bx)], ck⟩ =
    some (if rowUp last (r.drop j) then (.exit 2, ⟨[(1, .pt ⟨1, 0, 0⟩ 2 0 0), (3, i), (4, .t (il r)), (5, iv r.length), (38, bv false)], [(⟨1, 0, 0⟩, .box ty bx)], c⟩) else (.ret, ⟨[(2, bv false)], [], c⟩)) := by
  intro k
  induction k with
  | zero =>
    intro j last ck h _
    obtain rfl : j = r.length := by omega
    refine ⟨ck + 1, ?_⟩
    rw [evL_loop]
    simp [f40l0e, rowUp]
  | succ k ih =>
    intro j last ck h hlast
    have hj : j < r.length := by omega
    have hw : IntKind.i64.wrap ((j : Int) + 1) = (j : Int) + 1 := wrap_id (by omega) (by omega)
    have hw2 : IntKind.i64.wrap ((j : Int) - 1) = (j : Int) - 1 := wrap_id (by omega) (by omega)
    rw [rowUp_at last hj]
    by_cases h1 : r[j] < 1
    · have h1' : ¬ last < r[j] := by rcases hlast with ⟨_, h⟩ | ⟨_, _, h⟩ <;> omega
      refine ⟨ck + 3, ?_⟩
      rw [evL_loop]
      simp [f40l0e, hj, h1, h1']
    · by_cases h2 : 4 < r[j]
      · have h2' : ¬ r[j] ≤ 4 := by omega
        refine ⟨ck + 3, ?_⟩
        rw [evL_loop]
        simp [f40l0e, hj, h1, h2, h2']
      · have h2' : r[j] ≤ 4 := by omega
        rcases hlast with ⟨rfl, rfl⟩ | ⟨h0, hl1, hl2⟩
        · obtain ⟨c, hc⟩ := ih 1 r[0] (ck + 3) (by omega) (.inr ⟨by omega, by simp [hj], by omega⟩)
          have h3 : (0 : Int) < r[0] := by omega
          refine ⟨c, ?_⟩
          rw [evL_loop_n (s1 := ⟨[(1, .pt ⟨1, 0, 0⟩ 2 0 0), (3, i), (4, .t (il r)), (5, iv ((1 : Nat) : Int))], [(⟨1, 0, 0⟩, .box ty bx)], ck + 3⟩), hc]
          · have h3d : decide ((0 : Int) < r[0]) = true := by simpa using h3
            have h2d : decide (r[0] ≤ 4) = true := by simpa using h2'
            rw [h3d, h2d, Bool.true_and, Bool.true_and]
          · simp at hw
            simp [f40l0e, hj, h1, h2, hw]
        · have h0' : (0 : Int) < j := by omega
          have h4 : (1 : Int) ≤ (j : Int) := by omega
          have h5 : ((j : Int) - 1).toNat = j - 1 := by omega
          have hj1 : j - 1 < r.length := by omega
          have hl1' : r[j - 1] = last := by rw [List.getElem?_eq_getElem hj1] at hl1; exact Option.some.inj hl1
          by_cases h3 : r[j] ≤ last
          · have h3' : ¬ last < r[j] := by omega
            refine ⟨ck + 3, ?_⟩
            rw [evL_loop]
            simp [f40l0e, hj, h1, h2, h0', h0, hw2, h4, h5, hj1, hl1', h3, h3']
          · have h3' : last < r[j] := by omega
            obtain ⟨c, hc⟩ := ih (j + 1) r[j] (ck + 3) (by omega) (.inr ⟨by omega, by simp [hj], by omega⟩)
            refine ⟨c, ?_⟩
            rw [evL_loop_n (s1 := ⟨[(1, .pt ⟨1, 0, 0⟩ 2 0 0), (3, i), (4, .t (il r)), (5, iv ((j + 1 : Nat) : Int))], [(⟨1, 0, 0⟩, .box ty bx)], ck + 3⟩), hc]
            · simp [h2', h3']
            · simp [f40l0e, hj, h1, h2, h0', h0, hw2, h4, h5, hj1, hl1', h3, hw]

theorem rright_rows (e : Int) (h : List (List Int)) (ty : Nat) (hh : h.length ≤ 1000000) (hr : ∀ r ∈ h, r.length ≤ 1000000) : ∀ (k i ck : Nat), i + k = h.length → ∃ c, evL cfg (.loop f40l1) ⟨[(1, .pt ⟨1, 0, 0⟩ 2 0 0), (3, iv i)], [(⟨1, 0, 0⟩, .box ty [iv e, .t (gl h)])], ck⟩ =
    some (if ((h.drop i).all fun r => rowUp 0 r && !r.isEmpty) then (.exit 0, ⟨[(1, .pt ⟨1, 0, 0⟩ 2 0 0), (3, iv h.length), (24, bv false)], [(⟨1, 0, 0⟩, .box ty [iv e, .t (gl h)])], c⟩) else (.ret, ⟨[(2, bv false)], [], c⟩)) := by
  intro k
  induction k with
  | zero =>
    intro i ck hk
    obtain rfl : i = h.length := by omega
    refine ⟨ck + 1, ?_⟩
    rw [evL_loop]
    simp [f40l1e, gl]
  | succ k ih =>
    intro i ck hk
    have hi : i < h.length := by omega
    have hw : IntKind.i64.wrap ((i : Int) + 1) = (i : Int) + 1 := wrap_id (by omega) (by omega)
    have hri := hr _ (List.getElem_mem hi)
    have hall : ((h.drop i).all fun r => rowUp 0 r && !r.isEmpty) = ((rowUp 0 h[i] && !h[i].isEmpty) && ((h.drop (i + 1)).all fun r => rowUp 0 r && !r.isEmpty)) := by
      rw [List.drop_eq_getElem_cons hi]; rfl
    by_cases h2 : h[i].length = 0
    · have h2' : h[i] = [] := List.eq_nil_of_length_eq_zero h2
      refine ⟨ck + 4, ?_⟩
      have hb : (((h[i].length : Nat) : Int) == 0) = true := by simp [h2]
      rw [evL_loop, hall, if_neg (by simp [h2'])]
      simp [f40l1e, gl, hi, hb]
    · have h2' : ¬ h[i] = [] := fun e => h2 (by rw [e]; rfl)
      have h2b : (((h[i].length : Nat) : Int) == 0) = false := by simp; exact h2'
      obtain ⟨c0, hc0⟩ := rright_row h[i] (iv i) ty [iv e, .t (gl h)] hri h[i].length 0 0 (ck + 4) (by omega) (.inl ⟨rfl, rfl⟩)
      simp only [List.drop_zero, gl, il, iv, bv, Int.natCast_zero] at hc0
      by_cases h1 : rowUp 0 h[i] = true
      · rw [if_pos h1] at hc0
        obtain ⟨c, hc⟩ := ih (i + 1) (c0 + 1) (by omega)
        refine ⟨c, ?_⟩
        rw [evL_loop_n (s1 := ⟨[(1, .pt ⟨1, 0, 0⟩ 2 0 0), (3, iv ((i + 1 : Nat) : Int))], [(⟨1, 0, 0⟩, .box ty [iv e, .t (gl h)])], c0 + 1⟩), hc]
        · rw [hall]; simp [h1, h2']
        · simp [f40l1e, gl, hi, hc0, h2b, hw]
      · rw [if_neg h1] at hc0
        refine ⟨c0, ?_⟩
        rw [evL_loop, hall]
        simp [f40l1e, gl, hi, hc0, h1, h2b]

theorem rright_ret (e : Int) (h : List (List Int)) (hh : h.length ≤ 1000000) (hr : ∀ r ∈ h, r.length ≤ 1000000) : RetT cfg 40 [.ag [iv e, .t (gl h)]] (bv (right e h)) := by
  obtain ⟨c, hc⟩ := rright_rows e h 35 hh hr h.length 0 3 (by omega)
  refine RetT.of ?_
  rw [runL_pf (fn := f40) rfl rfl]
  simp only [List.drop_zero, gl, il, iv, bv, Int.natCast_zero] at hc
  by_cases h2 : e < 0
  · have h2' : ¬ 0 ≤ e := by omega
    simp [gl, right, h2, h2']
  · have h2' : 0 ≤ e := by omega
    by_cases h3 : 2147483647 < e
    · have h3' : ¬ e ≤ 2147483647 := by omega
      simp [gl, right, h2, h3, h3']
    · have h3' : e ≤ 2147483647 := by omega
      by_cases h4 : (8 : Int) < h.length
      · have h4' : ¬ h.length ≤ 8 := by omega
        simp [gl, right, h2, h3, h4, h4']
      · have h4' : h.length ≤ 8 := by omega
        by_cases h1 : (h.all fun r => rowUp 0 r && !r.isEmpty) = true
        · rw [if_pos h1] at hc
          simp [gl, hc, right, h1, h2, h2', h3, h3', h4, h4']
        · rw [if_neg h1] at hc
          simp [gl, hc, right, h1, h2, h2', h3, h3', h4, h4']

end Go.Proofs.YtbocnaoihepjfaaGreat.Pv
end

section
/- What the document's May of the layer 19, Small of the layer 15 tell. -/
namespace Go.Proofs.YtbocnaoihepjfaaGreat.Pv
open Go Go.Pev

def smallX (x : Exp) : Bool := small x.inn && small x.out
def smallL (l : Lay) : Bool := decide (l.exps.length ≤ 9) && small l.gate && l.exps.all smallX
def smallM (m : Mod) : Bool := decide (m.lays.length ≤ 5) && m.lays.all smallL
theorem small_call (h : List (List Int)) (s : St) (k : Key) : callEv cfg (runL cfg) 10 [.t (gl h)] s k = some (bv (small h), s.hp, s.ck) := callEv_tr (C := cfg) (small_ret h) rfl rfl rfl s k
def sxI (xs : List Exp) (w0 w1 w2 : V) (i : Nat) (s : St) : Prop := Upto smallX xs i ∧ ∃ ck, s = ⟨[(12, w0), (13, w1), (14, w2), (29, .t (.l (xs.map exT))), (30, iv xs.length), (31, iv (i : Int))], [], ck⟩
def sxQ (xs : List Exp) (w0 w1 w2 : V) (E : Option (Ex × St)) : Prop :=
  (xs.all smallX = true ∧ ∃ ck, E = some (.exit 2, ⟨[(12, w0), (13, w1), (14, w2), (29, .t (.l (xs.map exT))), (30, iv xs.length), (31, iv xs.length), (32, bv false)], [], ck⟩)) ∨
  (xs.all smallX = false ∧ ∃ ck, E = some (.ret, ⟨[(2, bv false)], [], ck⟩))
theorem sx_loop (xs : List Exp) (w0 w1 w2 : V) (hl : xs.length ≤ 1000000) (ck : Nat) : sxQ xs w0 w1 w2 (evL cfg (.loop f9l0) ⟨[(12, w0), (13, w1), (14, w2), (29, .t (.l (xs.map exT))), (30, iv xs.length), (31, iv 0)], [], ck⟩) := by
  refine loop_q xs.length (sxI xs w0 w1 w2) ?_ ?_ _ ⟨upto0 _ _, ck, rfl⟩
  · rintro i s hi ⟨h1, ck, rfl⟩
    have hw : IntKind.i64.wrap ((i : Int) + 1) = (i : Int) + 1 := wrap_id (by omega) (by omega)
    have hr := small_call xs[i].inn
    have hr2 := small_call xs[i].out
    have hx : smallX xs[i] = (small xs[i].inn && small xs[i].out) := rfl
    simp only [gl, iv, bv] at hr hr2
    by_cases g : small xs[i].inn = true
    · by_cases g2 : small xs[i].out = true
      · simp [f9l0e, exT, gl, hi, hr, hr2, hw, g, g2, over]
        exact ⟨upto_s h1 hi (by rw [hx, g, g2]; rfl), _, rfl⟩
      · have g' : small xs[i].out = false := by simpa using g2
        simp [f9l0e, exT, gl, hi, hr, hr2, hw, g, g', over]
        exact .inr ⟨all_not hi (by rw [hx, g']; simp), _, rfl⟩
    · have g' : small xs[i].inn = false := by simpa using g
      simp [f9l0e, exT, gl, hi, hr, hr2, hw, g', over]
      exact .inr ⟨all_not hi (by rw [hx, g']; rfl), _, rfl⟩
  · rintro s ⟨h1, ck, rfl⟩
    simp [f9l0e]
    exact .inl ⟨upto_all h1, _, rfl⟩
def syI (m : Mod) (i : Nat) (s : St) : Prop := Upto smallL m.lays i ∧ ∃ ck, s = ⟨[(12, .t (laysT m)), (13, iv m.lays.length), (14, iv (i : Int))], [], ck⟩
theorem sm_loop (m : Mod) (h : m.lays.length ≤ 5) (ck : Nat) : ryQ (m.lays.all smallL) (evL cfg (.loop f9l1) ⟨[(12, .t (laysT m)), (13, iv m.lays.length), (14, iv 0)], [], ck⟩) := by
  refine loop_q m.lays.length (syI m) ?_ ?_ _ ⟨upto0 _ _, ck, rfl⟩
  · rintro i s hi ⟨h1, ck, rfl⟩
    have hw : IntKind.i64.wrap ((i : Int) + 1) = (i : Int) + 1 := wrap_id (by omega) (by omega)
    have hA := small_call m.lays[i].gate
    have hE := fun (hz : m.lays[i].exps.length ≤ 1000000) ck => sx_loop m.lays[i].exps (.t (laysT m)) (iv m.lays.length) (iv i) hz ck
    have hR : smallL m.lays[i] = (decide (m.lays[i].exps.length ≤ 9) && small m.lays[i].gate && m.lays[i].exps.all smallX) := rfl
    have hno : smallL m.lays[i] = false → (m.lays.all smallL) = false := fun e => all_not (p := smallL) hi e
    have hyes : smallL m.lays[i] = true → Upto smallL m.lays (i + 1) := fun e => upto_s h1 hi e
    generalize (m.lays.all smallL) = b at *
    generalize hli : m.lays[i] = l at *
    simp only [gl, iv, bv] at hA
    by_cases c1 : (9 : Int) < l.exps.length
    · have c1' : ¬ l.exps.length ≤ 9 := by omega
      simp [f9l1e, laysT, hli, hi, layT, c1, over]
      exact .inr ⟨hno (by simp [hR, c1']), _, _, rfl⟩
    have c1' : l.exps.length ≤ 9 := by omega
    by_cases c3 : small l.gate = true
    case neg =>
      have c3' : small l.gate = false := by simpa using c3
      simp [f9l1e, laysT, hli, hi, layT, c1, gl, hA, c3', over]
      exact .inr ⟨hno (by simp [hR, c3']), _, _, rfl⟩
    rcases hE (by omega) (ck + 1 + 1 + 1 + 1) with ⟨g, ck2, hc⟩ | ⟨g, ck2, hc⟩
    · simp [laysT] at hc
      simp [f9l1e, laysT, hli, hi, layT, c1, gl, hA, c3, hc, hw, over]
      exact ⟨hyes (by rw [hR, g]; simp [c1', c3]), _, rfl⟩
    · simp [laysT] at hc
      simp [f9l1e, laysT, hli, hi, layT, c1, gl, hA, c3, hc, hw, over]
      exact .inr ⟨hno (by rw [hR, g]; simp), _, _, rfl⟩
  · rintro s ⟨h1, ck, rfl⟩
    simp [f9l1e]
    exact .inl ⟨upto_all h1, _, _, _, rfl⟩
theorem smallM_ret (m : Mod) : RetT cfg 9 [modV m] (bv (smallM m)) := by
  have hL := sm_loop m
  refine RetT.of ?_
  rw [runL_pf (fn := f9) rfl rfl]
  unfold smallM modV
  generalize (m.lays.all smallL) = b at *
  by_cases c1 : (5 : Int) < m.lays.length
  · have c1' : ¬ m.lays.length ≤ 5 := by omega
    simp [laysT, c1, c1']
  have c1' : m.lays.length ≤ 5 := by omega
  rcases hL c1' 3 with ⟨rfl, e, hh, ck2, hc⟩ | ⟨rfl, hh, ck2, hc⟩
  · simp [laysT] at hc
    simp [laysT, c1, c1', hc]
  · simp [laysT] at hc
    simp [laysT, c1, c1', hc]
def myI (m : Mod) (pe : Int) (ph : List (List Int)) (i : Nat) (s : St) : Prop := Upto (fun l : Lay => !decide (ph.length < l.exps.length)) m.lays i ∧ ∃ ck, s = ⟨[(4, .pt ⟨4, 0, 1⟩ 2 0 0), (24, .t (laysT m)), (25, iv m.lays.length), (26, iv (i : Int))], [(⟨4, 0, 1⟩, .box 35 [iv pe, .t (gl ph)])], ck⟩
def myQ (b : Bool) (E : Option (Ex × St)) : Prop := (b = true ∧ ∃ h ck a c d e, E = some (.exit 0, ⟨[(4, .pt ⟨4, 0, 1⟩ 2 0 0), (24, a), (25, c), (26, d), (27, e)], h, ck⟩)) ∨ (b = false ∧ ∃ h ck, E = some (.ret, ⟨[(6, bv false)], h, ck⟩))
theorem may_loop (m : Mod) (pe : Int) (ph : List (List Int)) (h : FewM m) (ck : Nat) : myQ (m.lays.all fun l => !decide (ph.length < l.exps.length)) (evL cfg (.loop f13l0) ⟨[(4, .pt ⟨4, 0, 1⟩ 2 0 0), (24, .t (laysT m)), (25, iv m.lays.length), (26, iv 0)], [(⟨4, 0, 1⟩, .box 35 [iv pe, .t (gl ph)])], ck⟩) := by
  refine loop_q m.lays.length (myI m pe ph) ?_ ?_ _ ⟨upto0 _ _, ck, rfl⟩
  · rintro i s hi ⟨h1, ck, rfl⟩
    have hw : IntKind.i64.wrap ((i : Int) + 1) = (i : Int) + 1 := wrap_id (by have := h.1; omega) (by have := h.1; omega)
    by_cases c : ph.length < m.lays[i].exps.length
    · simp [f13l0e, laysT, gl, hi, layT, c, over]
      exact .inr ⟨all_not hi (by simp [c]), _, _, rfl⟩
    · simp [f13l0e, laysT, gl, hi, layT, c, hw, over]
      exact ⟨upto_s h1 hi (by simp [c]), ck + 1 + 1 + 1 + 1, by simp [laysT, gl]⟩
  · rintro s ⟨h1, ck, rfl⟩
    simp [f13l0e]
    exact .inl ⟨upto_all h1, _, _, _, _, _, _, rfl⟩
theorem rmay_ret (m : Mod) (pe : Int) (ph ts : List (List Int)) (hm : FewM m) (ht : Few ts) (hp : ph.length ≤ 1000000 ∧ ∀ r ∈ ph, r.length ≤ 100000) : RetT cfg 13 [modV m, mapV pe ph, .t (gl ts)] (bv (newOk m pe ph ts)) := by
  have h1 := fun s k => callEv_tr (C := cfg) (rmod_ret m hm) rfl rfl rfl s k
  have h2 := fun s k => callEv_tr (C := cfg) (rtok_ret m ts ht) rfl rfl rfl s k
  have h3 := fun s k => callEv_tr (C := cfg) (rright_ret pe ph hp.1 (fun r hr => by have := hp.2 r hr; omega)) rfl rfl rfl s k
  have hL := may_loop m pe ph hm
  refine RetT.of ?_
  rw [runL_pf (fn := f13) rfl rfl]
  unfold newOk
  simp only [modV, mapV, gl, iv, bv, laysT] at h1 h2 h3 hL
  generalize modRight m = b1 at *
  generalize tokRight m ts = b2 at *
  generalize right pe ph = b3 at *
  generalize (m.lays.all fun l => !decide (ph.length < l.exps.length)) = b4 at *
  cases b1 with
  | false => simp [modV, mapV, laysT, gl, h1]
  | true =>
  cases b2 with
  | false => simp [modV, mapV, laysT, gl, h1, h2]
  | true =>
  cases b3 with
  | false => simp [modV, mapV, laysT, gl, h1, h2, h3]
  | true =>
  rcases hL 3 with ⟨rfl, hh, ck2, a, c, d, e, hc⟩ | ⟨rfl, hh, ck2, hc⟩
  · simp [modV, mapV, laysT, gl, h1, h2, h3, hc]
  · simp [bv] at hc
    simp [modV, mapV, laysT, gl, h1, h2, h3, hc]
end Go.Proofs.YtbocnaoihepjfaaGreat.Pv
end

section
/- What fleet.New tells, when it takes. -/
namespace Go.Proofs.YtbocnaoihepjfaaGreat.Pv
open Go Go.Pev

def v0 : Vs := ⟨.nl, .nl, .nl, .nl, .nl, .nl, .nl, .nl, .nl⟩
theorem v0_ok (m : Mod) (pe : Int) (ph ts : List (List Int)) : VsOk (newF m pe ph ts) v0 := ⟨.inr ⟨rfl, rfl⟩, .inr ⟨rfl, rfl⟩, .inr ⟨rfl, rfl⟩, .inr ⟨rfl, rfl⟩, .inr ⟨rfl, rfl⟩, .inr ⟨rfl, rfl⟩, .inr ⟨rfl, rfl⟩⟩
theorem new_good {m : Mod} {pe : Int} {ph ts : List (List Int)} (hm : FewM m) (ht : Few ts) (hp : ph.length ≤ 1000000 ∧ ∀ r ∈ ph, r.length ≤ 100000) (hb : newOk m pe ph ts = true) (h : HP) (ck : Nat) : ∃ h' ck' cf ca cb, runL cfg 12 [modV m, mapV pe ph, .t (gl ts)] h ck = some (.tu [.pt ⟨34, cf, 5⟩ 15 0 0, iv 0], h', ck') ∧ FlS h' ck' cf ca cb (startF m pe ph ts) ∧ Ok 0 (startF m pe ph ts) ∧ ck ≤ cf ∧ ck ≤ ca ∧ ck ≤ cb ∧ ck ≤ ck' ∧ ∀ q, q.c < ck → h'.get q = h.get q := by
  have h1 := fun s k => callEv_tr (C := cfg) (mod_ret m hm) rfl rfl rfl s k
  have h2 := fun s k => callEv_tr (C := cfg) (tok_ret m ts ht) rfl rfl rfl s k
  have h3 := fun s k => callEv_tr (C := cfg) (pright_ret pe ph hp.1 (fun r hr => by have := hp.2 r hr; omega)) rfl rfl rfl s k
  have h4 := fun s k => callEv_fn (C := cfg) (caps0 := [.pt ⟨4, ck, 1⟩ 2 0 0]) (newc_ret m pe ph hm) rfl rfl rfl s k
  have h5 := fun hp => callQ_tr (C := cfg) (RetO.tree (clone2_ret (ts.map fun r => [il r]) (by simp) (by simpa using ht.1))) rfl hp
  have hb0 := hb
  unfold newOk at hb
  simp only [Bool.and_eq_true] at hb
  obtain ⟨⟨⟨b1, b2⟩, b3⟩, b4⟩ := hb
  have hmr := b1
  have htr := b2
  simp only [modRight, Bool.and_eq_true, decide_eq_true_eq] at hmr
  simp only [tokRight, Bool.and_eq_true, decide_eq_true_eq] at htr
  have hlt : (newF m pe ph ts).at_ < (newF m pe ph ts).m.lays.length := by show 0 < m.lays.length; omega
  have hF0 : Fit0 (newF m pe ph ts) := ⟨hm, ht, by show ts.length ≤ 10000; omega, hp, by simp [newF]⟩
  have hB0 : FlB ((⟨34, ck + 1 + 1, 5⟩, .box 78 (fcs (newF m pe ph ts) v0)) :: (⟨4, ck, 1⟩, .box 27 [iv pe, .t (gl ph)]) :: (⟨3, ck, 0⟩, .box 24 [iv m.dim, .t (laysT m)]) :: h) (ck + 1 + 1) (newF m pe ph ts) v0 := ⟨by simp [HP.get], v0_ok _ _ _ _⟩
  obtain ⟨ha, ka, va, ca, cb, ra, la, fa, wa, ga⟩ := begin_run (ck := ck + 1 + 1 + 1 + 1) hB0 hF0 (by omega)
  obtain ⟨wr, w1, w2, w3, w4⟩ := wa hlt
  have hOb : Ok 0 (beginP (newF m pe ph ts)) := beginP_ok hF0 (by simp [newF]) (by simp [newF]) (by simp [newF]) rfl
  have hSa : FlS ha ka (ck + 1 + 1) ca cb (beginP (newF m pe ph ts)) := ⟨va, fa, by omega, w2, w4, fun _ => wr⟩
  obtain ⟨hc, kc, cc, cd, rc, sc, oc, nc⟩ := come_run (ck := ka + 1 + 1 + 1) (fls_le hSa (by omega)) hOb
  have q1 := fun e k => callEv_h (C := cfg) (s := ⟨e, _, ck + 1 + 1 + 1⟩) rfl ra k
  have q2 := fun e k => callEv_h (C := cfg) (s := ⟨e, _, ka + 1 + 1⟩) rfl rc k
  refine ⟨hc, kc + 3, ck + 1 + 1, cc, cd, ?_, fls_le sc (by omega), oc, by omega, ?_, ?_, by have := nc.le; omega, fun q hq => ?_⟩
  · rw [runL_pf (fn := f12) rfl rfl]
    simp only [newF, v0, fcs, modV, mapV, gl, iv, bv, laysT, il, b1, b2, b3, b4, Int.natCast_zero] at h1 h2 h3 h4 h5 q1 q2
    simp [modV, mapV, laysT, gl, h1, h2, h3, h4, h5, filt_t, capsOf, capOf, treesOf, treeOf, buildV, cells, over, q1, q2]

  · rcases nc.ca with e | e <;> omega
  · rcases nc.cb with e | e <;> omega
  · rw [nc.fr q (by omega) (by rintro rfl; simp at hq; omega) (by rintro rfl; simp at hq; omega) (by rintro rfl; simp at hq; omega), ga q (by omega) (by rintro rfl; simp at hq; omega), get_new (by omega), get_new hq, get_new hq]
end Go.Proofs.YtbocnaoihepjfaaGreat.Pv
end

section
/- What law19.do tells. -/
namespace Go.Proofs.YtbocnaoihepjfaaGreat.Pv
open Go Go.Pev
variable {N : Nat}

theorem askS_run {h : HP} {ck cf ca cb : Nat} {F : Flt} (hS : FlS h ck cf ca cb F) (hO : Ok N F) : ∃ h' ck', runL cfg 28 [.pt ⟨34, cf, 5⟩ 15 0 0] h ck = some (.tu [], h', ck') ∧ FlS h' ck' cf ca cb (askP F) ∧ Ok N (askP F) ∧ Ran h ck cf ca cb h' ck' ca cb := by
  obtain ⟨v, hB, l1, l2, l3, hr⟩ := hS
  by_cases c : F.at_ < F.m.lays.length
  · obtain ⟨h', ck', vb, hrun, hle, hB', hfr⟩ := ask_run hB (hO.f1 c) l1 l3 (fun hc => by obtain ⟨r1, r2, r3, r4, r5⟩ := hr hc; exact ⟨r1, r3, r5⟩)
    obtain ⟨e1, e2, e3, e4, e5, e6, e7, e8, e9⟩ := askP_m F
    refine ⟨h', ck', hrun, ⟨_, hB', by omega, by omega, by omega, fun hc => ?_⟩, askP_ok hO, Ran.to hle hfr⟩
    obtain ⟨r1, r2, r3, r4, r5⟩ := hr c
    exact ⟨by rw [e7]; exact r1, by rw [e7]; exact r2, by rw [e7]; exact r3, by rw [hfr _ l2 (by simp), e8]; exact r4, by rw [hfr _ l3 (by simp), e9]; exact r5⟩
  · have hg := hB.1
    have e : askP F = F := by unfold askP; rw [if_neg c]
    rw [e]
    refine ⟨h, ck + 1, ?_, ⟨v, hB, by omega, by omega, by omega, hr⟩, hO, Ran.to (by omega) fun _ _ _ => rfl⟩
    have c' : F.m.lays.length ≤ F.at_ := by omega
    simp only [fcs, laysT] at hg
    rw [runL_pf (fn := f28) rfl rfl]
    simp [hg, c', filt_t]
structure Act where
  k : Int
  n : Int
  m : Int
def FewA (a : Act) : Prop := (0 ≤ a.k ∧ a.k < 256) ∧ (0 ≤ a.n ∧ a.n < 256) ∧ 0 ≤ a.m ∧ a.m < 256
def actC (a : Act) : List T := [.i .u8 a.k, .i .u8 a.n, .i .u8 a.m]
def actV (a : Act) : V := .ag [.t (.i .u8 a.k), .t (.i .u8 a.n), .t (.i .u8 a.m)]
def whichP (F : Flt) (a : Act) : Int := if 0 < F.bag.length then a.n % F.bag.length else 0
def doAt (F : Flt) (a : Act) (i : Int) : Flt :=
  if a.k % 6 = 0 then askP F
  else if a.k % 6 = 1 then (delvP F i).1
  else if a.k % 6 = 2 then (dropP F i).1
  else if a.k % 6 = 3 then (twiceP F i).1
  else if a.k % 6 = 4 then (addP F (a.n % 8) (a.m % 5)).1
  else (retP F (a.n % 8) (a.m % 5)).1
def doP (F : Flt) (a : Act) : Flt := doAt F a (whichP F a)
def doK : Pc := .seq f27r5 (.block 0 (.seq f27r6 (.cond (.tmp 19) f27r7 (.seq f27r8 (.cond (.tmp 23) f27r9 (.seq f27r10 (.cond (.tmp 28) f27r11 (.seq f27r12 (.cond (.tmp 33) f27r13 (.seq f27r14 (.cond (.tmp 38) f27r15 (.seq f27r16 (.cond (.tmp 50) f27r17 .skip)))))))))))))
theorem rem6 {k : Int} (h : 0 ≤ k) : k.tmod 6 = k % 6 := Int.tmod_eq_emod_of_nonneg h
theorem doK_run {h : HP} {ck cf ca cb c3 : Nat} {F : Flt} (a : Act) (i : Int) (ha : FewA a) (hS : FlS h ck cf ca cb F) (hO : Ok N F) (hN : N ≤ 800000) (h3 : h.get ⟨3, c3, 0⟩ = some (.box 64 ((actC a).map .t))) (E : Env) (e0 : E.get 0 = .pt ⟨34, cf, 5⟩ 15 0 0) (e3 : E.get 3 = .pt ⟨3, c3, 0⟩ 3 0 0) (e5 : E.get 5 = iv i) : ∃ e h' ck' ca' cb', evL cfg doK ⟨E, h, ck⟩ = some (.normal, ⟨e, h', ck'⟩) ∧ FlS h' ck' cf ca' cb' (doAt F a i) ∧ Ok (N + 1) (doAt F a i) ∧ Ran h ck cf ca cb h' ck' ca' cb' := by
  obtain ⟨⟨k1, k2⟩, ⟨n1, n2⟩, m1, m2⟩ := ha
  unfold doK doAt
  have h3' := h3
  simp only [actC, List.map_cons, List.map_nil] at h3'
  simp only [iv] at e5
  have ht := rem6 k1
  have h6 : a.k % 6 = 0 ∨ a.k % 6 = 1 ∨ a.k % 6 = 2 ∨ a.k % 6 = 3 ∨ a.k % 6 = 4 ∨ a.k % 6 = 5 := by omega
  have hn8 : a.n.tmod 8 = a.n % 8 := Int.tmod_eq_emod_of_nonneg n1
  have hm5 : a.m.tmod 5 = a.m % 5 := Int.tmod_eq_emod_of_nonneg m1
  have hw8 : IntKind.i64.wrap (a.n % 8) = a.n % 8 := wrap_id (by omega) (by omega)
  have hw5 : IntKind.i64.wrap (a.m % 5) = a.m % 5 := wrap_id (by omega) (by omega)
  rcases h6 with c | c | c | c | c | c
  · rw [if_pos c]
    rw [c] at ht
    obtain ⟨h4, ck4, hrun, hS4, hO4, hR4⟩ := askS_run (ck := ck + 1 + 1 + 1) (fls_le hS (by omega)) hO
    have hA := fun e k => callEv_h (C := cfg) (s := ⟨e, h, ck + 1 + 1⟩) rfl hrun k
    refine ⟨[], h4, ck4 + 2, ca, cb, ?_, fls_le hS4 (by omega), hO4.up, ran_in hR4 (by omega) (by omega)⟩
    try simp only [iv] at hA
    simp [e0, e3, e5, h3', ht, hA, hn8, hm5, hw8, hw5, filt_t]
  · rw [if_neg (by omega), if_pos c]
    rw [c] at ht
    obtain ⟨h4, ck4, ca4, cb4, hrun, hS4, hO4, hR4⟩ := deliver_run (ck := ck + 1 + 1 + 1 + 1) i (fls_le hS (by omega)) hO hN
    have hA := fun e k => callEv_h (C := cfg) (s := ⟨e, h, ck + 1 + 1 + 1⟩) rfl hrun k
    refine ⟨[], h4, ck4 + 2, ca4, cb4, ?_, fls_le hS4 (by omega), hO4, ran_in hR4 (by omega) (by omega)⟩
    try simp only [iv] at hA
    simp [e0, e3, e5, h3', ht, hA, hn8, hm5, hw8, hw5, filt_t]
  · rw [if_neg (by omega), if_neg (by omega), if_pos c]
    rw [c] at ht
    obtain ⟨h4, ck4, hrun, hS4, hO4, hR4⟩ := drop_run (ck := ck + 1 + 1 + 1 + 1 + 1) i (fls_le hS (by omega)) hO
    have hA := fun e k => callEv_h (C := cfg) (s := ⟨e, h, ck + 1 + 1 + 1 + 1⟩) rfl hrun k
    refine ⟨[], h4, ck4 + 2, ca, cb, ?_, fls_le hS4 (by omega), hO4.up, ran_in hR4 (by omega) (by omega)⟩
    try simp only [iv] at hA
    simp [e0, e3, e5, h3', ht, hA, hn8, hm5, hw8, hw5, filt_t]
  · rw [if_neg (by omega), if_neg (by omega), if_neg (by omega), if_pos c]
    rw [c] at ht
    obtain ⟨h4, ck4, hrun, hS4, hO4, hR4⟩ := twice_run (ck := ck + 1 + 1 + 1 + 1 + 1 + 1) i (fls_le hS (by omega)) hO
    have hA := fun e k => callEv_h (C := cfg) (s := ⟨e, h, ck + 1 + 1 + 1 + 1 + 1⟩) rfl hrun k
    refine ⟨[], h4, ck4 + 2, ca, cb, ?_, fls_le hS4 (by omega), hO4.up, ran_in hR4 (by omega) (by omega)⟩
    try simp only [iv] at hA
    simp [e0, e3, e5, h3', ht, hA, hn8, hm5, hw8, hw5, filt_t]
  · rw [if_neg (by omega), if_neg (by omega), if_neg (by omega), if_neg (by omega), if_pos c]
    rw [c] at ht
    obtain ⟨h4, ck4, hrun, hS4, hO4, hR4⟩ := fadd_run (ck := ck + 1 + 1 + 1 + 1 + 1 + 1 + 1) (a.n % 8) (a.m % 5) (fls_le hS (by omega)) hO
    have hA := fun e k => callEv_h (C := cfg) (s := ⟨e, h, ck + 1 + 1 + 1 + 1 + 1 + 1⟩) rfl hrun k
    refine ⟨[], h4, ck4 + 2, ca, cb, ?_, fls_le hS4 (by omega), hO4.up, ran_in hR4 (by omega) (by omega)⟩
    try simp only [iv] at hA
    simp [e0, e3, e5, h3', ht, hA, hn8, hm5, hw8, hw5, filt_t]
  · rw [if_neg (by omega), if_neg (by omega), if_neg (by omega), if_neg (by omega), if_neg (by omega)]
    rw [c] at ht
    obtain ⟨h4, ck4, hrun, hS4, hO4, hR4⟩ := fret_run (ck := ck + 1 + 1 + 1 + 1 + 1 + 1 + 1 + 1) (a.n % 8) (a.m % 5) (fls_le hS (by omega)) hO
    have hA := fun e k => callEv_h (C := cfg) (s := ⟨e, h, ck + 1 + 1 + 1 + 1 + 1 + 1 + 1⟩) rfl hrun k
    refine ⟨[], h4, ck4 + 2, ca, cb, ?_, fls_le hS4 (by omega), hO4.up, ran_in hR4 (by omega) (by omega)⟩
    try simp only [iv] at hA
    simp [e0, e3, e5, h3', ht, hA, hn8, hm5, hw8, hw5, filt_t]
end Go.Proofs.YtbocnaoihepjfaaGreat.Pv
end

section
/- What law19.do tells, whole. -/
namespace Go.Proofs.YtbocnaoihepjfaaGreat.Pv
open Go Go.Pev
variable {N : Nat}

abbrev doB : Pc := .seq f27r0 (.seq f27r1 (.seq f27r2 (.seq (.seq f27r3 (.cond (.tmp 10) f27r4 .skip)) doK)))
theorem fls_box {h : HP} {ck cf ca cb : Nat} {F : Flt} (hS : FlS h ck cf ca cb F) {s c o ck' : Nat} (h0 : ck ≤ c) (ob : Ob) (hle : ck ≤ ck') : FlS ((⟨s, c, o⟩, ob) :: h) ck' cf ca cb F := fls_fr hS hle (fun q hq => get_new (by omega))
theorem do_run {h : HP} {ck cf ca cb : Nat} {F : Flt} (a : Act) (ha : FewA a) (hS : FlS h ck cf ca cb F) (hO : Ok N F) (hN : N ≤ 800000) : ∃ h' ck' ca' cb', runL cfg 27 [.pt ⟨34, cf, 5⟩ 15 0 0, actV a] h ck = some (.tu [], h', ck') ∧ FlS h' ck' cf ca' cb' (doP F a) ∧ Ok (N + 1) (doP F a) ∧ Ran h ck cf ca cb h' ck' ca' cb' := by
  have hS1 : FlS ((⟨3, ck, 0⟩, .box 64 ((actC a).map .t)) :: h) (ck + 1 + 1) cf ca cb F := fls_box hS (Nat.le_refl _) _ (by omega)
  have hbg := bag_run hS1 hO
  have hA := fun e k => callEv_h (C := cfg) (s := ⟨e, _, ck + 1⟩) rfl hbg k
  have hS2 : ∀ n, FlS ((⟨7, ck + 1 + 1 + 1, 4⟩, .row 9 1 (slc F.bag) false) :: (⟨2, ck + 1 + 1, 0⟩, .row 9 1 [] false) :: (⟨3, ck, 0⟩, .box 64 ((actC a).map .t)) :: h) (ck + 1 + 1 + 2 + n) cf ca cb F := fun n => fls_box (fls_box hS1 (Nat.le_refl _) _ (Nat.le_refl _)) (by omega) _ (by omega)
  unfold doP
  have hn := ha.2.1
  rw [runL_pf (fn := ⟨2, 62, [], doB⟩) rfl rfl]
  have hfin : ∀ {n h4 ck4 ca4 cb4}, Ran ((⟨7, ck + 1 + 1 + 1, 4⟩, .row 9 1 (slc F.bag) false) :: (⟨2, ck + 1 + 1, 0⟩, .row 9 1 [] false) :: (⟨3, ck, 0⟩, .box 64 ((actC a).map .t)) :: h) (ck + 1 + 1 + 2 + n) cf ca cb h4 ck4 ca4 cb4 → Ran h ck cf ca cb h4 ck4 ca4 cb4 := by
    intro n h4 ck4 ca4 cb4 r
    have := r.le
    refine ⟨by omega, fun q hq x y z => ?_, ?_, ?_⟩
    · rw [r.fr q (by omega) x y z, get_new (by omega), get_new (by omega), get_new (by omega)]
    · rcases r.ca with e | e
      · exact .inl e
      · exact .inr (by omega)
    · rcases r.cb with e | e
      · exact .inl e
      · exact .inr (by omega)
  by_cases c : 0 < F.bag.length
  · have hw : whichP F a = a.n % F.bag.length := by unfold whichP; rw [if_pos c]
    have ht : a.n.tmod F.bag.length = a.n % F.bag.length := Int.tmod_eq_emod_of_nonneg hn.1
    have hwn : IntKind.i64.wrap a.n = a.n := wrap_id (by omega) (by omega)
    have c0 : ¬ F.bag = [] := by intro e; rw [e] at c; simp at c
    obtain ⟨e, h4, ck4, ca4, cb4, hrun, hS4, hO4, hR4⟩ := doK_run (c3 := ck) (ck := ck + 1 + 1 + 2 + 1 + 1 + 1 + 1 + 1) a (whichP F a) ha (hS2 5) hO hN (by simp [HP.get]) [(0, .pt ⟨34, cf, 5⟩ 15 0 0), (3, .pt ⟨3, ck, 0⟩ 3 0 0), (5, iv (whichP F a))] rfl rfl rfl
    refine ⟨h4, ck4, ca4, cb4, ?_, hS4, hO4, hfin (n := 5) hR4⟩
    rw [hw] at hrun
    simp [actC, actV] at hA hrun ⊢
    simp [hA, c, c0, hwn, ht, hrun, filt_t]
  · have hw : whichP F a = 0 := by unfold whichP; rw [if_neg c]
    have c0 : F.bag.length = 0 := by omega
    obtain ⟨e, h4, ck4, ca4, cb4, hrun, hS4, hO4, hR4⟩ := doK_run (c3 := ck) (ck := ck + 1 + 1 + 2 + 1 + 1 + 1 + 1) a (whichP F a) ha (hS2 4) hO hN (by simp [HP.get]) [(0, .pt ⟨34, cf, 5⟩ 15 0 0), (3, .pt ⟨3, ck, 0⟩ 3 0 0), (4, iv 0), (5, iv (whichP F a)), (10, bv false)] rfl rfl rfl
    refine ⟨h4, ck4, ca4, cb4, ?_, hS4, hO4, hfin (n := 4) hR4⟩
    rw [hw] at hrun
    simp [actC, actV] at hA hrun ⊢
    rw [c0] at hA
    simp [hA, c, c0, hrun, filt_t]
end Go.Proofs.YtbocnaoihepjfaaGreat.Pv
end

section
/- The fleet of law19.awake, reckoned. -/
namespace Go.Proofs.YtbocnaoihepjfaaGreat.Pv
open Go Go.Pev

def awM : Mod := ⟨1, [⟨[[65536]], [⟨[[65536]], [[65536]]⟩], 1⟩]⟩
theorem aw_ok : newOk awM 0 [[2]] [[7]] = true := by decide +kernel
def awF : Flt := startF awM 0 [[2]] [[7]]
theorem aw_bag : awF.bag.length = 1 := by decide +kernel
def awF1 : Flt := (delvP awF 0).1
theorem aw_d1 : (delvP awF 0).2 = 0 := by decide +kernel
theorem aw_bag1 : awF1.bag.length = 1 := by decide +kernel
def awF2 : Flt := (delvP awF1 0).1
theorem aw_d2 : (delvP awF1 0).2 = 0 := by decide +kernel
theorem aw_done : doneP awF2 = ([[14]], true) := by decide +kernel
theorem aw_worked : workedP awF2 = 1 := by decide +kernel
theorem aw_drop : (dropP awF2 0).2 = 4 := by decide +kernel
end Go.Proofs.YtbocnaoihepjfaaGreat.Pv
end

section
/- What law19.awake tells. -/
namespace Go.Proofs.YtbocnaoihepjfaaGreat.Pv
open Go Go.Pev

theorem awake_ret : RetT cfg 11 [] (bv true) := by
  have hm : FewM awM := ⟨by simp [awM], by simp [awM, FewL, FewX, Few]⟩
  obtain ⟨h1, k1, cf, ca1, cb1, r1, s1, o1, -, -, -, -, -⟩ := new_good (ph := [[2]]) (ts := [[7]]) (pe := 0) hm ⟨by simp, by simp⟩ ⟨by simp, by simp⟩ aw_ok [(⟨2, 2, 8⟩, .box 24 [iv 1, .t (laysT awM)])] 4
  have q1 := fun e k => callEv_h (C := cfg) (s := ⟨e, _, 3⟩) rfl r1 k
  have s1' := fls_le s1 (ck' := k1 + 1 + 1 + 1) (by omega)
  have rb := bag_run s1' o1
  have q2 := fun e k => callEv_h (C := cfg) (s := ⟨e, _, k1 + 1 + 1⟩) rfl rb k
  have eb : awF.bag.length = 1 := aw_bag
  obtain ⟨h2, k2, ca2, cb2, r2, s2, o2, -⟩ := deliver_run (ck := k1 + 1 + 1 + 1 + 2 + 1 + 1) 0 (fls_box (fls_box (s := 2) (c := k1 + 1 + 1 + 1) (o := 0) s1' (Nat.le_refl _) (.row 9 1 [] false) (Nat.le_refl _)) (s := 7) (c := k1 + 1 + 1 + 1 + 1) (o := 4) (by omega) (.row 9 1 (slc awF.bag) false) (by omega)) o1 (by omega)
  have q3 := fun e k => callEv_h (C := cfg) (s := ⟨e, _, k1 + 1 + 1 + 1 + 2 + 1⟩) rfl r2 k
  obtain ⟨h3, k3, ca3, cb3, r3, s3, o3, -⟩ := deliver_run (ck := k2 + 1 + 1) 0 (fls_le s2 (by omega)) o2 (by omega)
  have q4 := fun e k => callEv_h (C := cfg) (s := ⟨e, _, k2 + 1⟩) rfl r3 k
  obtain ⟨h4, k4, kd, r4, g4, l4, l5, l6, l7, f4⟩ := done_run (ck := k3 + 1 + 1 + 1) (fls_le s3 (by omega)) o3
  have q5 := fun e k => callEv_h (C := cfg) (s := ⟨e, _, k3 + 1 + 1⟩) rfl r4 k
  have s4 := fls_fr (fls_le s3 (ck' := k3 + 1 + 1 + 1) (by omega)) l4 f4
  obtain ⟨k5, r5, l8⟩ := worked_run (ck := k4 + 1 + 1 + 1) (fls_le s4 (by omega)) o3 (by omega)
  have q6 := fun e k => callEv_h (C := cfg) (s := ⟨e, _, k4 + 1 + 1⟩) rfl r5 k
  obtain ⟨h6, k6, r6, s6, o6, -⟩ := drop_run (ck := k5 + 1 + 1) 0 (fls_le (fls_le s4 (ck' := k4 + 1 + 1 + 1) (by omega)) (by omega)) o3
  have q7 := fun e k => callEv_h (C := cfg) (s := ⟨e, _, k5 + 1⟩) rfl r6 k
  have d1 : (delvP (startF awM 0 [[2]] [[7]]) 0).2 = 0 := aw_d1
  have d2 : (delvP (delvP (startF awM 0 [[2]] [[7]]) 0).1 0).2 = 0 := aw_d2
  have d3 : doneP (delvP (delvP (startF awM 0 [[2]] [[7]]) 0).1 0).1 = ([[14]], true) := aw_done
  have d4 : workedP (delvP (delvP (startF awM 0 [[2]] [[7]]) 0).1 0).1 = 1 := aw_worked
  have d5 : (dropP (delvP (delvP (startF awM 0 [[2]] [[7]]) 0).1 0).1 0).2 = 4 := aw_drop
  have d6 : (startF awM 0 [[2]] [[7]]).bag.length = 1 := aw_bag
  rw [d1] at q3
  rw [d2] at q4
  rw [d3] at q5 g4
  rw [d4] at q6
  rw [d5] at q7
  rw [d6] at q2
  clear r1 r2 r3 r4 r5 r6 rb d1 d2 d3 d4 d5 d6 s1 s2 s3 s4 s6 o1 o2 o3 o6 s1' hm
  unfold awF at q3
  generalize slc (startF awM 0 [[2]] [[7]]).bag = bg at *
  simp [modV, mapV, laysT, awM, layT, exT, gl, il, iv, bv] at q1 q2 q3 q4 q5 q6 q7 g4
  refine RetT.of ?_
  rw [runL_pf (fn := f11) rfl rfl]
  simp [buildV, cells, over, rowsOf, treesC, treesOf, treeOf, keysOfs, freezeAll, keysOf, keysOf1, filt_t, q1, q2, q3, q4, q5, q6, q7, g4]
end Go.Proofs.YtbocnaoihepjfaaGreat.Pv
end

section
/- What the arguments of these laws are: models, acts. -/
set_option maxRecDepth 100000
namespace Go.Proofs.YtbocnaoihepjfaaGreat.Pv
open Go Go.Pev Go.RowKit Go.WideShapes
theorem u_exps : PP.underlying 51 = some (.slice 67) := by kernel_rfl
theorem u_exp : structT PP 67 = some [25, 25] := by kernel_rfl
theorem u_lay : structT PP 53 = some [25, 51, 3] := by kernel_rfl
theorem u_lays : PP.underlying 22 = some (.slice 53) := by kernel_rfl
theorem u_mod : structT PP 24 = some [3, 22] := by kernel_rfl
theorem u_u8 : PP.underlying 5 = some (.int .u8) := by kernel_rfl
theorem u_act : structT PP 64 = some [5, 5, 5] := by kernel_rfl
theorem u_acts : PP.underlying 61 = some (.slice 64) := by kernel_rfl
theorem f_exp {k : Nat} (c : List T) (h : Fits PP (k + 4) 67 c) : ∃ x : Exp, c = exT x ∧ True := by
  have h0 := fits_struct u_exp h
  obtain ⟨a, r1, rfl, -, h1⟩ := fitsT_cons (mk := fun l : List (List Int) => [gl l]) (Q := fun _ => True) (fun c h => by obtain ⟨l, e, -⟩ := f_intss (k := k) c h; exact ⟨l, e, trivial⟩) h0
  obtain ⟨b, r2, rfl, -, h2⟩ := fitsT_cons (mk := fun l : List (List Int) => [gl l]) (Q := fun _ => True) (fun c h => by obtain ⟨l, e, -⟩ := f_intss (k := k) c h; exact ⟨l, e, trivial⟩) h1
  cases h2
  exact ⟨⟨a, b⟩, rfl, trivial⟩
theorem f_exps {k : Nat} (c : List T) (h : Fits PP (k + 5) 51 c) : ∃ l : List Exp, c = [.l (l.map exT)] ∧ True := by
  obtain ⟨l, rfl, -, -⟩ := fits_slice (mk := exT) (Q := fun _ => True) u_exps f_exp h
  exact ⟨l, rfl, trivial⟩
theorem f_lay {k : Nat} (c : List T) (h : Fits PP (k + 6) 53 c) : ∃ l : Lay, c = layT l ∧ True := by
  have h0 := fits_struct u_lay h
  obtain ⟨a, r1, rfl, -, h1⟩ := fitsT_cons (mk := fun l : List (List Int) => [gl l]) (Q := fun _ => True) (fun c h => by obtain ⟨l, e, -⟩ := f_intss (k := k + 2) c h; exact ⟨l, e, trivial⟩) h0
  obtain ⟨b, r2, rfl, -, h2⟩ := fitsT_cons f_exps h1
  obtain ⟨n, r3, rfl, -, h3⟩ := fitsT_cons f_int h2
  cases h3
  exact ⟨⟨a, b, n⟩, rfl, trivial⟩
theorem f_lays {k : Nat} (c : List T) (h : Fits PP (k + 7) 22 c) : ∃ l : List Lay, c = [.l (l.map layT)] ∧ True := by
  obtain ⟨l, rfl, -, -⟩ := fits_slice (mk := layT) (Q := fun _ => True) u_lays f_lay h
  exact ⟨l, rfl, trivial⟩
theorem a_mod {k : Nat} {x : V} (h : ArgFit PP (k + 8) 24 x) : ∃ m : Mod, x = modV m ∧ I64 m.dim := by
  obtain ⟨ts, rfl, h0⟩ := argFit_struct u_mod h
  obtain ⟨e, r1, rfl, he, h1⟩ := fitsT_cons f_int h0
  obtain ⟨l, r2, rfl, hl, h2⟩ := fitsT_cons f_lays h1
  cases h2
  exact ⟨⟨e, l⟩, rfl, he⟩
theorem a_intss {k : Nat} {x : V} (h : ArgFit PP (k + 3) 25 x) : ∃ l : List (List Int), x = .t (gl l) ∧ ∀ r ∈ l, ∀ n ∈ r, I64 n := by
  obtain ⟨l, rfl, _, hw⟩ := argFit_slice (mk := fun r : List Int => [il r]) (Q := fun r => ∀ n ∈ r, I64 n) u_intss f_ints h
  exact ⟨l, rfl, hw⟩
theorem f_u8 {k : Nat} (c : List T) (h : Fits PP (k + 1) 5 c) : ∃ m : Int, c = [.i .u8 m] ∧ (0 ≤ m ∧ m < 256) := by
  obtain ⟨m, rfl, hw⟩ := fits_int u_u8 h
  simp only [Lit.wf, Bool.and_eq_true, decide_eq_true_eq] at hw
  have h1 : IntKind.u8.min = 0 := by decide
  have h2 : IntKind.u8.max = 255 := by decide
  exact ⟨m, rfl, by omega, by omega⟩
theorem f_act {k : Nat} (c : List T) (h : Fits PP (k + 2) 64 c) : ∃ a : Act, c = actC a ∧ FewA a := by
  have h0 := fits_struct u_act h
  obtain ⟨a, r1, rfl, h1, h0⟩ := fitsT_cons f_u8 h0
  obtain ⟨b, r2, rfl, h2, h0⟩ := fitsT_cons f_u8 h0
  obtain ⟨d, r3, rfl, h3, h0⟩ := fitsT_cons f_u8 h0
  cases h0
  exact ⟨⟨a, b, d⟩, rfl, h1, h2, h3⟩
theorem a_acts {k : Nat} {x : V} (h : ArgFit PP (k + 3) 61 x) : ∃ l : List Act, x = .t (.l (l.map actC)) ∧ (l.length ≤ 140737488355328 ∧ ∀ a ∈ l, FewA a) := by
  obtain ⟨l, rfl, hb, hw⟩ := argFit_slice (mk := actC) (Q := FewA) u_acts f_act h
  refine ⟨l, rfl, ?_, hw⟩
  have : PP.bytesOf 64 = 3 := by kernel_rfl
  rw [this] at hb
  have : reachBytes ≤ 140737488355328 := by decide
  omega
theorem few_small {h : List (List Int)} (s : small h = true) : Few h := by
  unfold small at s
  simp only [decide_eq_true_eq] at s
  exact ⟨by omega, fun r hr => by have := s.2 r hr; omega⟩
theorem smallM_few {m : Mod} (h : smallM m = true) : FewM m := by
  simp only [smallM, smallL, smallX, Bool.and_eq_true, decide_eq_true_eq, List.all_eq_true] at h
  refine ⟨by omega, fun l hl => ?_⟩
  obtain ⟨⟨h1, h2⟩, h3⟩ := h.2 l hl
  exact ⟨few_small h2, by omega, fun x hx => ⟨few_small (h3 x hx).1, few_small (h3 x hx).2⟩⟩
end Go.Proofs.YtbocnaoihepjfaaGreat.Pv
end

section
/- FleetMaps, reckoned. -/
namespace Go.Proofs.YtbocnaoihepjfaaGreat.Pv
open Go Go.Pev

def mpI (bg : List (List UInt8)) (k1 k2 : Key) (h : HP) (i : Nat) (s : St) : Prop := ∃ ck, s = ⟨[(13, .ow k1 1 0 bg.length), (20, .ow k2 1 0 bg.length), (95, iv bg.length), (96, iv (i : Int))], h, ck⟩
def mpQ (E : Option (Ex × St)) : Prop := ∃ e h ck, E = some (.exit 0, ⟨e, h, ck⟩)
theorem mp_loop (bg : List (List UInt8)) (k1 k2 : Key) (h : HP) (t1 t2 : Nat) (b1 b2 : Bool) (g1 : h.get k1 = some (.row t1 1 (slc bg) b1)) (g2 : h.get k2 = some (.row t2 1 (slc bg) b2)) (hl : bg.length ≤ 1000000) (ck : Nat) : mpQ (evL cfg (.loop f5l0) ⟨[(13, .ow k1 1 0 bg.length), (20, .ow k2 1 0 bg.length), (95, iv bg.length), (96, iv 0)], h, ck⟩) := by
  refine loop_q bg.length (mpI bg k1 k2 h) ?_ ?_ _ ⟨ck, rfl⟩
  · rintro i s hi ⟨ck, rfl⟩
    have hw : IntKind.i64.wrap ((i : Int) + 1) = (i : Int) + 1 := wrap_id (by omega) (by omega)
    simp only [slc] at g1 g2
    simp [f5l0e, hi, g1, g2, hw, filt_t, slc]
    exact ⟨_, rfl⟩
  · rintro s ⟨ck, rfl⟩
    simp [f5l0e, filt_t]
    exact ⟨_, _, _, rfl⟩
def frontOk (m : Mod) (pe : Int) (ph ts : List (List Int)) : Bool := smallM m && small ph && small ts && newOk m pe ph ts
theorem smallM_call (m : Mod) (s : St) (k : Key) : callEv cfg (runL cfg) 9 [modV m] s k = some (bv (smallM m), s.hp, s.ck) := callEv_tr (C := cfg) (smallM_ret m) rfl rfl rfl s k
theorem awake_call (s : St) (k : Key) : callEv cfg (runL cfg) 11 [] s k = some (bv true, s.hp, s.ck) := callEv_tr (C := cfg) awake_ret rfl rfl rfl s k
theorem small_ph {ph : List (List Int)} (s : small ph = true) : ph.length ≤ 1000000 ∧ ∀ r ∈ ph, r.length ≤ 100000 := by
  unfold small at s
  simp only [decide_eq_true_eq] at s
  exact ⟨by omega, fun r hr => by have := s.2 r hr; omega⟩
theorem may_call {m : Mod} {pe : Int} {ph ts : List (List Int)} (h1 : smallM m = true) (h2 : small ph = true) (h3 : small ts = true) (s : St) (k : Key) : callEv cfg (runL cfg) 13 [modV m, mapV pe ph, .t (gl ts)] s k = some (bv (newOk m pe ph ts), s.hp, s.ck) := callEv_tr (C := cfg) (rmay_ret m pe ph ts (smallM_few h1) (few_small h3) (small_ph h2)) rfl rfl rfl s k
theorem mp_bad (m : Mod) (pe : Int) (ph ts : List (List Int)) (x n : Int) (hb : frontOk m pe ph ts = false) : ∃ hp c, runL cfg 5 [modV m, mapV pe ph, .t (gl ts), iv x, iv n] [] 0 = some (bv true, hp, c) := by
  have h1 := smallM_call m
  have h2 := small_call ph
  have h3 := small_call ts
  have h4 := @may_call m pe ph ts
  have h5 := awake_call
  unfold frontOk at hb
  rw [runL_pf (fn := f5) rfl rfl]
  simp only [modV, mapV, gl, iv, bv, laysT] at h1 h2 h3 h4 h5
  generalize smallM m = b1 at *
  generalize small ph = b2 at *
  generalize small ts = b3 at *
  generalize newOk m pe ph ts = b4 at *
  cases b1 with
  | false => simp [modV, mapV, laysT, gl, h1, h5, filt_t]
  | true =>
  cases b2 with
  | false => simp [modV, mapV, laysT, gl, h1, h2, h5, filt_t]
  | true =>
  cases b3 with
  | false => simp [modV, mapV, laysT, gl, h1, h2, h3, h5, filt_t]
  | true =>
  cases b4 with
  | false => 
    have h4 := h4 rfl rfl rfl
    simp [modV, mapV, laysT, gl, h1, h2, h3, h4, h5, filt_t]
  | true => cases hb
end Go.Proofs.YtbocnaoihepjfaaGreat.Pv
end

section
/- FleetMaps, reckoned. -/
set_option maxRecDepth 100000
namespace Go.Proofs.YtbocnaoihepjfaaGreat.Pv
open Go Go.Pev

theorem comeN_m : ∀ (n : Nat) (F : Flt), (comeN n F).m = F.m ∧ (comeN n F).pe = F.pe ∧ (comeN n F).ph = F.ph
  | 0, F => ⟨rfl, rfl, rfl⟩
  | n + 1, F => by
    unfold comeN
    split
    · obtain ⟨e1, -, e3, e4, -⟩ := beginP_m (onP F)
      obtain ⟨i1, i2, i3⟩ := comeN_m n (stepP F)
      exact ⟨i1.trans e1, i2.trans e3, i3.trans e4⟩
    · exact ⟨rfl, rfl, rfl⟩
theorem startF_m (m : Mod) (pe : Int) (ph ts : List (List Int)) : (startF m pe ph ts).m = m ∧ (startF m pe ph ts).pe = pe ∧ (startF m pe ph ts).ph = ph := by
  obtain ⟨e1, -, e3, e4, -⟩ := beginP_m (newF m pe ph ts)
  obtain ⟨i1, i2, i3⟩ := comeN_m _ (beginP (newF m pe ph ts))
  exact ⟨i1.trans e1, i2.trans e3, i3.trans e4⟩
theorem mp_good (m : Mod) (pe : Int) (ph ts : List (List Int)) (x n : Int) (hb : frontOk m pe ph ts = true) : ∃ hp c, runL cfg 5 [modV m, mapV pe ph, .t (gl ts), iv x, iv n] [] 0 = some (bv true, hp, c) := by
  have a1 := smallM_call m
  have a2 := small_call ph
  have a3 := small_call ts
  have a5 := awake_call
  unfold frontOk at hb
  simp only [Bool.and_eq_true] at hb
  obtain ⟨⟨⟨b1, b2⟩, b3⟩, b4⟩ := hb
  have a4 := may_call (pe := pe) b1 b2 b3
  rw [b1] at a1
  rw [b2] at a2
  rw [b3] at a3
  rw [b4] at a4
  have hph := small_ph b2
  obtain ⟨h1, k1, cf, ca, cb, r1, s1, o1, -, l2, l3, l4, f1⟩ := new_good (smallM_few b1) (few_small b3) hph b4 [(⟨6, 0, 1⟩, .box 27 [iv pe, .t (gl ph)]), (⟨5, 0, 0⟩, .box 24 [iv m.dim, .t (laysT m)])] 3
  have q1 := fun e k => callEv_h (C := cfg) (s := ⟨e, _, 2⟩) rfl r1 k
  have rb := bag_run (fls_le s1 (ck' := k1 + 1 + 1 + 1 + 1) (by omega)) o1
  have q2 := fun e k => callEv_h (C := cfg) (s := ⟨e, _, k1 + 1 + 1 + 1⟩) rfl rb k
  have g6 : h1.get ⟨6, 0, 1⟩ = some (.box 27 [iv pe, .t (gl ph)]) := by rw [f1 _ (by simp)]; rfl
  have qa := fun s k => callEv_tr (C := cfg) (padd_ret pe ph x n hph.1 hph.2) rfl rfl rfl s k
  obtain ⟨e1, e2, e3⟩ := startF_m m pe ph ts
  generalize hF : startF m pe ph ts = F at *
  obtain ⟨p1, p2⟩ := padd_few (e := pe) x n hph
  have qr := fun s k => callEv_tr (C := cfg) (pret_ret (padd pe ph x n).1 (padd pe ph x n).2.1 x n p1 p2) rfl rfl rfl s k
  have hA : (addP F x n).2 = (padd pe ph x n).2.2 := by unfold addP; rw [e2, e3]
  have hR : (retP (addP F x n).1 x n).2 = (pret (padd pe ph x n).1 (padd pe ph x n).2.1 x n).2.2 := by unfold addP retP; simp only [e2, e3]
  have hbg : (retP (addP F x n).1 x n).1.bag = F.bag := rfl
  generalize hK : k1 + 1 + 1 + 1 + 1 + 2 + 1 + 1 = K at *
  have sM : FlS ((⟨16, K + 1, 7⟩, .box 27 [iv (pret (padd pe ph x n).1 (padd pe ph x n).2.1 x n).1, .t (gl (pret (padd pe ph x n).1 (padd pe ph x n).2.1 x n).2.1)]) :: (⟨14, K, 7⟩, .box 27 [iv (padd pe ph x n).1, .t (gl (padd pe ph x n).2.1)]) :: (⟨7, k1 + 1 + 1 + 1 + 1 + 1, 4⟩, .row 9 1 (slc F.bag) false) :: (⟨2, k1 + 1 + 1 + 1 + 1, 0⟩, .row 9 1 [] false) :: h1) (K + 1 + 1 + 1) cf ca cb F :=
    fls_box (ck := K + 1) (fls_box (ck := K) (fls_box (ck := k1 + 1 + 1 + 1 + 1) (fls_box (fls_le s1 (by omega)) (Nat.le_refl _) _ (Nat.le_refl _)) (by omega) _ (by omega)) (Nat.le_refl _) _ (by omega)) (Nat.le_refl _) _ (by omega)
  obtain ⟨h2, k2, r2, s2, o2, n2⟩ := fadd_run x n sM o1
  have q3 := fun e k => callEv_h (C := cfg) (s := ⟨e, _, K + 1 + 1⟩) rfl r2 k
  obtain ⟨h3, k3, r3, s3, o3, n3⟩ := fret_run (ck := k2 + 1 + 1) x n (fls_le s2 (by omega)) o2
  have q4 := fun e k => callEv_h (C := cfg) (s := ⟨e, _, k2 + 1⟩) rfl r3 k
  have rb2 := bag_run (fls_le s3 (ck' := k3 + 1 + 1 + 1) (by omega)) o3
  have q5 := fun e k => callEv_h (C := cfg) (s := ⟨e, _, k3 + 1 + 1⟩) rfl rb2 k
  rw [hA] at q3
  rw [hR] at q4
  rw [hbg] at q5
  have hl := o1.f0.bag
  have g7 : h3.get ⟨7, k1 + 1 + 1 + 1 + 1 + 1, 4⟩ = some (.row 9 1 (slc F.bag) false) := by
    have := n2.le
    rw [n3.fr _ (by simp only; omega) (by simp) (by simp) (by simp), n2.fr _ (by simp only; omega) (by simp) (by simp) (by simp)]
    simp [HP.get]
  have z1 := n2.le
  have z2 := n3.le
  obtain ⟨e9, h9, k9, hL⟩ := mp_loop F.bag ⟨7, k1 + 1 + 1 + 1 + 1 + 1, 4⟩ ⟨7, k3 + 1 + 1 + 1 + 1, 4⟩ ((⟨7, k3 + 1 + 1 + 1 + 1, 4⟩, .row 9 1 (slc F.bag) false) :: (⟨2, k3 + 1 + 1 + 1, 0⟩, .row 9 1 [] false) :: h3) 9 9 false false (by rw [get_new (by simp only; omega), get_new (by simp only; omega)]; exact g7) (by simp [HP.get]) hl (k3 + 1 + 1 + 1 + 2 + 1 + 1 + 1 + 1)
  clear r1 r2 r3 rb rb2 s1 s2 s3 sM o1 o2 o3 hA hR
  generalize padd pe ph x n = pa at *
  generalize pret pa.1 pa.2.1 x n = pr at *
  simp only [modV, mapV, laysT, gl, il, iv, bv] at a1 a2 a3 a4 a5 q1 q2 qa qr q3 q4 q5 g6 hL
  rw [runL_pf (fn := f5) rfl rfl]
  simp [modV, mapV, laysT, gl, a1, a2, a3, a4, a5, q1, q2, qa, qr, q3, q4, q5, g6, hK, hL, filt_t, over]
theorem fleetMaps_ev (xs : List V) (h : ArgsFit PP 8 [24, 27, 25, 3, 3] xs) : ∃ hp c, runL cfg 5 xs [] 0 = some (bv true, hp, c) := by
  obtain ⟨v1, r1, rfl, f1, h⟩ := argsFit_cons h
  obtain ⟨v2, r2, rfl, f2, h⟩ := argsFit_cons h
  obtain ⟨v3, r3, rfl, f3, h⟩ := argsFit_cons h
  obtain ⟨v4, r4, rfl, f4, h⟩ := argsFit_cons h
  obtain ⟨v5, r5, rfl, f5, h⟩ := argsFit_cons h
  cases argsFit_nil h
  obtain ⟨m, rfl, -⟩ := a_mod (k := 0) f1
  obtain ⟨pe, ph, rfl, -⟩ := a_map (k := 4) f2
  obtain ⟨ts, rfl, -⟩ := a_intss (k := 5) f3
  obtain ⟨x, rfl, -⟩ := a_int (k := 7) f4
  obtain ⟨n, rfl, -⟩ := a_int (k := 7) f5
  cases hb : frontOk m pe ph ts with
  | false => exact mp_bad m pe ph ts x n hb
  | true => exact mp_good m pe ph ts x n hb
end Go.Proofs.YtbocnaoihepjfaaGreat.Pv
end
