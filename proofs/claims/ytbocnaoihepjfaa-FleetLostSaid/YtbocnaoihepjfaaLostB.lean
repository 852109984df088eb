/- What the functions of these laws tell (made by mergecom.py out of SFleet3 SFleet4 SFleet5 SFleet6 SDel SRet SFleet7 SFleet8 SFleet9 SFleet10 SFleet11 SFleet12 SFleet13 SFleet14 SRRight SMay SFleet15 SFleet16 SFleet17 SAwake SAwake2 ArgsL LostP LFront LLost LLost2). -/
import Derived.Test.YtbocnaoihepjfaaLostA
set_option linter.unusedVariables false
set_option linter.unusedSimpArgs false
section
/- What a fleet's begin and come tell. -/
namespace Go.Proofs.Ytbocnaoihepjfaa.Pv
open Go Go.Pev

theorem put_put (h : HP) (k : Key) (a b : Ob) : (h.put k k a).put k k b = h.put k k b := by
  induction h with
  | nil => rfl
  | cons p h ih =>
    obtain ⟨p, x⟩ := p
    simp only [HP.put]
    by_cases e : p = k
    · subst e; simp [HP.put]
    · rw [if_neg e, if_neg e]
      simp only [HP.put, if_neg e, ih]
theorem partsA_in : ∀ (cs : List Cho) (ss : List (Int × Int)) (t : Nat), ∀ p ∈ partsA t cs ss, (t : Int) ≤ p.token ∧ p.token < ((t + cs.length : Nat) : Int) ∧ 0 ≤ p.rank ∧ p.rank ≤ 1
  | [], _, t, p, h => by simp [partsA] at h
  | c :: cs, [], t, p, h => by simp [partsA] at h
  | c :: cs, s :: ss, t, p, h => by
    simp only [partsA, List.mem_append] at h
    rcases h with (h | h) | h
    · unfold pt0 at h
      split at h
      · simp at h; subst h; simp; omega
      · simp at h
    · unfold pt1 at h
      split at h
      · simp at h; subst h; simp; omega
      · simp at h
    · have := partsA_in cs ss (t + 1) p h
      simp only [List.length_cons]
      omega
theorem partsP_in {l : Lay} {ts : List (List Int)} : ∀ p ∈ partsP l ts, 0 ≤ p.token ∧ p.token < ts.length ∧ 0 ≤ p.rank ∧ p.rank ≤ 1 := by
  intro p hp
  have := partsA_in _ _ 0 p hp
  simp [chosen] at this
  omega
theorem partsA_len : ∀ (cs : List Cho) (ss : List (Int × Int)) (t : Nat), (partsA t cs ss).length ≤ 2 * cs.length
  | [], _, t => by simp [partsA]
  | c :: cs, [], t => by simp [partsA]
  | c :: cs, s :: ss, t => by
    have := partsA_len cs ss (t + 1)
    have a := pt0_len t c s.1
    have b := pt1_len t c s.2
    simp only [partsA, List.length_append, List.length_cons]
    omega
theorem partsP_len (l : Lay) (ts : List (List Int)) : (partsP l ts).length ≤ 2 * ts.length := by
  have := partsA_len (chosen l ts) (asg l.exps.length l.cap g0 (wants (chosen l ts))) 0
  simpa [partsP, chosen] using this
/-- What must be for a layer to begin. -/
structure Fit0 (F : Flt) : Prop where
  m : FewM F.m
  toks : Few F.toks
  ntok : F.toks.length ≤ 10000
  ph : F.ph.length ≤ 1000000 ∧ ∀ r ∈ F.ph, r.length ≤ 100000
  bag : F.bag.length ≤ 1000000
def newP (F : Flt) : Flt := { F with parts := partsP (layAt F.m F.at_) F.toks, ans := List.replicate (partsP (layAt F.m F.at_) F.toks).length [], answd := List.replicate (partsP (layAt F.m F.at_) F.toks).length false }
def beginP (F : Flt) : Flt := if F.at_ < F.m.lays.length then askP (newP F) else F
theorem newP_fit {F : Flt} (h : Fit0 F) : Fit (newP F) := ⟨by simp [newP], by simp [newP], by
    have := partsP_len (layAt F.m F.at_) F.toks
    have := h.ntok
    simp only [newP]; omega, fun p hp => partsP_in p hp, h.toks, by have := h.ntok; simp only [newP]; omega, h.ph, h.bag⟩
def rowsAre (h : HP) (F : Flt) (v : Vs) (ca cb : Nat) : Prop := v.vp = .t (ptl F.parts) ∧ v.va = .ow ⟨38, ca, 6⟩ 1 0 F.parts.length ∧ v.vd = .ow ⟨47, cb, 6⟩ 1 0 F.parts.length ∧ h.get ⟨38, ca, 6⟩ = some (.row 49 1 (F.ans.map fun r => [il r]) false) ∧ h.get ⟨47, cb, 6⟩ = some (.row 4 1 (bl F.answd) false)
theorem begin_run {h : HP} {cf ck : Nat} {F : Flt} {v : Vs} (hF : FlB h cf F v) (hw : Fit0 F) (hcf : cf < ck) : ∃ h' ck' v' ca cb, runL cfg 24 [.pt ⟨34, cf, 5⟩ 15 0 0] h ck = some (.tu [], h', ck') ∧ ck ≤ ck' ∧ FlB h' cf (beginP F) v' ∧ (F.at_ < F.m.lays.length → rowsAre h' (beginP F) v' ca cb ∧ ck ≤ ca ∧ ca < ck' ∧ ck ≤ cb ∧ cb < ck') ∧ ∀ q, q.c < ck → q ≠ ⟨34, cf, 5⟩ → h'.get q = h.get q := by
  rw [runL_pf (fn := f24) rfl rfl]
  have hg := hF.1
  obtain ⟨o0, o1, o2, o3, o4, o5, o6⟩ := hF.2
  unfold beginP
  by_cases c : F.at_ < F.m.lays.length
  case neg =>
    have c' : F.m.lays.length ≤ F.at_ := by omega
    simp only [fcs, laysT] at hg
    rw [if_neg c]
    refine ⟨h, ck + 1, v, 0, 0, ?_, by omega, hF, fun hc => absurd hc c, fun q _ _ => rfl⟩
    simp [hg, c', filt_t]
  rw [if_pos c]
  have c' : ¬ F.m.lays.length ≤ F.at_ := by omega
  have hla : layAt F.m F.at_ = F.m.lays[F.at_] := by simp [layAt, List.getD_eq_getElem?_getD, c]
  have hfl := hw.m.2 _ (List.getElem_mem c)
  have hP := fun hp => callQ_tr (C := cfg) (parts_ret F.m.lays[F.at_] F.toks hfl.1 (by have := hw.ntok; omega)) rfl hp
  have hnf := newP_fit hw
  have hN : newP F = { F with parts := partsP (layAt F.m F.at_) F.toks, ans := List.replicate (partsP (layAt F.m F.at_) F.toks).length [], answd := List.replicate (partsP (layAt F.m F.at_) F.toks).length false } := rfl
  rw [← hla] at hP
  have hpl : (partsP (layAt F.m F.at_) F.toks).length ≤ 20000 := by have := partsP_len (layAt F.m F.at_) F.toks; have := hw.ntok; omega
  generalize partsP (layAt F.m F.at_) F.toks = ps at *
  have b1 : (ps.length : Int) * 24 ≤ 140737488355328 := by omega
  have b2 : (ps.length : Int) ≤ 140737488355328 := by omega
  generalize hV : ({ v with vp := .t (ptl ps), va := .ow ⟨38, ck + 1 + 1, 6⟩ 1 0 ps.length, vd := .ow ⟨47, ck + 1 + 1 + 1, 6⟩ 1 0 ps.length } : Vs) = v2
  generalize hH : ((⟨47, ck + 1 + 1 + 1, 6⟩, Ob.row 4 1 (List.replicate ps.length [.b false]) false) :: (⟨38, ck + 1 + 1, 6⟩, .row 49 1 (List.replicate ps.length [.l []]) false) :: h.put ⟨34, cf, 5⟩ ⟨34, cf, 5⟩ (.box 61 (fcs (newP F) v2)) : HP) = h2
  have hB2 : FlB h2 cf (newP F) v2 := by
    subst hH hV
    refine ⟨?_, ?_⟩
    · simp [hp_get_put, hg]
    · rw [hN]
      exact ⟨o0, o1, o2, o3, o4, o5, rd_t _⟩
  have e38 : HP.get h2 ⟨38, ck + 1 + 1, 6⟩ = some (.row 49 1 (List.replicate ps.length [.l []]) false) := by subst hH; simp
  have e47 : HP.get h2 ⟨47, ck + 1 + 1 + 1, 6⟩ = some (.row 4 1 (List.replicate ps.length [.b false]) false) := by subst hH; simp
  obtain ⟨h', ck', vb, hrun, hle, hB', hfr⟩ := ask_run (cb := ck + 1 + 1 + 1) (ck := ck + 1 + 1 + 1 + 1 + 1) hB2 hnf (by omega) (by omega) (fun _ => by
    rw [hN]; subst hV
    exact ⟨rfl, rfl, by rw [e47]; simp [bl]⟩)
  have hS := fun e k => callEv_h (C := cfg) (s := ⟨e, h2, ck + 1 + 1 + 1 + 1⟩) rfl hrun k
  have hA : (askP (newP F)).parts = ps ∧ (askP (newP F)).ans = List.replicate ps.length [] ∧ (askP (newP F)).answd = List.replicate ps.length false := by
    unfold askP; rw [hN]; split <;> exact ⟨rfl, rfl, rfl⟩
  refine ⟨h', ck' + 1 + 1, { v2 with vb := vb }, ck + 1 + 1, ck + 1 + 1 + 1, ?_, by omega, hB', fun _ => ⟨?_, by omega, by omega, by omega, by omega⟩, fun q hq hk => ?_⟩
  · subst hV
    rw [← hH, hN] at hS
    rw [hla] at hP
    simp only [fcs, laysT, layV, iv, gl, ptl, il] at hS hg hP
    simp [hg, c, c', filt_t, gl, il, laysT, layT, hP, ptl, b1, b2, over, put_put, hp_get_put, hS]
  · obtain ⟨a1, a2, a3⟩ := hA
    refine ⟨?_, ?_, ?_, ?_, ?_⟩
    · rw [a1]; subst hV; rfl
    · rw [a1]; subst hV; rfl
    · rw [a1]; subst hV; rfl
    · rw [hfr _ (by simp) (by simp), e38, a2]; simp
    · rw [hfr _ (by simp) (by simp), e47, a3]; simp [bl]
  · rw [hfr q (by omega) hk]
    subst hH
    rw [get_new (by omega), get_new (by omega), get_put_ne hk]
end Go.Proofs.Ytbocnaoihepjfaa.Pv
end

section
/- What a fleet's come tells. -/
namespace Go.Proofs.Ytbocnaoihepjfaa.Pv
open Go Go.Pev
variable {N : Nat}

def ibQ (l : List Bool) (x : Bool) (E : Option (Ex × St)) : Prop := (x ∈ l ∧ ∃ (j : Nat) (ck : Nat), E = some (.ret, ⟨[(4, iv j)], [], ck⟩)) ∨ (¬ x ∈ l ∧ ∃ e ck, E = some (.exit 0, ⟨e, [], ck⟩))
def ibI (l : List Bool) (x : Bool) (i : Nat) (s : St) : Prop := Upto (fun y => y != x) l i ∧ ∃ ck, s = ⟨[(0, .t (.l (bl l))), (1, bv x), (7, iv l.length), (8, iv (i : Int))], [], ck⟩
theorem containsb_ret (l : List Bool) (x : Bool) (hl : l.length ≤ 1000000) : RetT cfg 44 [.t (.l (bl l)), bv x] (bv (l.contains x)) := by
  have hL : ∀ ck, ibQ l x (evL cfg (.loop f68l0) ⟨[(0, .t (.l (bl l))), (1, bv x), (7, iv l.length), (8, iv 0)], [], ck⟩) := by
    intro ck
    refine loop_q l.length (ibI l x) ?_ ?_ _ ⟨upto0 _ _, ck, rfl⟩
    · rintro i s hi ⟨h1, ck, rfl⟩
      have hw : IntKind.i64.wrap ((i : Int) + 1) = (i : Int) + 1 := wrap_id (by omega) (by omega)
      by_cases hx : l[i] = x
      · have hb : (x == l[i]) = true := by simp [hx]
        simp [f68l0e, bl, hi, hb]
        exact .inl ⟨by rw [← hx]; exact List.getElem_mem hi, _, _, rfl⟩
      · have hb : (x == l[i]) = false := by simp; exact fun e => hx e.symm
        simp [f68l0e, bl, hi, hb, hw]
        exact ⟨upto_s h1 hi (by simpa using hx), _, rfl⟩
    · rintro s ⟨h1, ck, rfl⟩
      simp [f68l0e]
      refine .inr ⟨fun hm => ?_, _, _, rfl⟩
      obtain ⟨j, hj, rfl⟩ := List.getElem_of_mem hm
      have := h1 j hj hj
      simp at this
  have hI : ∃ j : Int, (0 ≤ j ↔ x ∈ l) ∧ RetT cfg 68 [.t (.l (bl l)), bv x] (iv j) := by
    rcases hL 2 with ⟨hm, j, ck, hc⟩ | ⟨hm, e, ck, hc⟩
    · refine ⟨j, by simp [hm], RetT.of ?_⟩
      rw [runL_pf (fn := f68) rfl rfl]
      simp [bl] at hc
      simp [bl, hc]
    · refine ⟨-1, by simp [hm], RetT.of ?_⟩
      rw [runL_pf (fn := f68) rfl rfl]
      simp [bl] at hc
      simp [bl, hc]
  obtain ⟨j, hj, hr⟩ := hI
  have hc := fun s k => callEv_tr (C := cfg) hr rfl rfl rfl s k
  simp only [bv, iv] at hc
  refine RetT.of ?_
  rw [runL_pf (fn := f44) rfl rfl]
  by_cases hx : x ∈ l
  · have h0 : 0 ≤ j := hj.2 hx
    simp [hc, hx, h0]
  · have h0 : ¬ 0 ≤ j := fun h => hx (hj.1 h)
    simp [hc, hx, h0]

/-- A fleet, its rows there. -/
def FlS (h : HP) (ck cf ca cb : Nat) (F : Flt) : Prop := ∃ v, FlB h cf F v ∧ cf < ck ∧ ca < ck ∧ cb < ck ∧ (F.at_ < F.m.lays.length → rowsAre h F v ca cb)
/-- What turned, and what did not. -/
structure Ran (h : HP) (ck cf ca cb : Nat) (h' : HP) (ck' ca' cb' : Nat) : Prop where
  le : ck ≤ ck'
  fr : ∀ q, q.c < ck → q ≠ ⟨34, cf, 5⟩ → q ≠ ⟨38, ca, 6⟩ → q ≠ ⟨47, cb, 6⟩ → h'.get q = h.get q
  ca : ca' = ca ∨ ck ≤ ca'
  cb : cb' = cb ∨ ck ≤ cb'
theorem Ran.trans {h h' h'' : HP} {ck cf ca cb ck' ca' cb' ck'' ca'' cb'' : Nat} (a : Ran h ck cf ca cb h' ck' ca' cb') (b : Ran h' ck' cf ca' cb' h'' ck'' ca'' cb'') : Ran h ck cf ca cb h'' ck'' ca'' cb'' := by
  have l1 := a.le
  have l2 := b.le
  refine ⟨by omega, fun q hq h1 h2 h3 => ?_, ?_, ?_⟩
  · rw [b.fr q (by omega) h1 ?_ ?_, a.fr q hq h1 h2 h3]
    · rintro rfl
      rcases a.ca with e | e
      · rw [e] at h2; exact h2 rfl
      · simp only at hq; omega
    · rintro rfl
      rcases a.cb with e | e
      · rw [e] at h3; exact h3 rfl
      · simp only at hq; omega
  · rcases b.ca with e | e
    · rw [e]; exact a.ca
    · exact .inr (by omega)
  · rcases b.cb with e | e
    · rw [e]; exact a.cb
    · exact .inr (by omega)
theorem Ran.to {h h' : HP} {ck cf ca cb ck' : Nat} (hle : ck ≤ ck') (hfr : ∀ q, q.c < ck → q ≠ ⟨34, cf, 5⟩ → h'.get q = h.get q) : Ran h ck cf ca cb h' ck' ca cb := ⟨hle, fun q hq h1 _ _ => hfr q hq h1, .inl rfl, .inl rfl⟩
structure Ok (N : Nat) (F : Flt) : Prop where
  f0 : Fit0 F
  f1 : F.at_ < F.m.lays.length → Fit F
  ans : ∀ r ∈ F.ans, r.length ≤ 1000000
  led : ∀ l ∈ F.led, l.length ≤ N ∧ ∀ e ∈ l, e.vec.length ≤ 1000000
  bags : ∀ s ∈ F.bag, s.length ≤ 100000
  led5 : F.led.length = 5
def onP (F : Flt) : Flt := { F with toks := combP F.toks F.parts F.ans, at_ := F.at_ + 1 }
def stepP (F : Flt) : Flt := beginP (onP F)
def comeN : Nat → Flt → Flt
  | 0, F => F
  | n + 1, F => if F.at_ < F.m.lays.length ∧ ¬ false ∈ F.answd then comeN n (stepP F) else F
def comeP (F : Flt) : Flt := comeN (F.m.lays.length - F.at_) F
theorem combP_few {ts : List (List Int)} {parts : List Pt} {answers : List (List Int)} (h : Few ts) : Few (combP ts parts answers) ∧ (combP ts parts answers).length = ts.length := by
  have key : ∀ (ps : List Pt) (i : Nat) (acc : List (List Int)), (∀ r ∈ acc, r.length ≤ 1000000) → (∀ r ∈ combA answers i ps acc, r.length ≤ 1000000) ∧ (combA answers i ps acc).length = acc.length := by
    intro ps
    induction ps with
    | nil => intro i acc h; exact ⟨h, rfl⟩
    | cons p ps ih =>
      intro i acc h
      obtain ⟨a, b⟩ := ih (i + 1) _ (comb1_few (answers := answers) (i := i) (p := p) h)
      exact ⟨a, b.trans (comb1_len _ _ _ _)⟩
  obtain ⟨a, b⟩ := key parts 0 ts h.2
  exact ⟨⟨by unfold combP; rw [b]; exact h.1, a⟩, b⟩
theorem askL_len {F : Flt} : ∀ (l : List (Pt × Bool)) (b : List (List UInt8)), b.length ≤ 1000000 → (askL F l b).length ≤ 1000000
  | [], b, h => h
  | x :: r, b, h => by
    unfold askL
    refine askL_len r _ ?_
    split
    · exact h
    · exact sendB_len h
theorem putB_len {a : Msg} (h : wrightM a = true) : (putB a).length ≤ 100 := by
  have hv := (wright_num h).2.2.2.2.2.1
  have hb := bodyB_len (numsA a)
  have hl : (numsA a).length = 11 + a.vec.length := by simp [numsA, nums]; omega
  unfold putB frameB
  simp only [List.length_append, fourI_len, hb, hl]
  omega
theorem sendB_s {b : List (List UInt8)} {a : Msg} (h : ∀ s ∈ b, s.length ≤ 100000) : ∀ s ∈ sendB b a, s.length ≤ 100000 := by
  unfold sendB bagPut
  split
  · rename_i hw
    split
    · intro s hs
      rcases List.mem_append.1 hs with hs | hs
      · exact h s hs
      · rw [List.mem_singleton] at hs
        have := putB_len hw
        rw [hs]; omega
    · exact h
  · exact h
theorem askL_s {F : Flt} : ∀ (l : List (Pt × Bool)) (b : List (List UInt8)), (∀ s ∈ b, s.length ≤ 100000) → ∀ s ∈ askL F l b, s.length ≤ 100000
  | [], b, h => h
  | x :: r, b, h => by
    unfold askL
    refine askL_s r _ ?_
    split
    · exact h
    · exact sendB_s h
theorem askP_ok {F : Flt} (h : Ok N F) : Ok N (askP F) := by
  unfold askP
  split
  · have hb := askL_len (F := F) (F.parts.zip F.answd) F.bag h.f0.bag
    exact ⟨⟨h.f0.m, h.f0.toks, h.f0.ntok, h.f0.ph, hb⟩, fun hc => ⟨(h.f1 hc).na, (h.f1 hc).nd, (h.f1 hc).np, (h.f1 hc).tok, (h.f1 hc).toks, (h.f1 hc).ntok, (h.f1 hc).ph, hb⟩, h.ans, h.led, askL_s _ _ h.bags, h.led5⟩
  · exact h
theorem beginP_ok {F : Flt} (h : Fit0 F) (ha : ∀ r ∈ F.ans, r.length ≤ 1000000) (hl : ∀ l ∈ F.led, l.length ≤ N ∧ ∀ e ∈ l, e.vec.length ≤ 1000000) (hs : ∀ s ∈ F.bag, s.length ≤ 100000) (h5 : F.led.length = 5) : Ok N (beginP F) := by
  unfold beginP
  split
  · refine askP_ok ⟨⟨h.m, h.toks, h.ntok, h.ph, h.bag⟩, fun _ => newP_fit h, fun r hr => ?_, hl, hs, h5⟩
    simp only [newP] at hr
    rw [(List.mem_replicate.1 hr).2]; simp
  · rename_i hc
    exact ⟨h, fun h2 => absurd h2 hc, ha, hl, hs, h5⟩
theorem stepP_ok {F : Flt} (h : Ok N F) : Ok N (stepP F) := by
  obtain ⟨a, b⟩ := combP_few (parts := F.parts) (answers := F.ans) h.f0.toks
  exact beginP_ok ⟨h.f0.m, a, by simp only [onP]; rw [b]; exact h.f0.ntok, h.f0.ph, h.f0.bag⟩ h.ans h.led h.bags h.led5
theorem askP_m (F : Flt) : (askP F).m = F.m ∧ (askP F).at_ = F.at_ ∧ (askP F).pe = F.pe ∧ (askP F).ph = F.ph ∧ (askP F).toks = F.toks ∧ (askP F).led = F.led ∧ (askP F).parts = F.parts ∧ (askP F).ans = F.ans ∧ (askP F).answd = F.answd := by
  unfold askP; split <;> exact ⟨rfl, rfl, rfl, rfl, rfl, rfl, rfl, rfl, rfl⟩
theorem beginP_m (F : Flt) : (beginP F).m = F.m ∧ (beginP F).at_ = F.at_ ∧ (beginP F).pe = F.pe ∧ (beginP F).ph = F.ph ∧ (beginP F).toks = F.toks ∧ (beginP F).led = F.led := by
  unfold beginP
  split
  · obtain ⟨a, b, c, d, e, f, _⟩ := askP_m (newP F)
    exact ⟨a, b, c, d, e, f⟩
  · exact ⟨rfl, rfl, rfl, rfl, rfl, rfl⟩
end Go.Proofs.Ytbocnaoihepjfaa.Pv
end

section
/- What a fleet's come tells, whole. -/
namespace Go.Proofs.Ytbocnaoihepjfaa.Pv
open Go Go.Pev
variable {N : Nat}

theorem come_end {h : HP} {ck cf ca cb : Nat} {F : Flt} (hS : FlS h ck cf ca cb F) (hO : Ok N F) (hc : ¬ (F.at_ < F.m.lays.length ∧ ¬ false ∈ F.answd)) : ∃ e, evL cfg (.loop f25l0) ⟨[(0, .pt ⟨34, cf, 5⟩ 15 0 0)], h, ck⟩ = some (.exit 0, ⟨e, h, ck + 1⟩) := by
  obtain ⟨v, hB, _, _, _, hr⟩ := hS
  have hg := hB.1
  rw [evL_loop]
  by_cases c : F.at_ < F.m.lays.length
  · obtain ⟨r1, r2, r3, r4, r5⟩ := hr c
    have hm : false ∈ F.answd := Classical.byContradiction fun hn => hc ⟨c, hn⟩
    have hnd := (hO.f1 c).nd
    have hnp := (hO.f1 c).np
    have hq := fun hp (hh : HP.get hp ⟨47, cb, 6⟩ = some (.row 4 1 (bl F.answd) false)) => callQ_t (C := cfg) (h := hp) (args := [.ow ⟨47, cb, 6⟩ 1 0 F.parts.length, bv false]) (ps := [.t (.l (bl F.answd)), bv false]) (by simp only [puresOf, pureOf_ow hh (by simp [bl, hnd] : (bl F.answd).length = F.parts.length)]; rfl) (containsb_ret F.answd false (by omega)) (.inl rfl)
    have hcn : F.answd.contains false = true := by simpa using hm
    rw [hcn] at hq
    simp only [bv] at hq
    simp only [fcs, laysT, r2, r3] at hg
    simp [f25l0e, hg, c, filt_t, hq, r5]
  · simp only [fcs, laysT] at hg
    simp [f25l0e, hg, c, filt_t]
theorem come_step {h : HP} {ck cf ca cb : Nat} {F : Flt} (hS : FlS h ck cf ca cb F) (hO : Ok N F) (hc : F.at_ < F.m.lays.length ∧ ¬ false ∈ F.answd) : ∃ h' ck' ca' cb', evL cfg f25l0 ⟨[(0, .pt ⟨34, cf, 5⟩ 15 0 0)], h, ck⟩ = some (.normal, ⟨[(0, .pt ⟨34, cf, 5⟩ 15 0 0)], h', ck'⟩) ∧ FlS h' ck' cf ca' cb' (stepP F) ∧ Ran h ck cf ca cb h' ck' ca' cb' := by
  obtain ⟨v, hB, l1, l2, l3, hr⟩ := hS
  obtain ⟨c, hm⟩ := hc
  have hg := hB.1
  obtain ⟨o0, o1, o2, o3, o4, o5, o6⟩ := hB.2
  obtain ⟨r1, r2, r3, r4, r5⟩ := hr c
  have hf := hO.f1 c
  have hq := fun hp (hh : HP.get hp ⟨47, cb, 6⟩ = some (.row 4 1 (bl F.answd) false)) => callQ_t (C := cfg) (h := hp) (args := [.ow ⟨47, cb, 6⟩ 1 0 F.parts.length, bv false]) (ps := [.t (.l (bl F.answd)), bv false]) (by simp only [puresOf, pureOf_ow hh (by simp [bl, hf.nd] : (bl F.answd).length = F.parts.length)]; rfl) (containsb_ret F.answd false (by have := hf.nd; have := hf.np; omega)) (.inl rfl)
  have hcn : F.answd.contains false = false := by simpa using hm
  rw [hcn] at hq
  have hw : IntKind.i64.wrap ((F.at_ : Int) + 1) = ((F.at_ + 1 : Nat) : Int) := by
    have := hO.f0.m.1
    rw [wrap_id (by omega) (by omega)]; rfl
  have hcb := fun (s : St) (k : Key) (hh : s.hp.get ⟨38, ca, 6⟩ = some (.row 49 1 (F.ans.map fun r => [il r]) false)) => callEv_k (C := cfg) (k := k) (args := [.t (gl F.toks), .t (ptl F.parts), .ow ⟨38, ca, 6⟩ 1 0 F.parts.length]) (ps := [.t (gl F.toks), .t (ptl F.parts), .t (gl F.ans)]) (s := s) rfl rfl (by simp only [puresOf, pureOf_ow hh (by simp [hf.na] : (F.ans.map fun r => [il r]).length = F.parts.length)]; rfl) (comb_ret F.toks F.parts F.ans (by have := hf.np; omega) hf.toks ⟨by have := hf.na; have := hf.np; omega, hO.ans⟩) rfl
  obtain ⟨cf1, cf2⟩ := combP_few (parts := F.parts) (answers := F.ans) hO.f0.toks
  generalize hH : (HP.put (HP.put h ⟨38, ca, 6⟩ ⟨38, ca, 6⟩ (.row 49 1 (F.ans.map fun r => [il r]) true)) ⟨34, cf, 5⟩ ⟨34, cf, 5⟩ (.box 61 (fcs (onP F) v)) : HP) = h2
  have hB2 : FlB h2 cf (onP F) v := by
    subst hH
    refine ⟨?_, o0, o1, o2, o3, o4, o5, o6⟩
    simp [hp_get_put, hg]
  have h0 : Fit0 (onP F) := ⟨hO.f0.m, cf1, by simp only [onP]; rw [cf2]; exact hO.f0.ntok, hO.f0.ph, hO.f0.bag⟩
  obtain ⟨h', ck', v', ca', cb', hrun, hle, hB', hro, hfr⟩ := begin_run (ck := ck + 1 + 1 + 1 + 1) hB2 h0 (by omega)
  have hbg := fun e k => callEv_h (C := cfg) (s := ⟨e, h2, ck + 1 + 1 + 1⟩) rfl hrun k
  have hfr2 : ∀ q, q.c < ck → q ≠ ⟨34, cf, 5⟩ → q ≠ ⟨38, ca, 6⟩ → q ≠ ⟨47, cb, 6⟩ → h'.get q = h.get q := fun q hq e1 e2 e3 => by
    rw [hfr q (by omega) e1]
    subst hH
    rw [get_put_ne e1, get_put_ne e2]
  have hE : evL cfg f25l0 ⟨[(0, .pt ⟨34, cf, 5⟩ 15 0 0)], h, ck⟩ = some (.normal, ⟨[(0, .pt ⟨34, cf, 5⟩ 15 0 0)], h', ck' + 1 + 1⟩) := by
    rw [← hH] at hbg
    simp only [fcs, onP, laysT, r1, r2, r3, iv, gl, ptl, il] at hbg hg hcb r4
    have hcast : ((F.at_ + 1 : Nat) : Int) = (F.at_ : Int) + 1 := rfl
    rw [hcast] at hw
    simp only [hcast] at hbg
    simp only [bv] at hq
    have e1 : ∀ o, (h.put ⟨38, ca, 6⟩ ⟨38, ca, 6⟩ o).get ⟨34, cf, 5⟩ = h.get ⟨34, cf, 5⟩ := fun o => get_put_ne (by simp)
    simp [f25l0e, hg, c, filt_t, hq, r5, hcb, r4, keysOf, freezeAll, freeze1, e1, hp_get_put, over, hw, put_put, ptl, gl, il, laysT, hbg]
  have hm1 := beginP_m (onP F)
  by_cases c2 : F.at_ + 1 < F.m.lays.length
  · obtain ⟨q1, q2, q3, q4, q5⟩ := hro c2
    exact ⟨h', ck' + 1 + 1, ca', cb', hE, ⟨v', hB', by omega, by omega, by omega, fun _ => q1⟩, by omega, hfr2, .inr (by omega), .inr (by omega)⟩
  · refine ⟨h', ck' + 1 + 1, ca, cb, hE, ⟨v', hB', by omega, by omega, by omega, fun hx => absurd hx ?_⟩, by omega, hfr2, .inl rfl, .inl rfl⟩
    show ¬ (beginP (onP F)).at_ < (beginP (onP F)).m.lays.length
    rw [hm1.1, hm1.2.1]
    exact c2
theorem come_loop : ∀ (n : Nat) {h : HP} {ck cf ca cb : Nat} {F : Flt}, FlS h ck cf ca cb F → Ok N F → F.m.lays.length - F.at_ ≤ n → ∃ h' ck' ca' cb' e, evL cfg (.loop f25l0) ⟨[(0, .pt ⟨34, cf, 5⟩ 15 0 0)], h, ck⟩ = some (.exit 0, ⟨e, h', ck'⟩) ∧ FlS h' ck' cf ca' cb' (comeN n F) ∧ Ok N (comeN n F) ∧ Ran h ck cf ca cb h' ck' ca' cb'
  | 0, h, ck, cf, ca, cb, F, hS, hO, hn => by
    obtain ⟨e, hE⟩ := come_end hS hO (fun hc => by omega)
    refine ⟨h, ck + 1, ca, cb, e, hE, ?_, hO, Ran.to (by omega) fun _ _ _ => rfl⟩
    obtain ⟨v, a, b, c, d, f⟩ := hS
    exact ⟨v, a, by omega, by omega, by omega, f⟩
  | n + 1, h, ck, cf, ca, cb, F, hS, hO, hn => by
    unfold comeN
    by_cases hc : F.at_ < F.m.lays.length ∧ ¬ false ∈ F.answd
    · rw [if_pos hc]
      obtain ⟨h1, ck1, ca1, cb1, hE, hS1, hR1⟩ := come_step hS hO hc
      have hm1 := beginP_m (onP F)
      obtain ⟨h2, ck2, ca2, cb2, e, hE2, hS2, hO2, hR2⟩ := come_loop n hS1 (stepP_ok hO) (by
        unfold stepP
        rw [hm1.1, hm1.2.1]
        simp only [onP]
        omega)
      exact ⟨h2, ck2, ca2, cb2, e, by rw [evL_loop_n hE]; exact hE2, hS2, hO2, hR1.trans hR2⟩
    · rw [if_neg hc]
      obtain ⟨e, hE⟩ := come_end hS hO hc
      refine ⟨h, ck + 1, ca, cb, e, hE, ?_, hO, Ran.to (by omega) fun _ _ _ => rfl⟩
      obtain ⟨v, a, b, c, d, f⟩ := hS
      exact ⟨v, a, by omega, by omega, by omega, f⟩
theorem come_run {h : HP} {ck cf ca cb : Nat} {F : Flt} (hS : FlS h ck cf ca cb F) (hO : Ok N F) : ∃ h' ck' ca' cb', runL cfg 25 [.pt ⟨34, cf, 5⟩ 15 0 0] h ck = some (.tu [], h', ck') ∧ FlS h' ck' cf ca' cb' (comeP F) ∧ Ok N (comeP F) ∧ Ran h ck cf ca cb h' ck' ca' cb' := by
  obtain ⟨h', ck', ca', cb', e, hE, hS', hO', hR⟩ := come_loop (F.m.lays.length - F.at_) hS hO (Nat.le_refl _)
  refine ⟨h', ck', ca', cb', ?_, hS', hO', hR⟩
  rw [runL_pf (fn := f25) rfl rfl]
  simp [hE]
end Go.Proofs.Ytbocnaoihepjfaa.Pv
end

section
/- What a fleet's answer tells. -/
namespace Go.Proofs.Ytbocnaoihepjfaa.Pv
open Go Go.Pev
variable {N : Nat}

def hitP (a : Msg) (p : Pt) : Bool := decide (p.token = a.token) && decide (p.rank = a.rank) && decide (p.expert = a.expert)
def setP (F : Flt) (i : Nat) (v : List Int) : Flt := { F with ans := F.ans.set i v, answd := F.answd.set i true }
def goodA (F : Flt) (a : Msg) : Prop := a.kind = 2 ∧ a.batch = 1 ∧ a.layer = F.at_ ∧ (a.vec.length : Int) = F.m.dim ∧ F.at_ < F.m.lays.length
instance (F : Flt) (a : Msg) : Decidable (goodA F a) := by unfold goodA; exact inferInstance
def answerP (F : Flt) (a : Msg) : Flt := if goodA F a ∧ 0 ≤ fidx (hitP a) F.parts ∧ F.answd.getD (fidx (hitP a) F.parts).toNat true = false then comeP (setP F (fidx (hitP a) F.parts).toNat a.vec) else F
theorem hit_ret (a : Msg) (p : Pt) : RetT cfg 54 [.ag [iv p.token, iv p.rank, iv p.expert, iv p.weight], .pr (msgC a)] (bv (hitP a p)) := by
  refine RetT.of ?_
  rw [runL_pf (fn := f54) rfl rfl]
  unfold hitP
  by_cases h1 : p.token = a.token
  case neg =>
    have d1 : (p.token == a.token) = false := by simp [h1]
    simp [msgC, h1, d1]
  by_cases h2 : p.rank = a.rank
  case neg =>
    have d2 : (p.rank == a.rank) = false := by simp [h2]
    simp [msgC, h1, h2, d2]
  by_cases h3 : p.expert = a.expert
  · simp [msgC, h1, h2, h3]
  · have d3 : (p.expert == a.expert) = false := by simp [h3]
    simp [msgC, h1, h2, h3, d3]
theorem hits_ret (a : Msg) (l : List Pt) (hl : l.length ≤ 1000000) : RetT cfg 53 [.t (ptl l), .fn 54 [.pr (msgC a)]] (.t (.i .i64 (fidx (hitP a) l))) := by
  refine ixf_run (ag := true) (sz := 4) ptT (hitP a) (fun p => .ag [iv p.token, iv p.rank, iv p.expert, iv p.weight]) rfl rfl (by simp [ptT]) (by simp [ptT]) hl ?_
  intro p _ s k hs
  exact ⟨s.ck, by rw [callEv_cl (C := cfg) (hit_ret a p) rfl rfl rfl s k (by simp [puresOf, pureOf, treesOf, treeOf]), hs]; rfl⟩
/-- A message's variable. -/
def mbox (a : Msg) : Ob := .box 71 [iv a.kind, iv a.fr, iv a.to, iv a.seq, iv a.batch, iv a.layer, iv a.token, iv a.rank, iv a.expert, iv a.epoch, .t (il a.vec)]
theorem fls_new {h : HP} {ck cf ca cb : Nat} {F : Flt} (hS : FlS h ck cf ca cb F) {s c o ck' : Nat} (h1 : s ≠ 34) (h2 : s ≠ 38) (h3 : s ≠ 47) (ob : Ob) (hle : ck ≤ ck') : FlS ((⟨s, c, o⟩, ob) :: h) ck' cf ca cb F := by
  obtain ⟨v, hB, l1, l2, l3, hr⟩ := hS
  refine ⟨v, flb_new hB h1 ob, by omega, by omega, by omega, fun hc => ?_⟩
  obtain ⟨a1, a2, a3, a4, a5⟩ := hr hc
  have e1 : ¬ (⟨s, c, o⟩ : Key) = ⟨38, ca, 6⟩ := by rintro h; cases h; exact h2 rfl
  have e2 : ¬ (⟨s, c, o⟩ : Key) = ⟨47, cb, 6⟩ := by rintro h; cases h; exact h3 rfl
  exact ⟨a1, a2, a3, by simp only [HP.get, if_neg e1]; exact a4, by simp only [HP.get, if_neg e2]; exact a5⟩
theorem fls_le {h : HP} {ck cf ca cb ck' : Nat} {F : Flt} (hS : FlS h ck cf ca cb F) (hle : ck ≤ ck') : FlS h ck' cf ca cb F := by
  obtain ⟨v, hB, l1, l2, l3, hr⟩ := hS
  exact ⟨v, hB, by omega, by omega, by omega, hr⟩
set_option maxHeartbeats 2000000 in
theorem answer_run {h : HP} {ck cf ca cb : Nat} {F : Flt} (a : Msg) (hS : FlS h ck cf ca cb F) (hO : Ok N F) (hav : a.vec.length ≤ 1000000) : ∃ h' ck' ca' cb', runL cfg 33 [.pt ⟨34, cf, 5⟩ 15 0 0, msgV a] h ck = some (.tu [], h', ck') ∧ FlS h' ck' cf ca' cb' (answerP F a) ∧ Ok N (answerP F a) ∧ Ran h ck cf ca cb h' ck' ca' cb' := by
  have hS0 := hS
  obtain ⟨v, hB, l1, l2, l3, hr⟩ := hS
  have hg := hB.1
  rw [runL_pf (fn := f33) rfl rfl]
  simp only [fcs, laysT] at hg
  have bad : ∀ n : Nat, ∀ ob : Ob, ¬ (goodA F a ∧ 0 ≤ fidx (hitP a) F.parts ∧ F.answd.getD (fidx (hitP a) F.parts).toNat true = false) → FlS ((⟨3, ck, 0⟩, ob) :: h) (ck + n) cf ca cb (answerP F a) ∧ Ok N (answerP F a) ∧ Ran h ck cf ca cb ((⟨3, ck, 0⟩, ob) :: h) (ck + n) ca cb := fun n ob hc => by
    unfold answerP
    rw [if_neg hc]
    exact ⟨fls_new hS0 (by decide) (by decide) (by decide) ob (by omega), hO, Ran.to (by omega) fun q hq _ => get_new hq⟩
  by_cases c1 : a.kind = 2
  case neg =>
    have d1 : (a.kind != 2) = true := by simp [c1]
    refine ⟨(⟨3, ck, 0⟩, mbox a) :: h, ck + 2, ca, cb, ?_, bad 2 _ (fun h => c1 h.1.1)⟩
    simp [msgV, mbox, hg, filt_t, d1]
  have d1 : (a.kind != 2) = false := by simp [c1]
  by_cases c2 : a.batch = 1
  case neg =>
    have d2 : (a.batch != 1) = true := by simp [c2]
    refine ⟨(⟨3, ck, 0⟩, mbox a) :: h, ck + 2, ca, cb, ?_, bad 2 _ (fun h => c2 h.1.2.1)⟩
    simp [msgV, mbox, hg, filt_t, d1, d2]
  have d2 : (a.batch != 1) = false := by simp [c2]
  by_cases c3 : a.layer = F.at_
  case neg =>
    have d3 : (a.layer != (F.at_ : Int)) = true := by simp [c3]
    refine ⟨(⟨3, ck, 0⟩, mbox a) :: h, ck + 2, ca, cb, ?_, bad 2 _ (fun h => c3 h.1.2.2.1)⟩
    simp [msgV, mbox, hg, filt_t, d1, d2, d3]
  have d3 : (a.layer != (F.at_ : Int)) = false := by simp [c3]
  by_cases c4 : (a.vec.length : Int) = F.m.dim
  case neg =>
    have d4 : ((a.vec.length : Int) != F.m.dim) = true := by simp [c4]
    refine ⟨(⟨3, ck, 0⟩, mbox a) :: h, ck + 2, ca, cb, ?_, bad 2 _ (fun h => c4 h.1.2.2.2.1)⟩
    simp [msgV, mbox, hg, filt_t, d1, d2, d3, d4]
  have d4 : ((a.vec.length : Int) != F.m.dim) = false := by simp [c4]
  by_cases c5 : F.at_ < F.m.lays.length
  case neg =>
    have d5 : F.m.lays.length ≤ F.at_ := by omega
    refine ⟨(⟨3, ck, 0⟩, mbox a) :: h, ck + 2, ca, cb, ?_, bad 2 _ (fun h => c5 h.1.2.2.2.2)⟩
    simp [msgV, mbox, hg, filt_t, d1, d2, d3, d4, d5]
  have d5 : ¬ F.m.lays.length ≤ F.at_ := by omega
  have hga : goodA F a := ⟨c1, c2, c3, c4, c5⟩
  obtain ⟨r1, r2, r3, r4, r5⟩ := hr c5
  have hf := hO.f1 c5
  have hx := fun (s : St) (k : Key) => callEv_fn (C := cfg) (caps0 := [.pt ⟨3, ck, 0⟩ 11 0 0]) (hits_ret a F.parts (by have := hf.np; omega)) rfl rfl rfl s k
  have hlt := fidx_lt (hitP a) F.parts
  have hge := fidx_ge (hitP a) F.parts
  generalize hidx : fidx (hitP a) F.parts = idx at *
  simp only [r1, r2, r3] at hg
  simp only [ptl, msgC, il] at hx hg
  by_cases c6 : idx < 0
  · refine ⟨(⟨3, ck, 0⟩, mbox a) :: h, ck + 4, ca, cb, ?_, bad 4 _ (fun h => by omega)⟩
    simp [msgV, mbox, hg, filt_t, d1, d2, d3, d4, d5, hx, capsOf, capOf, treesOf, treeOf, c6]
  obtain ⟨i, rfl⟩ : ∃ i : Nat, idx = i := ⟨idx.toNat, by omega⟩
  have hi : i < F.parts.length := by omega
  have hid : i < F.answd.length := by have := hf.nd; omega
  have hia : i < F.ans.length := by have := hf.na; omega
  have d6 : decide ((i : Int) < 0) = false := decide_eq_false (by omega)
  have hgd : F.answd.getD i true = F.answd[i] := by simp [List.getD_eq_getElem?_getD, hid]
  have hrg : (bl F.answd)[i]? = some [.b F.answd[i]] := by simp [bl, hid]
  cases c7 : F.answd[i] with
  | true =>
    rw [c7] at hrg
    refine ⟨(⟨3, ck, 0⟩, mbox a) :: h, ck + 4, ca, cb, ?_, bad 4 _ (fun h => by
      have := h.2.2
      rw [Int.toNat_natCast, hgd, c7] at this
      cases this)⟩
    simp [msgV, mbox, hg, filt_t, d1, d2, d3, d4, d5, hx, capsOf, capOf, treesOf, treeOf, d6, hi, r5, hrg]
  | false =>
    rw [c7] at hrg hgd
    have hAP : answerP F a = comeP (setP F i a.vec) := by
      unfold answerP
      rw [hidx, Int.toNat_natCast, if_pos ⟨hga, by omega, hgd⟩]
    generalize hH : ((⟨3, ck, 0⟩, mbox a) :: HP.put (HP.put h ⟨38, ca, 6⟩ ⟨38, ca, 6⟩ (.row 49 1 ((F.ans.set i a.vec).map fun r => [il r]) false)) ⟨47, cb, 6⟩ ⟨47, cb, 6⟩ (.row 4 1 (bl (F.answd.set i true)) false) : HP) = h2
    have hS2 : FlS h2 (ck + 1 + 1 + 1 + 1 + 1 + 1) cf ca cb (setP F i a.vec) := by
      subst hH
      have hb : FlS (HP.put (HP.put h ⟨38, ca, 6⟩ ⟨38, ca, 6⟩ (.row 49 1 ((F.ans.set i a.vec).map fun r => [il r]) false)) ⟨47, cb, 6⟩ ⟨47, cb, 6⟩ (.row 4 1 (bl (F.answd.set i true)) false)) ck cf ca cb (setP F i a.vec) := by
        refine ⟨v, ⟨?_, hB.2⟩, l1, l2, l3, fun _ => ⟨r1, r2, r3, ?_, ?_⟩⟩
        · rw [get_put_ne (by simp), get_put_ne (by simp)]; exact hB.1
        · rw [get_put_ne (by simp), hp_get_put, if_pos rfl, r4]; rfl
        · rw [hp_get_put, if_pos rfl, get_put_ne (by simp), r5]; rfl
      exact fls_le (fls_new hb (by decide) (by decide) (by decide) _ (Nat.le_refl _)) (by omega)
    have hO2 : Ok N (setP F i a.vec) := ⟨⟨hO.f0.m, hO.f0.toks, hO.f0.ntok, hO.f0.ph, hO.f0.bag⟩, fun _ => ⟨by simp [setP, hf.na], by simp [setP, hf.nd], hf.np, hf.tok, hf.toks, hf.ntok, hf.ph, hf.bag⟩, fun r hr => by
      rcases List.mem_or_eq_of_mem_set hr with hr | rfl
      · exact hO.ans r hr
      · exact hav, hO.led, hO.bags, hO.led5⟩
    obtain ⟨h', ck', ca', cb', hrun, hS', hO', hR⟩ := come_run hS2 hO2
    have hcm := fun e k => callEv_h (C := cfg) (s := ⟨e, h2, ck + 1 + 1 + 1 + 1 + 1⟩) rfl hrun k
    rw [hAP]
    refine ⟨h', ck' + 1 + 1, ca', cb', ?_, fls_le hS' (by omega), hO', ?_⟩
    · rw [← hH] at hcm
      simp only [mbox, il, iv, List.map_set, bl] at hcm r4 r5
      simp only [bl] at hrg
      simp [msgV, hg, filt_t, d1, d2, d3, d4, d5, hx, capsOf, capOf, treesC, treesOf, treeOf, keysOf, freezeAll, d6, hi, hia, hid, r4, r5, bl, hrg, c7, hp_get_put, over, hcm]
    · have hle := hR.le
      refine ⟨by omega, fun q hq e1 e2 e3 => ?_, ?_, ?_⟩
      · rw [hR.fr q (by omega) e1 e2 e3]
        subst hH
        rw [get_new hq, get_put_ne e3, get_put_ne e2]
      · rcases hR.ca with e | e
        · exact .inl e
        · exact .inr (by omega)
      · rcases hR.cb with e | e
        · exact .inl e
        · exact .inr (by omega)
end Go.Proofs.Ytbocnaoihepjfaa.Pv
end

section
/- What slices.IndexFunc and slices.DeleteFunc tell, of place.Retire's closure. -/
namespace Go.Proofs.Ytbocnaoihepjfaa.Pv
open Go Go.Pev

theorem filt_true {α : Type} (l : List α) : List.filter (fun _ => true) l = l := List.filter_eq_self.2 fun _ _ => rfl

def idx (l : List Int) (n : Int) : Int := if l.contains n then l.idxOf n else -1

theorem del_split (n : Int) : ∀ l : List Int, n ∈ l → l.take (l.idxOf n) ++ (l.drop (l.idxOf n + 1)).filter (· != n) = l.filter (· != n)
  | [], h => by cases h
  | a :: l, h => by
    by_cases e : a = n
    · subst e; simp
    · have h' : n ∈ l := by
        rcases List.mem_cons.1 h with h | h
        · exact absurd h.symm e
        · exact h
      have := del_split n l h'
      have hi : (a :: l).idxOf n = l.idxOf n + 1 := by
        rw [List.idxOf_cons]
        have : (a == n) = false := by simpa using e
        rw [this]; rfl
      rw [hi, List.take_succ_cons, List.drop_succ_cons, List.cons_append, this, List.filter_cons_of_pos (by simpa using e)]

end Go.Proofs.Ytbocnaoihepjfaa.Pv
end

section
/- What place.Retire tells. -/
namespace Go.Proofs.Ytbocnaoihepjfaa.Pv
open Go Go.Pev

def pret (e : Int) (h : List (List Int)) (x n : Int) : Int × List (List Int) × Int := if may e h x n = false then (e, h, 1) else if holds h x n = false then (e, h, 4) else if (h.getD x.toNat []).length = 1 then (e, h, 7) else (e + 1, h.set x.toNat ((h.getD x.toNat []).filter (· != n)), 0)

end Go.Proofs.Ytbocnaoihepjfaa.Pv
end

section
/- What a fleet's Drop, Twice, Add, Retire, Bag, Worked, Done tell. -/
namespace Go.Proofs.Ytbocnaoihepjfaa.Pv
open Go Go.Pev
variable {N : Nat}

/-- The same but for what lies in the box. -/
theorem fls_put {h : HP} {ck cf ca cb : Nat} {F F' : Flt} {v v' : Vs} (hB : FlB h cf F v) (l1 : cf < ck) (l2 : ca < ck) (l3 : cb < ck) (hr : F.at_ < F.m.lays.length → rowsAre h F v ca cb) (hV : VsOk F' v') (e1 : F'.parts = F.parts) (e2 : F'.ans = F.ans) (e3 : F'.answd = F.answd) (e4 : F'.at_ = F.at_) (e5 : F'.m = F.m) (g1 : v'.vp = v.vp) (g2 : v'.va = v.va) (g3 : v'.vd = v.vd) : FlS (h.put ⟨34, cf, 5⟩ ⟨34, cf, 5⟩ (.box 61 (fcs F' v'))) ck cf ca cb F' := by
  refine ⟨v', ⟨?_, hV⟩, l1, l2, l3, fun hc => ?_⟩
  · rw [hp_get_put, if_pos rfl, hB.1]; rfl
  · rw [e4, e5] at hc
    obtain ⟨r1, r2, r3, r4, r5⟩ := hr hc
    exact ⟨by rw [g1, e1]; exact r1, by rw [g2, e1]; exact r2, by rw [g3, e1]; exact r3, by rw [get_put_ne (by simp), e2]; exact r4, by rw [get_put_ne (by simp), e3]; exact r5⟩
theorem ran_put {h : HP} {ck cf ca cb n : Nat} (ob : Ob) : Ran h ck cf ca cb (h.put ⟨34, cf, 5⟩ ⟨34, cf, 5⟩ ob) (ck + n) ca cb := Ran.to (by omega) fun q hq e => get_put_ne e
theorem take_s {l : List (List UInt8)} {i : Int} (h : ∀ s ∈ l, s.length ≤ 100000) : (∀ s ∈ (bagTake l i).2.1, s.length ≤ 100000) ∧ (bagTake l i).1.length ≤ 100000 ∧ (bagTake l i).2.1.length ≤ l.length := by
  unfold bagTake
  split
  · refine ⟨fun s hs => ?_, ?_, ?_⟩
    · rcases List.mem_append.1 hs with hs | hs
      · exact h s (List.mem_of_mem_take hs)
      · exact h s (List.mem_of_mem_drop hs)
    · rename_i hc
      have hj : i.toNat < l.length := by omega
      have : l.getD i.toNat [] = l[i.toNat] := by simp [List.getD_eq_getElem?_getD, hj]
      simp only [this]
      exact h _ (List.getElem_mem hj)
    · simp; omega
  · exact ⟨h, by simp, Nat.le_refl _⟩
def dropP (F : Flt) (i : Int) : Flt × Int := ({ F with bag := (bagTake F.bag i).2.1 }, if (bagTake F.bag i).2.2 then 0 else 4)
theorem bag_ok {F : Flt} {b : List (List UInt8)} (hO : Ok N F) (h1 : b.length ≤ 1000000) (h2 : ∀ s ∈ b, s.length ≤ 100000) : Ok N { F with bag := b } := ⟨⟨hO.f0.m, hO.f0.toks, hO.f0.ntok, hO.f0.ph, h1⟩, fun hc => ⟨(hO.f1 hc).na, (hO.f1 hc).nd, (hO.f1 hc).np, (hO.f1 hc).tok, (hO.f1 hc).toks, (hO.f1 hc).ntok, (hO.f1 hc).ph, h1⟩, hO.ans, hO.led, h2, hO.led5⟩
theorem drop_run {h : HP} {ck cf ca cb : Nat} {F : Flt} (i : Int) (hS : FlS h ck cf ca cb F) (hO : Ok N F) : ∃ h' ck', runL cfg 10 [.pt ⟨34, cf, 5⟩ 15 0 0, iv i] h ck = some (iv (dropP F i).2, h', ck') ∧ FlS h' ck' cf ca cb (dropP F i).1 ∧ Ok N (dropP F i).1 ∧ Ran h ck cf ca cb h' ck' ca cb := by
  obtain ⟨v, hB, l1, l2, l3, hr⟩ := hS
  have hg := hB.1
  obtain ⟨o0, o1, o2, o3, o4, o5, o6⟩ := hB.2
  have hT := fun s k => callEv_rd (C := cfg) (btake_ret F.bag i hO.f0.bag) rfl rfl (rdA_v o5 (rdA_t rdA_nil)) s k
  obtain ⟨t1, t2, t3⟩ := take_s (i := i) hO.bags
  unfold dropP
  generalize bagTake F.bag i = r at *
  obtain ⟨s, rest, ok⟩ := r
  have hV : VsOk { F with bag := rest } { v with vb := .t (sl rest) } := ⟨o0, o1, o2, o3, o4, rd_t _, o6⟩
  refine ⟨h.put ⟨34, cf, 5⟩ ⟨34, cf, 5⟩ (.box 61 (fcs { F with bag := rest } { v with vb := .t (sl rest) })), ck + 5, ?_, fls_le (fls_put hB l1 l2 l3 hr hV rfl rfl rfl rfl rfl rfl rfl rfl) (by omega), bag_ok hO (by have := hO.f0.bag; simp only at t3 ⊢; omega) t1, ran_put _⟩
  simp only [iv, bv] at hT
  simp only [fcs] at hg
  rw [runL_pf (fn := f10) rfl rfl]
  cases ok <;> simp [fcs, hg, hT, filt_t, over]
def twiceP (F : Flt) (i : Int) : Flt × Int := if 0 ≤ i ∧ i < F.bag.length then ({ F with bag := bagTwice F.bag i }, 0) else (F, 4)
theorem twice_s {l : List (List UInt8)} {i : Int} (h : ∀ s ∈ l, s.length ≤ 100000) (hl : l.length ≤ 1000000) : (∀ s ∈ bagTwice l i, s.length ≤ 100000) ∧ (bagTwice l i).length ≤ 1000000 := by
  unfold bagTwice
  split
  · rename_i hc
    have hj : i.toNat < l.length := by omega
    have e : l.getD i.toNat [] = l[i.toNat] := by simp [List.getD_eq_getElem?_getD, hj]
    unfold bagPut
    split
    · refine ⟨fun s hs => ?_, by simp; omega⟩
      rcases List.mem_append.1 hs with hs | hs
      · exact h s hs
      · rw [List.mem_singleton] at hs
        rw [hs, e]
        exact h _ (List.getElem_mem hj)
    · exact ⟨h, hl⟩
  · exact ⟨h, hl⟩
def addP (F : Flt) (x n : Int) : Flt × Int := ({ F with pe := (padd F.pe F.ph x n).1, ph := (padd F.pe F.ph x n).2.1 }, (padd F.pe F.ph x n).2.2)
def retP (F : Flt) (x n : Int) : Flt × Int := ({ F with pe := (pret F.pe F.ph x n).1, ph := (pret F.pe F.ph x n).2.1 }, (pret F.pe F.ph x n).2.2)
theorem map_ok {F : Flt} {e : Int} {ph : List (List Int)} (hO : Ok N F) (h1 : ph.length ≤ 1000000 ∧ ∀ r ∈ ph, r.length ≤ 100000) : Ok N { F with pe := e, ph := ph } := ⟨⟨hO.f0.m, hO.f0.toks, hO.f0.ntok, h1, hO.f0.bag⟩, fun hc => ⟨(hO.f1 hc).na, (hO.f1 hc).nd, (hO.f1 hc).np, (hO.f1 hc).tok, (hO.f1 hc).toks, (hO.f1 hc).ntok, h1, hO.f0.bag⟩, hO.ans, hO.led, hO.bags, hO.led5⟩
theorem padd_few {e : Int} {ph : List (List Int)} (x n : Int) (h : ph.length ≤ 1000000 ∧ ∀ r ∈ ph, r.length ≤ 100000) : (padd e ph x n).2.1.length ≤ 1000000 ∧ ∀ r ∈ (padd e ph x n).2.1, r.length ≤ 100000 := by
  unfold padd
  split
  · exact h
  · split
    · exact h
    · rename_i h1 h2
      refine ⟨by simp; exact h.1, fun r hr => ?_⟩
      rcases List.mem_or_eq_of_mem_set hr with hr | rfl
      · exact h.2 r hr
      · have hm : may e ph x n = true := by simpa using h1
        simp only [may, right, Bool.and_eq_true, decide_eq_true_eq, List.all_eq_true] at hm
        have hxl : x.toNat < ph.length := by omega
        have hrow := (hm.1.1.1.1.1.2 _ (List.getElem_mem hxl)).1
        have hl := rowUp_len hrow
        have eg : ph.getD x.toNat [] = ph[x.toNat] := by simp [List.getD_eq_getElem?_getD, hxl]
        rw [eg]
        simp only [srt, List.length_mergeSort, List.length_append, List.length_cons, List.length_nil]
        omega
theorem pret_few {e : Int} {ph : List (List Int)} (x n : Int) (h : ph.length ≤ 1000000 ∧ ∀ r ∈ ph, r.length ≤ 100000) : (pret e ph x n).2.1.length ≤ 1000000 ∧ ∀ r ∈ (pret e ph x n).2.1, r.length ≤ 100000 := by
  unfold pret
  split
  · exact h
  · split
    · exact h
    · split
      · exact h
      · rename_i h1 h2 h3
        refine ⟨by simp; exact h.1, fun r hr => ?_⟩
        rcases List.mem_or_eq_of_mem_set hr with hr | rfl
        · exact h.2 r hr
        · have hm : may e ph x n = true := by simpa using h1
          simp only [may, right, Bool.and_eq_true, decide_eq_true_eq, List.all_eq_true] at hm
          have hxl : x.toNat < ph.length := by omega
          have eg : ph.getD x.toNat [] = ph[x.toNat] := by simp [List.getD_eq_getElem?_getD, hxl]
          rw [eg]
          have := List.length_filter_le (fun z => z != n) ph[x.toNat]
          have := h.2 _ (List.getElem_mem hxl)
          omega
end Go.Proofs.Ytbocnaoihepjfaa.Pv
end

section
/- What a fleet's Bag, Worked, Done tell. -/
namespace Go.Proofs.Ytbocnaoihepjfaa.Pv
open Go Go.Pev
variable {N : Nat}

theorem fls_fr {h h' : HP} {ck ck' cf ca cb : Nat} {F : Flt} (hS : FlS h ck cf ca cb F) (hle : ck ≤ ck') (hfr : ∀ q, q.c < ck → h'.get q = h.get q) : FlS h' ck' cf ca cb F := by
  obtain ⟨v, hB, l1, l2, l3, hr⟩ := hS
  refine ⟨v, ⟨?_, hB.2⟩, by omega, by omega, by omega, fun hc => ?_⟩
  · rw [hfr _ l1]; exact hB.1
  · obtain ⟨r1, r2, r3, r4, r5⟩ := hr hc
    exact ⟨r1, r2, r3, by rw [hfr _ l2]; exact r4, by rw [hfr _ l3]; exact r5⟩
theorem callEv_rdo {C : Cfg} {f : Nat} {args ps : List V} {ty sz : Nat} {els : List (List T)} (h : RetO C f ps ty sz els) (hm : C.hpm f = false) (ho : C.own f = true) (ha : RdA args ps) (s : St) (k : Key) : callEv C (runL C) f args s k = some (.ow k sz 0 els.length, (k, .row ty sz els false) :: s.hp, s.ck) := by
  rw [callEv_o hm ho (rdA_is ha s.hp).1 h, (rdA_is ha s.hp).2]; rfl
theorem bag_run {h : HP} {ck cf ca cb : Nat} {F : Flt} (hS : FlS h ck cf ca cb F) (hO : Ok N F) : runL cfg 9 [.pt ⟨34, cf, 5⟩ 15 0 0] h ck = some (.ow ⟨7, ck + 1, 4⟩ 1 0 F.bag.length, (⟨7, ck + 1, 4⟩, .row 9 1 (slc F.bag) false) :: (⟨2, ck, 0⟩, .row 9 1 [] false) :: h, ck + 2) := by
  obtain ⟨v, hB, l1, l2, l3, hr⟩ := hS
  have hg := hB.1
  obtain ⟨o0, o1, o2, o3, o4, o5, o6⟩ := hB.2
  have hc := fun s k => callEv_rdo (C := cfg) (clones_ret F.bag hO.f0.bag) rfl rfl (rdA_v o5 rdA_nil) s k
  have hl := slc_len F.bag
  rw [hl] at hc
  simp only [fcs] at hg
  rw [runL_pf (fn := f9) rfl rfl]
  simp [hg, hc, filt_t]
/-- The bag, handed on read-only. -/
theorem bag_ret (F : Flt) (cs : List T) (h9 : cs[9]? = some (sl F.bag)) (hb : F.bag.length ≤ 1000000) : RetO cfg 9 [.pr cs] 9 1 (slc F.bag) := by
  have hc := fun s k => callEv_tro (C := cfg) (clones_ret F.bag hb) rfl rfl rfl s k
  have hd : cs.drop 9 = sl F.bag :: cs.drop 10 := by
    have h := (List.getElem?_eq_some_iff.1 h9)
    obtain ⟨h1, h2⟩ := h
    rw [List.drop_eq_getElem_cons h1, h2]
  unfold RetO
  rw [runL_pf (fn := f9) rfl rfl]
  simp [hd, hc]
  exact ⟨_, _, ⟨rfl, rfl⟩, by simp [HP.get]⟩
def doneP (F : Flt) : List (List Int) × Bool := if F.at_ < F.m.lays.length then ([], false) else (F.toks, true)
theorem done_run {h : HP} {ck cf ca cb : Nat} {F : Flt} (hS : FlS h ck cf ca cb F) (hO : Ok N F) : ∃ h' ck' kd, runL cfg 11 [.pt ⟨34, cf, 5⟩ 15 0 0] h ck = some (.tu [.ow kd 1 0 (doneP F).1.length, bv (doneP F).2], h', ck') ∧ h'.get kd = some (.row 49 1 ((doneP F).1.map fun r => [il r]) false) ∧ ck ≤ ck' ∧ ck ≤ kd.c ∧ kd.c < ck' ∧ (kd.s = 2 ∨ kd.s = 19) ∧ ∀ q, q.c < ck → h'.get q = h.get q := by
  obtain ⟨v, hB, l1, l2, l3, hr⟩ := hS
  have hg := hB.1
  rw [runL_pf (fn := f11) rfl rfl]
  unfold doneP
  by_cases c : F.at_ < F.m.lays.length
  · rw [if_pos c]
    refine ⟨(⟨2, ck + 1 + 1, 0⟩, .row 49 1 [] false) :: (⟨2, ck, 0⟩, .row 49 1 [] false) :: h, ck + 3, ⟨2, ck + 1 + 1, 0⟩, ?_, by simp, by omega, by simp; omega, by simp, .inl rfl, fun q hq => by rw [get_new (by omega), get_new hq]⟩
    simp only [fcs, laysT] at hg
    simp [hg, c, filt_t]
  · rw [if_neg c]
    have hc := fun s k => callEv_tro (C := cfg) (clone2_ret (F.toks.map fun r => [il r]) (by simp) (by simpa using hO.f0.toks.1)) rfl rfl rfl s k
    refine ⟨(⟨19, ck + 1 + 1, 4⟩, .row 49 1 (F.toks.map fun r => [il r]) false) :: (⟨2, ck, 0⟩, .row 49 1 [] false) :: h, ck + 3, ⟨19, ck + 1 + 1, 4⟩, ?_, by simp, by omega, by simp; omega, by simp, .inr rfl, fun q hq => by rw [get_new (by omega), get_new hq]⟩
    simp only [fcs, laysT, gl] at hg
    simp only [List.length_map, il] at hc
    simp [hg, c, filt_t, hc]
def workedP (F : Flt) : Nat := (F.led.map (·.length)).sum
def wkS (F : Flt) (i : Nat) : Nat := ((F.led.take i).map (·.length)).sum
def wkI (F : Flt) (v : Vs) (h : HP) (ck0 : Nat) (i : Nat) (s : St) : Prop := ∃ ck, ck0 ≤ ck ∧ s = ⟨[(3, iv (wkS F i)), (9, .ag [v.l0, v.l1, v.l2, v.l3, v.l4]), (10, iv (i : Int))], h, ck⟩
theorem wk_bound {N : Nat} {F : Flt} (hO : Ok N F) (i : Nat) : wkS F i ≤ 5 * N := by
  have key : ∀ (l : List (List Ent)), (∀ x ∈ l, x.length ≤ N) → (l.map (·.length)).sum ≤ l.length * N := by
    intro l
    induction l with
    | nil => intro _; simp
    | cons a l ih =>
      intro h
      have h1 := ih (fun x hx => h x (List.mem_cons_of_mem _ hx))
      have h2 := h a List.mem_cons_self
      simp only [List.map_cons, List.sum_cons, List.length_cons, Nat.add_mul]
      omega
  have := key (F.led.take i) (fun x hx => (hO.led x (List.mem_of_mem_take hx)).1)
  have hl : (F.led.take i).length ≤ 5 := by simp [hO.led5]; omega
  have := Nat.mul_le_mul_right N hl
  unfold wkS
  omega
theorem wk_loop {h : HP} {F : Flt} {v : Vs} (hV : VsOk F v) (hO : Ok N F) (hN : N ≤ 1000000) (ck : Nat) : ∃ e ck', ck ≤ ck' ∧ evL cfg (.loop f13l0) ⟨[(3, iv 0), (9, .ag [v.l0, v.l1, v.l2, v.l3, v.l4]), (10, iv 0)], h, ck⟩ = some (.exit 0, ⟨(3, iv (workedP F)) :: e, h, ck'⟩) := by
  obtain ⟨o0, o1, o2, o3, o4, -⟩ := hV
  have h5 := hO.led5
  refine loop_q (Q := fun E => ∃ e ck', ck ≤ ck' ∧ E = some (.exit 0, ⟨(3, iv (workedP F)) :: e, h, ck'⟩)) 5 (wkI F v h ck) ?_ ?_ _ ⟨ck, Nat.le_refl _, rfl⟩
  · rintro i s hi ⟨ck, hck, rfl⟩
    have hs : wkS F (i + 1) = wkS F i + (F.led.getD i []).length := by
      unfold wkS
      have hil : i < F.led.length := by omega
      have e : F.led.getD i [] = F.led[i] := by simp [List.getD_eq_getElem?_getD, hil]
      rw [List.take_succ_eq_append_getElem hil, List.map_append, List.sum_append, e]
      simp only [List.map_cons, List.map_nil, List.sum_cons, List.sum_nil, Nat.add_zero]
    have b1 := wk_bound hO (i + 1)
    have hw : IntKind.i64.wrap ((wkS F i : Int) + ((F.led.getD i []).length : Int)) = (wkS F (i + 1) : Int) := by
      rw [hs] at b1 ⊢
      rw [wrap_id (by omega) (by omega)]; rfl
    have q0 := rd_len (xs := (F.led.getD 0 []).map enT) o0
    have q1 := rd_len (xs := (F.led.getD 1 []).map enT) o1
    have q2 := rd_len (xs := (F.led.getD 2 []).map enT) o2
    have q3 := rd_len (xs := (F.led.getD 3 []).map enT) o3
    have q4 := rd_len (xs := (F.led.getD 4 []).map enT) o4
    simp only [List.length_map, List.getD_eq_getElem?_getD] at q0 q1 q2 q3 q4 hw
    have e1 : IntKind.i64.wrap 1 = 1 := by decide
    have e2 : IntKind.i64.wrap 2 = 2 := by decide
    have e3 : IntKind.i64.wrap 3 = 3 := by decide
    have e4 : IntKind.i64.wrap 4 = 4 := by decide
    have e5 : IntKind.i64.wrap 5 = 5 := by decide
    match i, hi with
    | 0, _ => simp only [Int.natCast_zero] at hw ⊢
              simp [f13l0e, q0, filt_t, hw, e1]; exact ⟨_, by omega, rfl⟩
    | 1, _ => simp [f13l0e, q1, filt_t, hw, e2]; exact ⟨_, by omega, rfl⟩
    | 2, _ => simp [f13l0e, q2, filt_t, hw, e3]; exact ⟨_, by omega, rfl⟩
    | 3, _ => simp [f13l0e, q3, filt_t, hw, e4]; exact ⟨_, by omega, rfl⟩
    | 4, _ => simp [f13l0e, q4, filt_t, hw, e5]; exact ⟨_, by omega, rfl⟩
  · rintro s ⟨ck, hck, rfl⟩
    have : wkS F 5 = workedP F := by unfold wkS workedP; rw [List.take_of_length_le (by omega)]
    rw [this]
    simp [f13l0e, filt_t]
    omega
theorem worked_run {h : HP} {ck cf ca cb : Nat} {F : Flt} (hS : FlS h ck cf ca cb F) (hO : Ok N F) (hN : N ≤ 1000000) : ∃ ck', runL cfg 13 [.pt ⟨34, cf, 5⟩ 15 0 0] h ck = some (iv (workedP F), h, ck') ∧ ck ≤ ck' := by
  obtain ⟨v, hB, l1, l2, l3, hr⟩ := hS
  have hg := hB.1
  obtain ⟨e, ck', hle, hL⟩ := wk_loop (h := h) hB.2 hO hN (ck + 1 + 1 + 1)
  refine ⟨ck' + 1, ?_, by omega⟩
  simp only [fcs] at hg
  simp at hL
  rw [runL_pf (fn := f13) rfl rfl]
  simp [hg, filt_t, hL]
end Go.Proofs.Ytbocnaoihepjfaa.Pv
end

section
/- What a fleet's Deliver tells. -/
namespace Go.Proofs.Ytbocnaoihepjfaa.Pv
open Go Go.Pev
variable {N : Nat}

def ledAt (F : Flt) (n : Int) : List Ent := F.led.getD n.toNat []
def nodeP (F : Flt) (a : Msg) : List Ent × Msg × Bool := workP F.m F.pe F.ph a.to (ledAt F a.to) a
def workF (F : Flt) (a : Msg) : Flt := { F with led := F.led.set a.to.toNat (nodeP F a).1, bag := if (nodeP F a).2.2 then sendB F.bag (nodeP F a).2.1 else F.bag }
def gotP (F : Flt) (s : List UInt8) : Flt :=
  if (takeP s).2 ≠ 0 then F
  else if (takeP s).1.to = 0 then answerP F (takeP s).1
  else if (takeP s).1.to ≤ 4 then workF F (takeP s).1
  else F
def delvP (F : Flt) (i : Int) : Flt × Int :=
  if (bagTake F.bag i).2.2 then (gotP { F with bag := (bagTake F.bag i).2.1 } (bagTake F.bag i).1, 0) else (F, 4)
theorem takeP_ok {s : List UInt8} (h : (takeP s).2 = 0) : wrightM (takeP s).1 = true := by
  unfold takeP at h ⊢
  split
  · rename_i c; rw [if_pos c] at h; cases h
  · rename_i c
    rw [if_neg c] at h
    split
    · rename_i c2; rw [if_pos c2] at h; cases h
    · rename_i c2
      rw [if_neg c2] at h
      split
      · rename_i c3; rw [if_pos c3] at h; cases h
      · rename_i c3
        have : wrightM (msgB s) ≠ false := fun e => c3 (.inr e)
        simpa using this
theorem takeP_vec (s : List UInt8) : (takeP s).1.vec.length ≤ 1000000 := by
  by_cases h : (takeP s).2 = 0
  · have := (wright_num (takeP_ok h)).2.2.2.2.2.1; omega
  · unfold takeP at h ⊢
    split
    · simp [msg0]
    · split
      · simp [msg0]
      · split
        · simp [msg0]
        · rename_i c1 c2 c3
          rw [if_neg c1, if_neg c2, if_neg c3] at h
          exact absurd rfl h
theorem workV_len {m : Mod} {l : List Ent} {a : Msg} (hm : FewM m) (hl : ∀ e ∈ l, e.vec.length ≤ 1000000) (pe node : Int) (ph : List (List Int)) (hf : fitsP m pe ph node a = true) : (workV m l a).length ≤ 1000000 := by
  obtain ⟨i, hi, j, hj, ei, ej, hx, hla, hea⟩ := fits_exp hf
  unfold workV
  split
  · unfold findP
    split
    · simp
    · rename_i h
      have hlt := fidx_lt (atKey (keyOf a)) l
      have hq : (fidx (atKey (keyOf a)) l).toNat < l.length := by omega
      have : l.getD (fidx (atKey (keyOf a)) l).toNat ent0 = l[(fidx (atKey (keyOf a)) l).toNat] := by simp [List.getD_eq_getElem?_getD, hq]
      simp only [this]
      exact hl _ (List.getElem_mem hq)
  · rw [hea]
    simp only [runP, scoresP, List.length_map]
    exact ((hm.2 _ (List.getElem_mem hi)).2.2 _ (List.getElem_mem hj)).2.1
theorem nodeP_ok {F : Flt} {a : Msg} (hO : Ok N F) (hav : a.vec.length ≤ 1000000) : (nodeP F a).1.length ≤ N + 1 ∧ (∀ e ∈ (nodeP F a).1, e.vec.length ≤ 1000000) ∧ (nodeP F a).2.1.vec.length ≤ 1000000 := by
  have hl : (ledAt F a.to).length ≤ N ∧ ∀ e ∈ ledAt F a.to, e.vec.length ≤ 1000000 := by
    unfold ledAt
    by_cases h : a.to.toNat < F.led.length
    · have : F.led.getD a.to.toNat [] = F.led[a.to.toNat] := by simp [List.getD_eq_getElem?_getD, h]
      rw [this]; exact hO.led _ (List.getElem_mem h)
    · have : F.led.getD a.to.toNat [] = [] := by simp [List.getD_eq_getElem?_getD, h]
      rw [this]; simp
  unfold nodeP workP
  split
  · exact ⟨by simp only; omega, hl.2, by simp [msg0]⟩
  · split
    · exact ⟨by simp only; omega, hl.2, by simp [staleOf]⟩
    · rename_i h1 h2
      have hf : fitsP F.m F.pe F.ph a.to a = true := by simpa using h1
      have hv := workV_len hO.f0.m hl.2 _ _ _ hf
      refine ⟨?_, ?_, hv⟩
      · unfold workL; split
        · simp only; omega
        · simp only [List.length_append, List.length_cons, List.length_nil]; omega
      · intro e he
        unfold workL at he
        split at he
        · exact hl.2 e he
        · rcases List.mem_append.1 he with he | he
          · exact hl.2 e he
          · rw [List.mem_singleton] at he
            rw [he]; exact hv
theorem workF_ok {F : Flt} {a : Msg} (hO : Ok N F) (hav : a.vec.length ≤ 1000000) : Ok (N + 1) (workF F a) := by
  obtain ⟨n1, n2, n3⟩ := nodeP_ok hO hav
  have hbl : (workF F a).bag.length ≤ 1000000 := by
    simp only [workF]; split
    · exact sendB_len hO.f0.bag
    · exact hO.f0.bag
  have hbs : ∀ s ∈ (workF F a).bag, s.length ≤ 100000 := by
    simp only [workF]; split
    · exact sendB_s hO.bags
    · exact hO.bags
  refine ⟨⟨hO.f0.m, hO.f0.toks, hO.f0.ntok, hO.f0.ph, hbl⟩, fun hc => ⟨(hO.f1 hc).na, (hO.f1 hc).nd, (hO.f1 hc).np, (hO.f1 hc).tok, (hO.f1 hc).toks, (hO.f1 hc).ntok, (hO.f1 hc).ph, hbl⟩, hO.ans, ?_, hbs, by simp [workF, hO.led5]⟩
  intro l hl
  simp only [workF] at hl
  rcases List.mem_or_eq_of_mem_set hl with hl | rfl
  · have := hO.led l hl; exact ⟨by omega, this.2⟩
  · exact ⟨n1, n2⟩
theorem Ok.up {F : Flt} (h : Ok N F) : Ok (N + 1) F := ⟨h.f0, h.f1, h.ans, fun l hl => ⟨by have := (h.led l hl).1; omega, (h.led l hl).2⟩, h.bags, h.led5⟩
/-- The ledger's value of a node. -/
def Vs.at (v : Vs) : Nat → V
  | 0 => v.l0 | 1 => v.l1 | 2 => v.l2 | 3 => v.l3 | _ => v.l4
def Vs.put (v : Vs) (n : Nat) (x : V) : Vs := match n with
  | 0 => { v with l0 := x } | 1 => { v with l1 := x } | 2 => { v with l2 := x } | 3 => { v with l3 := x } | _ => { v with l4 := x }
theorem vs_put {F : Flt} {v : Vs} {n : Nat} (hn : n < 5) (hV : VsOk F v) (h5 : F.led.length = 5) (l : List Ent) : VsOk { F with led := F.led.set n l } (v.put n (.t (enl l))) := by
  obtain ⟨o0, o1, o2, o3, o4, o5, o6⟩ := hV
  obtain ⟨m, pe, ph, led, bag, toks, at_, parts, ans, answd⟩ := F
  simp only at h5 o0 o1 o2 o3 o4 o5 o6
  match led, h5 with
  | [a0, a1, a2, a3, a4], _ =>
    match n, hn with
    | 0, _ => exact ⟨rd_t _, o1, o2, o3, o4, o5, o6⟩
    | 1, _ => exact ⟨o0, rd_t _, o2, o3, o4, o5, o6⟩
    | 2, _ => exact ⟨o0, o1, rd_t _, o3, o4, o5, o6⟩
    | 3, _ => exact ⟨o0, o1, o2, rd_t _, o4, o5, o6⟩
    | 4, _ => exact ⟨o0, o1, o2, o3, rd_t _, o5, o6⟩
theorem vs_at {F : Flt} {v : Vs} {n : Nat} (hn : n < 5) (hV : VsOk F v) : Rd (v.at n) (enl (F.led.getD n [])) := by
  obtain ⟨o0, o1, o2, o3, o4, o5, o6⟩ := hV
  match n, hn with
  | 0, _ => exact o0
  | 1, _ => exact o1
  | 2, _ => exact o2
  | 3, _ => exact o3
  | 4, _ => exact o4
end Go.Proofs.Ytbocnaoihepjfaa.Pv
end

section
/- What a fleet's Deliver tells: the node's regions. -/
namespace Go.Proofs.Ytbocnaoihepjfaa.Pv
open Go Go.Pev
variable {N : Nat}

/-- The cells after a node's ledger was laid anew. -/
def lcs (n : Nat) (x d ly pe ph l0 l1 l2 l3 l4 vb tk at_ vp va vd : V) : List V := match n with
  | 1 => [d, ly, pe, ph, l0, x, l2, l3, l4, vb, tk, at_, vp, va, vd]
  | 2 => [d, ly, pe, ph, l0, l1, x, l3, l4, vb, tk, at_, vp, va, vd]
  | 3 => [d, ly, pe, ph, l0, l1, l2, x, l4, vb, tk, at_, vp, va, vd]
  | _ => [d, ly, pe, ph, l0, l1, l2, l3, x, vb, tk, at_, vp, va, vd]
def lsel (n : Nat) (l1 l2 l3 l4 : V) : V := match n with
  | 1 => l1 | 2 => l2 | 3 => l3 | _ => l4
def wst : Pc := .seq f17r10 (.seq f17r11 f17r12)
set_option maxHeartbeats 2000000 in
theorem wst1 {h : HP} {cf c8 ck : Nat} {d ly pe ph l0 l1 l2 l3 l4 vb tk at_ vp va vd : V} {a o : Msg} {L : T} {is : Bool} (hg : h.get ⟨34, cf, 5⟩ = some (.box 61 [d, ly, pe, ph, l0, l1, l2, l3, l4, vb, tk, at_, vp, va, vd])) (h8 : h.get ⟨8, c8, 5⟩ = some (mbox a)) (ht : a.to = 1) (hW : callQ (runL cfg) 34 [.ag [d, ly], .ag [pe, ph], iv 1, l1, msgV a] h = some (.tu [.t L, msgV o, bv is])) (hl : cf < ck) :
    ∃ e, evL cfg wst ⟨[(0, .pt ⟨34, cf, 5⟩ 15 0 0), (8, .pt ⟨8, c8, 5⟩ 11 0 0), (44, bv true)], h, ck⟩ = some (.normal, ⟨(0, .pt ⟨34, cf, 5⟩ 15 0 0) :: (11, .pt ⟨11, ck, 23⟩ 11 0 0) :: (78, bv is) :: e, HP.put ((⟨11, ck, 23⟩, mbox o) :: h) ⟨34, cf, 5⟩ ⟨34, cf, 5⟩ (.box 61 (lcs 1 (.t L) d ly pe ph l0 l1 l2 l3 l4 vb tk at_ vp va vd)), ck + 1 + 1 + 1⟩) := by
  unfold wst
  simp only [msgV, il, iv, bv] at hW
  simp only [mbox, il, iv, ht] at h8
  rw [ht] at hW
  simp [hg, h8, hW, filt_t, lcs, mbox, HP.put, over]
set_option maxHeartbeats 2000000 in
theorem wst2 {h : HP} {cf c8 ck : Nat} {d ly pe ph l0 l1 l2 l3 l4 vb tk at_ vp va vd : V} {a o : Msg} {L : T} {is : Bool} (hg : h.get ⟨34, cf, 5⟩ = some (.box 61 [d, ly, pe, ph, l0, l1, l2, l3, l4, vb, tk, at_, vp, va, vd])) (h8 : h.get ⟨8, c8, 5⟩ = some (mbox a)) (ht : a.to = 2) (hW : callQ (runL cfg) 34 [.ag [d, ly], .ag [pe, ph], iv 2, l2, msgV a] h = some (.tu [.t L, msgV o, bv is])) (hl : cf < ck) :
    ∃ e, evL cfg wst ⟨[(0, .pt ⟨34, cf, 5⟩ 15 0 0), (8, .pt ⟨8, c8, 5⟩ 11 0 0), (44, bv true)], h, ck⟩ = some (.normal, ⟨(0, .pt ⟨34, cf, 5⟩ 15 0 0) :: (11, .pt ⟨11, ck, 23⟩ 11 0 0) :: (78, bv is) :: e, HP.put ((⟨11, ck, 23⟩, mbox o) :: h) ⟨34, cf, 5⟩ ⟨34, cf, 5⟩ (.box 61 (lcs 2 (.t L) d ly pe ph l0 l1 l2 l3 l4 vb tk at_ vp va vd)), ck + 1 + 1 + 1⟩) := by
  unfold wst
  simp only [msgV, il, iv, bv] at hW
  simp only [mbox, il, iv, ht] at h8
  rw [ht] at hW
  simp [hg, h8, hW, filt_t, lcs, mbox, HP.put, over]
set_option maxHeartbeats 2000000 in
theorem wst3 {h : HP} {cf c8 ck : Nat} {d ly pe ph l0 l1 l2 l3 l4 vb tk at_ vp va vd : V} {a o : Msg} {L : T} {is : Bool} (hg : h.get ⟨34, cf, 5⟩ = some (.box 61 [d, ly, pe, ph, l0, l1, l2, l3, l4, vb, tk, at_, vp, va, vd])) (h8 : h.get ⟨8, c8, 5⟩ = some (mbox a)) (ht : a.to = 3) (hW : callQ (runL cfg) 34 [.ag [d, ly], .ag [pe, ph], iv 3, l3, msgV a] h = some (.tu [.t L, msgV o, bv is])) (hl : cf < ck) :
    ∃ e, evL cfg wst ⟨[(0, .pt ⟨34, cf, 5⟩ 15 0 0), (8, .pt ⟨8, c8, 5⟩ 11 0 0), (44, bv true)], h, ck⟩ = some (.normal, ⟨(0, .pt ⟨34, cf, 5⟩ 15 0 0) :: (11, .pt ⟨11, ck, 23⟩ 11 0 0) :: (78, bv is) :: e, HP.put ((⟨11, ck, 23⟩, mbox o) :: h) ⟨34, cf, 5⟩ ⟨34, cf, 5⟩ (.box 61 (lcs 3 (.t L) d ly pe ph l0 l1 l2 l3 l4 vb tk at_ vp va vd)), ck + 1 + 1 + 1⟩) := by
  unfold wst
  simp only [msgV, il, iv, bv] at hW
  simp only [mbox, il, iv, ht] at h8
  rw [ht] at hW
  simp [hg, h8, hW, filt_t, lcs, mbox, HP.put, over]
set_option maxHeartbeats 2000000 in
theorem wst4 {h : HP} {cf c8 ck : Nat} {d ly pe ph l0 l1 l2 l3 l4 vb tk at_ vp va vd : V} {a o : Msg} {L : T} {is : Bool} (hg : h.get ⟨34, cf, 5⟩ = some (.box 61 [d, ly, pe, ph, l0, l1, l2, l3, l4, vb, tk, at_, vp, va, vd])) (h8 : h.get ⟨8, c8, 5⟩ = some (mbox a)) (ht : a.to = 4) (hW : callQ (runL cfg) 34 [.ag [d, ly], .ag [pe, ph], iv 4, l4, msgV a] h = some (.tu [.t L, msgV o, bv is])) (hl : cf < ck) :
    ∃ e, evL cfg wst ⟨[(0, .pt ⟨34, cf, 5⟩ 15 0 0), (8, .pt ⟨8, c8, 5⟩ 11 0 0), (44, bv true)], h, ck⟩ = some (.normal, ⟨(0, .pt ⟨34, cf, 5⟩ 15 0 0) :: (11, .pt ⟨11, ck, 23⟩ 11 0 0) :: (78, bv is) :: e, HP.put ((⟨11, ck, 23⟩, mbox o) :: h) ⟨34, cf, 5⟩ ⟨34, cf, 5⟩ (.box 61 (lcs 4 (.t L) d ly pe ph l0 l1 l2 l3 l4 vb tk at_ vp va vd)), ck + 1 + 1 + 1⟩) := by
  unfold wst
  simp only [msgV, il, iv, bv] at hW
  simp only [mbox, il, iv, ht] at h8
  rw [ht] at hW
  simp [hg, h8, hW, filt_t, lcs, mbox, HP.put, over]
end Go.Proofs.Ytbocnaoihepjfaa.Pv
end

section
/- What a fleet's Deliver tells. -/
namespace Go.Proofs.Ytbocnaoihepjfaa.Pv
open Go Go.Pev
variable {N : Nat}

theorem vs_same {v : Vs} {n : Nat} (hn : n < 5) (x : V) : (v.put n x).vp = v.vp ∧ (v.put n x).va = v.va ∧ (v.put n x).vd = v.vd := by
  match n, hn with
  | 0, _ => exact ⟨rfl, rfl, rfl⟩
  | 1, _ => exact ⟨rfl, rfl, rfl⟩
  | 2, _ => exact ⟨rfl, rfl, rfl⟩
  | 3, _ => exact ⟨rfl, rfl, rfl⟩
  | 4, _ => exact ⟨rfl, rfl, rfl⟩
theorem fcs_lcs {F : Flt} {v : Vs} {n : Nat} (h1 : 1 ≤ n) (h4 : n ≤ 4) (x : V) (l : List (List Ent)) : fcs { F with led := l } (v.put n x) = lcs n x (iv F.m.dim) (.t (laysT F.m)) (iv F.pe) (.t (gl F.ph)) v.l0 v.l1 v.l2 v.l3 v.l4 v.vb (.t (gl F.toks)) (iv F.at_) v.vp v.va v.vd := by
  match n, h1, h4 with
  | 1, _, _ => rfl
  | 2, _, _ => rfl
  | 3, _, _ => rfl
  | 4, _, _ => rfl
theorem wst_all {h : HP} {cf c8 ck : Nat} {d ly pe ph l0 l1 l2 l3 l4 vb tk at_ vp va vd : V} {a o : Msg} {L : T} {is : Bool} {n : Nat} (h1 : 1 ≤ n) (h4 : n ≤ 4) (hg : h.get ⟨34, cf, 5⟩ = some (.box 61 [d, ly, pe, ph, l0, l1, l2, l3, l4, vb, tk, at_, vp, va, vd])) (h8 : h.get ⟨8, c8, 5⟩ = some (mbox a)) (ht : a.to = n) (hW : callQ (runL cfg) 34 [.ag [d, ly], .ag [pe, ph], iv n, lsel n l1 l2 l3 l4, msgV a] h = some (.tu [.t L, msgV o, bv is])) (hl : cf < ck) :
    ∃ e, evL cfg wst ⟨[(0, .pt ⟨34, cf, 5⟩ 15 0 0), (8, .pt ⟨8, c8, 5⟩ 11 0 0), (44, bv true)], h, ck⟩ = some (.normal, ⟨(0, .pt ⟨34, cf, 5⟩ 15 0 0) :: (11, .pt ⟨11, ck, 23⟩ 11 0 0) :: (78, bv is) :: e, HP.put ((⟨11, ck, 23⟩, mbox o) :: h) ⟨34, cf, 5⟩ ⟨34, cf, 5⟩ (.box 61 (lcs n (.t L) d ly pe ph l0 l1 l2 l3 l4 vb tk at_ vp va vd)), ck + 1 + 1 + 1⟩) := by
  match n, h1, h4 with
  | 1, _, _ => exact wst1 hg h8 ht hW hl
  | 2, _, _ => exact wst2 hg h8 ht hW hl
  | 3, _, _ => exact wst3 hg h8 ht hW hl
  | 4, _, _ => exact wst4 hg h8 ht hW hl
def wtl : Pc := .cond (.tmp 78) f17r13 .skip
/-- The heap after the node's work. -/
theorem flb_work {h : HP} {cf ck : Nat} {F : Flt} {v : Vs} {n : Nat} (h1 : 1 ≤ n) (h4 : n ≤ 4) (hB : FlB h cf F v) (h5 : F.led.length = 5) (hl : cf < ck) (l : List Ent) (ob : Ob) : ∃ v' : Vs, FlB (HP.put ((⟨11, ck, 23⟩, ob) :: h) ⟨34, cf, 5⟩ ⟨34, cf, 5⟩ (.box 61 (lcs n (.t (enl l)) (iv F.m.dim) (.t (laysT F.m)) (iv F.pe) (.t (gl F.ph)) v.l0 v.l1 v.l2 v.l3 v.l4 v.vb (.t (gl F.toks)) (iv F.at_) v.vp v.va v.vd))) cf { F with led := F.led.set n l } v' ∧ v'.vp = v.vp ∧ v'.va = v.va ∧ v'.vd = v.vd := by
  obtain ⟨q1, q2, q3⟩ := vs_same (v := v) (n := n) (by omega) (.t (enl l))
  refine ⟨v.put n (.t (enl l)), ⟨?_, vs_put (by omega) hB.2 h5 l⟩, q1, q2, q3⟩
  rw [fcs_lcs h1 h4, hp_get_put, if_pos rfl, get_new (q := ⟨34, cf, 5⟩) hl, hB.1]
  rfl
theorem lsel_at {v : Vs} {n : Nat} (h1 : 1 ≤ n) (h4 : n ≤ 4) : lsel n v.l1 v.l2 v.l3 v.l4 = v.at n := by
  match n, h1, h4 with
  | 1, _, _ => rfl
  | 2, _, _ => rfl
  | 3, _, _ => rfl
  | 4, _, _ => rfl
theorem wtl_run {h : HP} {cf ck c11 : Nat} {F : Flt} {v : Vs} (hB : FlB h cf F v) (o : Msg) (h11 : h.get ⟨11, c11, 23⟩ = some (mbox o)) (is : Bool) (e : List (Nat × V)) (hb : F.bag.length ≤ 1000000) (hv : o.vec.length ≤ 1000000) :
    ∃ h' ck' vb e', evL cfg wtl ⟨(0, .pt ⟨34, cf, 5⟩ 15 0 0) :: (11, .pt ⟨11, c11, 23⟩ 11 0 0) :: (78, bv is) :: e, h, ck⟩ = some (.normal, ⟨e', h', ck'⟩) ∧ ck ≤ ck' ∧ FlB h' cf { F with bag := if is then sendB F.bag o else F.bag } { v with vb := vb } ∧ ∀ q, q.c < ck → q ≠ ⟨34, cf, 5⟩ → h'.get q = h.get q := by
  unfold wtl
  cases is with
  | false => exact ⟨h, ck, v.vb, _, by simp [bv]; rfl, Nat.le_refl _, hB, fun _ _ _ => rfl⟩
  | true =>
    obtain ⟨h3, ck3, vb3, hrun, hle, hB3, hfr3⟩ := send_run (ck := ck + 1) o hB hb hv
    have hS := fun e k => callEv_h (C := cfg) (s := ⟨e, h, ck⟩) rfl hrun k
    refine ⟨h3, ck3 + 1 + 1, vb3, [], ?_, by omega, hB3, fun q hq hk => hfr3 q (by omega) hk⟩
    simp only [mbox, il, iv] at h11
    simp only [msgV, il, iv] at hS
    simp [bv, h11, hS, filt_t]
theorem work_stage {h : HP} {cf ck c8 : Nat} {F : Flt} {v : Vs} (a : Msg) (hB : FlB h cf F v) (hO : Ok N F) (hN : N ≤ 800000) (hav : a.vec.length ≤ 1000000) (h0 : 1 ≤ a.to) (h4 : a.to ≤ 4) (h8 : h.get ⟨8, c8, 5⟩ = some (mbox a)) (hl : cf < ck) :
    ∃ e s, evL cfg wst ⟨[(0, .pt ⟨34, cf, 5⟩ 15 0 0), (8, .pt ⟨8, c8, 5⟩ 11 0 0), (44, bv true)], h, ck⟩ = some (.normal, s) ∧ ∃ h' ck' v', evL cfg wtl s = some (.normal, ⟨e, h', ck'⟩) ∧ ck ≤ ck' ∧ FlB h' cf (workF F a) v' ∧ v'.vp = v.vp ∧ v'.va = v.va ∧ v'.vd = v.vd ∧ ∀ q, q.c < ck → q ≠ ⟨34, cf, 5⟩ → h'.get q = h.get q := by
  obtain ⟨n, hn2⟩ : ∃ n : Nat, a.to = n := ⟨a.to.toNat, by omega⟩
  have hn1 : 1 ≤ n := by omega
  have hn4 : n ≤ 4 := by omega
  have hlok : (F.led.getD n []).length ≤ N ∧ ∀ e ∈ F.led.getD n [], e.vec.length ≤ 1000000 := by
    have hlt : n < F.led.length := by rw [hO.led5]; omega
    have : F.led.getD n [] = F.led[n] := by simp [List.getD_eq_getElem?_getD, hlt]
    rw [this]; exact hO.led _ (List.getElem_mem hlt)
  have hW := fun hp => callQ_rd (C := cfg) (args := [modV F.m, mapV F.pe F.ph, iv a.to, v.at n, msgV a]) (work_ret F.m F.pe F.ph a.to (F.led.getD n []) a hO.f0.m hO.f0.ph.1 (fun r hr => by have := hO.f0.ph.2 r hr; omega) (by omega) (by omega) hlok.2) (rdA_ag (cs := [.i .i64 F.m.dim, laysT F.m]) (rdA_ag (cs := [.i .i64 F.pe, gl F.ph]) (rdA_t (rdA_v (vs_at (by omega) hB.2) (rdA_ag (cs := msgC a) rdA_nil))))) hp
  have hnp : nodeP F a = workP F.m F.pe F.ph a.to (F.led.getD n []) a := by unfold nodeP ledAt; rw [hn2]; rfl
  obtain ⟨n1, n2, n3⟩ := nodeP_ok hO (a := a) hav
  unfold workF
  have hto : a.to.toNat = n := by omega
  rw [hto]
  rw [← hnp] at hW
  generalize nodeP F a = r at *
  obtain ⟨L, out, is⟩ := r
  simp only at hW n1 n2 n3 ⊢
  rw [hn2, ← lsel_at hn1 hn4] at hW
  obtain ⟨e, he⟩ := wst_all hn1 hn4 hB.1 h8 hn2 (hW _) hl
  obtain ⟨v2, hB2, q1, q2, q3⟩ := flb_work hn1 hn4 hB hO.led5 hl L (mbox out)
  have h11 : HP.get (HP.put ((⟨11, ck, 23⟩, mbox out) :: h) ⟨34, cf, 5⟩ ⟨34, cf, 5⟩ (.box 61 (lcs n (.t (enl L)) (iv F.m.dim) (.t (laysT F.m)) (iv F.pe) (.t (gl F.ph)) v.l0 v.l1 v.l2 v.l3 v.l4 v.vb (.t (gl F.toks)) (iv F.at_) v.vp v.va v.vd))) ⟨11, ck, 23⟩ = some (mbox out) := by
    rw [get_put_ne (by simp)]; simp [HP.get]
  obtain ⟨h3, ck3, vb3, e3, hrun, hle, hB3, hfr3⟩ := wtl_run (ck := ck + 1 + 1 + 1) hB2 out h11 is e hO.f0.bag n3
  refine ⟨e3, _, he, h3, ck3, _, hrun, by omega, hB3, q1, q2, q3, fun q hq hk => ?_⟩
  rw [hfr3 q (by omega) hk, get_put_ne hk, get_new hq]
end Go.Proofs.Ytbocnaoihepjfaa.Pv
end

section
/- What a fleet's Deliver tells, whole. -/
namespace Go.Proofs.Ytbocnaoihepjfaa.Pv
open Go Go.Pev
variable {N : Nat}

theorem evL_pre {C : Cfg} {a b c x : Pc} {s s' : St} (h : evL C (.seq a (.seq b c)) s = some (.normal, s')) : evL C (.seq a (.seq b (.seq c x))) s = evL C x s' := by
  have key : ∀ (r : Option (Ex × St)) (f : St → Option (Ex × St)) (t : Option (Ex × St)), thenC r f = t → ∀ s', t = some (.normal, s') → ∃ s1, r = some (.normal, s1) ∧ f s1 = some (.normal, s') := by
    intro r f t h s' ht
    subst ht
    cases r with
    | none => simp [thenC] at h
    | some r =>
      obtain ⟨o, s1⟩ := r
      cases o with
      | normal => exact ⟨s1, rfl, h⟩
      | _ => simp [thenC] at h
  rw [evL_seq] at h
  obtain ⟨s1, e1, h⟩ := key _ _ _ h _ rfl
  rw [evL_seq] at h
  obtain ⟨s2, e2, h⟩ := key _ _ _ h _ rfl
  rw [evL_seq, e1]
  show evL C _ s1 = _
  rw [evL_seq, e2]
  show evL C _ s2 = _
  rw [evL_seq, h]
  rfl
def dvW : Pc := .seq f17r10 (.seq f17r11 (.seq f17r12 wtl))
theorem dvW_run {h : HP} {cf ck c8 : Nat} {F : Flt} {v : Vs} (a : Msg) (hB : FlB h cf F v) (hO : Ok N F) (hN : N ≤ 800000) (hav : a.vec.length ≤ 1000000) (h0 : 1 ≤ a.to) (h4 : a.to ≤ 4) (h8 : h.get ⟨8, c8, 5⟩ = some (mbox a)) (hl : cf < ck) :
    ∃ e h' ck' v', evL cfg dvW ⟨[(0, .pt ⟨34, cf, 5⟩ 15 0 0), (8, .pt ⟨8, c8, 5⟩ 11 0 0), (44, bv true)], h, ck⟩ = some (.normal, ⟨e, h', ck'⟩) ∧ ck ≤ ck' ∧ FlB h' cf (workF F a) v' ∧ v'.vp = v.vp ∧ v'.va = v.va ∧ v'.vd = v.vd ∧ ∀ q, q.c < ck → q ≠ ⟨34, cf, 5⟩ → h'.get q = h.get q := by
  obtain ⟨e, s, hs, h', ck', v', ht, r⟩ := work_stage (N := N) a hB hO hN hav h0 h4 h8 hl
  exact ⟨e, h', ck', v', (evL_pre hs).trans ht, r⟩
def dvK : Pc := .block 0 (.seq f17r6 (.cond (.tmp 34) .skip (.seq f17r7 (.cond (.tmp 37) f17r8 (.seq f17r9 (.cond (.tmp 44) dvW .skip))))))
abbrev dvB : Pc := (.seq f17r0 (.seq f17r1 (.seq (.seq f17r2 (.cond (.tmp 24) (.seq f17r3 .ret) .skip)) (.seq f17r4 (.seq f17r5 (.seq dvK (.seq f17r14 .ret)))))))
def gotM (F : Flt) (a : Msg) (st : Int) : Flt := if st ≠ 0 then F else if a.to = 0 then answerP F a else if a.to ≤ 4 then workF F a else F
theorem ran_in {h h' : HP} {ck cf ca cb ck1 ck2 ck' ca' cb' : Nat} (r : Ran h ck1 cf ca cb h' ck2 ca' cb') (h1 : ck ≤ ck1) (h2 : ck2 ≤ ck') : Ran h ck cf ca cb h' ck' ca' cb' := by
  have := r.le
  refine ⟨by omega, fun q hq a b c => r.fr q (by omega) a b c, ?_, ?_⟩
  · rcases r.ca with e | e
    · exact .inl e
    · exact .inr (by omega)
  · rcases r.cb with e | e
    · exact .inl e
    · exact .inr (by omega)
theorem dvK_run {h : HP} {ck cf ca cb c8 : Nat} {F : Flt} (a : Msg) (st : Int) (hS : FlS h ck cf ca cb F) (hO : Ok N F) (hN : N ≤ 800000) (hav : a.vec.length ≤ 1000000) (hto : st = 0 → 0 ≤ a.to) (h8 : h.get ⟨8, c8, 5⟩ = some (mbox a)) : ∃ e h' ck' ca' cb', evL cfg dvK ⟨[(0, .pt ⟨34, cf, 5⟩ 15 0 0), (8, .pt ⟨8, c8, 5⟩ 11 0 0), (9, iv st)], h, ck⟩ = some (.normal, ⟨e, h', ck'⟩) ∧ FlS h' ck' cf ca' cb' (gotM F a st) ∧ Ok (N + 1) (gotM F a st) ∧ Ran h ck cf ca cb h' ck' ca' cb' := by
  unfold dvK gotM
  have h8' := h8
  simp only [mbox, il, iv] at h8'
  by_cases c1 : st = 0
  case neg =>
    rw [if_pos c1]
    refine ⟨[(0, .pt ⟨34, cf, 5⟩ 15 0 0), (8, .pt ⟨8, c8, 5⟩ 11 0 0), (34, bv true)], h, ck + 1, ca, cb, ?_, fls_le hS (by omega), hO.up, Ran.to (by omega) fun _ _ _ => rfl⟩
    have b1 : (st != 0) = true := by simpa using c1
    simp [b1, bv, filt_t]
  have h0 := hto c1
  rw [if_neg (by simpa using c1)]
  subst c1
  by_cases c2 : a.to = 0
  · rw [if_pos c2]
    obtain ⟨h3, ck3, ca3, cb3, hrun, hS3, hO3, hR3⟩ := answer_run (ck := ck + 1 + 1 + 1) a (fls_le hS (by omega)) hO hav
    have hA := fun e k => callEv_h (C := cfg) (s := ⟨e, h, ck + 1 + 1⟩) rfl hrun k
    have b2 : (a.to == 0) = true := by simpa using c2
    refine ⟨[], h3, ck3 + 2, ca3, cb3, ?_, fls_le hS3 (by omega), hO3.up, ran_in hR3 (by omega) (by omega)⟩
    simp only [msgV, il, iv] at hA
    simp [h8', hA, b2, filt_t]
  rw [if_neg c2]
  have b2 : (a.to == 0) = false := by simpa using c2
  by_cases c3 : a.to ≤ 4
  · rw [if_pos c3]
    obtain ⟨v, hB, l1, l2, l3, hr⟩ := hS
    obtain ⟨e3, h3, ck3, v3, hrun, hle, hB3, q1, q2, q3, hfr⟩ := dvW_run (ck := ck + 1 + 1 + 1) a hB hO hN hav (by omega) c3 h8 (by omega)
    refine ⟨e3, h3, ck3, ca, cb, ?_, ⟨v3, hB3, by omega, by omega, by omega, fun hc => ?_⟩, workF_ok hO hav, ⟨by omega, fun q hq h1 _ _ => hfr q (by omega) h1, .inl rfl, .inl rfl⟩⟩
    · simp only [bv] at hrun
      simp [h8', b2, c3, filt_t, hrun]
    · obtain ⟨r1, r2, r3, r4, r5⟩ := hr hc
      exact ⟨by rw [q1, r1]; rfl, by rw [q2, r2]; rfl, by rw [q3, r3]; rfl, by rw [hfr _ (by simp only; omega) (by simp)]; exact r4, by rw [hfr _ (by simp only; omega) (by simp)]; exact r5⟩
  · rw [if_neg c3]
    refine ⟨[(0, .pt ⟨34, cf, 5⟩ 15 0 0), (8, .pt ⟨8, c8, 5⟩ 11 0 0), (44, bv false)], h, ck + 3, ca, cb, ?_, fls_le hS (by omega), hO.up, Ran.to (by omega) fun _ _ _ => rfl⟩
    simp [bv, h8', b2, c3, filt_t]
end Go.Proofs.Ytbocnaoihepjfaa.Pv
end

section
/- What a fleet's Deliver tells, whole. -/
namespace Go.Proofs.Ytbocnaoihepjfaa.Pv
open Go Go.Pev
variable {N : Nat}

theorem ran_mid {h h' : HP} {ck cf ca cb ck' ca' cb' : Nat} {ob ob2 : Ob} (r : Ran ((⟨8, ck + 4, 5⟩, ob2) :: h.put ⟨34, cf, 5⟩ ⟨34, cf, 5⟩ ob) (ck + 5) cf ca cb h' ck' ca' cb') : Ran h ck cf ca cb h' ck' ca' cb' := by
  have := r.le
  refine ⟨by omega, fun q hq a b c => ?_, ?_, ?_⟩
  · rw [r.fr q (by omega) a b c, get_new (by omega), get_put_ne a]
  · rcases r.ca with e | e
    · exact .inl e
    · exact .inr (by omega)
  · rcases r.cb with e | e
    · exact .inl e
    · exact .inr (by omega)
theorem deliver_run {h : HP} {ck cf ca cb : Nat} {F : Flt} (i : Int) (hS : FlS h ck cf ca cb F) (hO : Ok N F) (hN : N ≤ 800000) : ∃ h' ck' ca' cb', runL cfg 17 [.pt ⟨34, cf, 5⟩ 15 0 0, iv i] h ck = some (iv (delvP F i).2, h', ck') ∧ FlS h' ck' cf ca' cb' (delvP F i).1 ∧ Ok (N + 1) (delvP F i).1 ∧ Ran h ck cf ca cb h' ck' ca' cb' := by
  have hS0 := hS
  obtain ⟨v, hB, l1, l2, l3, hr⟩ := hS
  have hg := hB.1
  obtain ⟨o0, o1, o2, o3, o4, o5, o6⟩ := hB.2
  have hT := fun s k => callEv_rd (C := cfg) (btake_ret F.bag i hO.f0.bag) rfl rfl (rdA_v o5 (rdA_t rdA_nil)) s k
  obtain ⟨t1, t2, t3⟩ := take_s (i := i) hO.bags
  unfold delvP
  generalize bagTake F.bag i = r at *
  obtain ⟨s, rest, ok⟩ := r
  simp only at t1 t2 t3 hT ⊢
  rw [runL_pf (fn := ⟨2, 82, [.tmp 4], dvB⟩) rfl rfl]
  simp only [iv, bv] at hT
  cases ok with
  | false =>
    refine ⟨h, ck + 4, ca, cb, ?_, fls_le hS0 (by omega), hO.up, Ran.to (by omega) fun _ _ _ => rfl⟩
    simp only [fcs] at hg
    simp [dvB, hg, hT, filt_t]
  | true =>
    have hV : VsOk { F with bag := rest } { v with vb := .t (sl rest) } := ⟨o0, o1, o2, o3, o4, rd_t _, o6⟩
    have hS1 := fls_put hB l1 l2 l3 hr hV rfl rfl rfl rfl rfl rfl rfl rfl
    have hO1 : Ok N { F with bag := rest } := bag_ok hO (by have := hO.f0.bag; omega) t1
    have hk := fun t k => callEv_tr (C := cfg) (take_ret s t2) rfl rfl rfl t k
    have hav := takeP_vec s
    have htw : (takeP s).2 = 0 → 0 ≤ (takeP s).1.to := fun e => (wright_num (takeP_ok e)).2.2.2.2.2.2.1.1
    have hgm : gotP { F with bag := rest } s = gotM { F with bag := rest } (takeP s).1 (takeP s).2 := rfl
    simp only [↓reduceIte]
    rw [hgm]
    generalize takeP s = q at *
    obtain ⟨a, st⟩ := q
    simp only at hk hav htw ⊢
    obtain ⟨e, h3, ck3, ca3, cb3, hrun, hS3, hO3, hR3⟩ := dvK_run (c8 := ck + 4) (ck := ck + 5) (h := (⟨8, ck + 4, 5⟩, mbox a) :: h.put ⟨34, cf, 5⟩ ⟨34, cf, 5⟩ (.box 61 (fcs { F with bag := rest } { v with vb := .t (sl rest) }))) a st (fls_new hS1 (by decide) (by decide) (by decide) _ (by omega)) hO1 hN hav htw (by simp [HP.get])
    refine ⟨h3, ck3 + 1, ca3, cb3, ?_, fls_le hS3 (by omega), hO3, ?_⟩
    · simp only [msgV, il, iv] at hk
      simp only [mbox, fcs, il, iv] at hrun
      simp only [fcs, iv] at hg
      simp [dvB, hg, hT, hk, filt_t, over]
      simp [hrun]
    · refine ran_in (ck1 := ck) (ck2 := ck3) (ran_mid hR3) (by omega) (by omega)
end Go.Proofs.Ytbocnaoihepjfaa.Pv
end

section
/- What fleet.New tells. -/
namespace Go.Proofs.Ytbocnaoihepjfaa.Pv
open Go Go.Pev

def newF (m : Mod) (pe : Int) (ph ts : List (List Int)) : Flt := ⟨m, pe, ph, [[], [], [], [], []], [], ts, 0, [], [], []⟩
def newOk (m : Mod) (pe : Int) (ph ts : List (List Int)) : Bool := modRight m && tokRight m ts && right pe ph && m.lays.all fun l => !decide (ph.length < l.exps.length)
def startF (m : Mod) (pe : Int) (ph ts : List (List Int)) : Flt := comeP (beginP (newF m pe ph ts))
theorem new1_ret (l : Lay) (pe : Int) (ph : List (List Int)) : RetT cfg 22 [layV l, .pr [.i .i64 pe, gl ph]] (bv (decide (ph.length < l.exps.length))) := by
  refine RetT.of ?_
  rw [runL_pf (fn := f22) rfl rfl]
  by_cases c : ph.length < l.exps.length
  · have c' : ((l.exps.length : Int) > ph.length) := by omega
    simp [layV, gl, c]
  · simp [layV, gl, c]
theorem newc_ret (m : Mod) (pe : Int) (ph : List (List Int)) (h : FewM m) : RetT cfg 21 [.t (laysT m), .fn 22 [.pr [.i .i64 pe, gl ph]]] (bv (!(m.lays.all fun l => !decide (ph.length < l.exps.length)))) := by
  rw [List.not_all_eq_any_not]
  refine ctf_run (ix := 42) rfl rfl rfl rfl (fun _ => rfl) ?_
  refine ixf_run (ag := true) (sz := 3) layT _ layV rfl rfl (by simp [layT]) (by simp [layT, layV]) h.1 ?_
  intro l hl s k hs
  exact ⟨s.ck, by rw [callEv_cl (C := cfg) (new1_ret l pe ph) rfl rfl rfl s k (by simp [puresOf, pureOf, layV, treesOf, treeOf]), hs, Bool.not_not]; rfl⟩
theorem new_bad {m : Mod} {pe : Int} {ph ts : List (List Int)} (hm : FewM m) (ht : Few ts) (hp : ph.length ≤ 1000000 ∧ ∀ r ∈ ph, r.length ≤ 100000) (hb : newOk m pe ph ts = false) (h : HP) (ck : Nat) : ∃ h' ck', runL cfg 8 [modV m, mapV pe ph, .t (gl ts)] h ck = some (.tu [.t .np, iv 1], h', ck') ∧ ck ≤ ck' ∧ ∀ q, q.c < ck → h'.get q = h.get q := by
  have h1 := fun s k => callEv_tr (C := cfg) (mod_ret m hm) rfl rfl rfl s k
  have h2 := fun s k => callEv_tr (C := cfg) (tok_ret m ts ht) rfl rfl rfl s k
  have h3 := fun s k => callEv_tr (C := cfg) (pright_ret pe ph hp.1 (fun r hr => by have := hp.2 r hr; omega)) rfl rfl rfl s k
  have h4 := fun s k => callEv_fn (C := cfg) (caps0 := [.pt ⟨4, ck, 1⟩ 2 0 0]) (newc_ret m pe ph hm) rfl rfl rfl s k
  refine ⟨(⟨4, ck, 1⟩, .box 27 [iv pe, .t (gl ph)]) :: (⟨3, ck, 0⟩, .box 24 [iv m.dim, .t (laysT m)]) :: h, ck + 3, ?_, by omega, fun q hq => by rw [get_new hq, get_new hq]⟩
  rw [runL_pf (fn := f8) rfl rfl]
  unfold newOk at hb
  simp only [modV, mapV, gl, iv, bv, laysT] at h1 h2 h3 h4
  generalize modRight m = b1 at *
  generalize tokRight m ts = b2 at *
  generalize right pe ph = b3 at *
  generalize (m.lays.all fun l => !decide (ph.length < l.exps.length)) = b4 at *
  cases b1 with
  | false => simp [modV, mapV, laysT, gl, h1, filt_t]
  | true =>
  cases b2 with
  | false => simp [modV, mapV, laysT, gl, h1, h2, filt_t]
  | true =>
  cases b3 with
  | false => simp [modV, mapV, laysT, gl, h1, h2, h3, filt_t]
  | true =>
  cases b4 with
  | false => simp [modV, mapV, laysT, gl, h1, h2, h3, h4, filt_t, capsOf, capOf, treesOf, treeOf]
  | true => cases hb
end Go.Proofs.Ytbocnaoihepjfaa.Pv
end

section
/- The document's Right of the layer 17. -/
namespace Go.Proofs.Ytbocnaoihepjfaa.Pv
open Go Go.Pev
theorem rright_row (r : List Int) (i : V) (ty : Nat) (bx : List V) (hr : r.length ≤ 1000000) : ∀ (k j : Nat) (last : Int) (ck : Nat), j + k = r.length → ((j = 0 ∧ last = 0) ∨ (0 < j ∧ r[j - 1]? = some last ∧ 1 ≤ last)) → ∃ c, evL cfg (.loop f16l0) ⟨[(1, .pt ⟨1, 0, 0⟩ 2 0 0), (3, i), (4, .t (il r)), (5, iv j)], [(⟨1, 0, 0⟩, .box ty bx)], ck⟩ =
    some (if rowUp last (r.drop j) then (.exit 2, ⟨[(1, .pt ⟨1, 0, 0⟩ 2 0 0), (3, i), (4, .t (il r)), (5, iv r.length), (38, bv false)], [(⟨1, 0, 0⟩, .box ty bx)], c⟩) else (.ret, ⟨[(2, bv false)], [], c⟩)) := by
  intro k
  induction k with
  | zero =>
    intro j last ck h _
    obtain rfl : j = r.length := by omega
    refine ⟨ck + 1, ?_⟩
    rw [evL_loop]
    simp [f16l0e, rowUp]
  | succ k ih =>
    intro j last ck h hlast
    have hj : j < r.length := by omega
    have hw : IntKind.i64.wrap ((j : Int) + 1) = (j : Int) + 1 := wrap_id (by omega) (by omega)
    have hw2 : IntKind.i64.wrap ((j : Int) - 1) = (j : Int) - 1 := wrap_id (by omega) (by omega)
    rw [rowUp_at last hj]
    by_cases h1 : r[j] < 1
    · have h1' : ¬ last < r[j] := by rcases hlast with ⟨_, h⟩ | ⟨_, _, h⟩ <;> omega
      refine ⟨ck + 3, ?_⟩
      rw [evL_loop]
      simp [f16l0e, hj, h1, h1']
    · by_cases h2 : 4 < r[j]
      · have h2' : ¬ r[j] ≤ 4 := by omega
        refine ⟨ck + 3, ?_⟩
        rw [evL_loop]
        simp [f16l0e, hj, h1, h2, h2']
      · have h2' : r[j] ≤ 4 := by omega
        rcases hlast with ⟨rfl, rfl⟩ | ⟨h0, hl1, hl2⟩
        · obtain ⟨c, hc⟩ := ih 1 r[0] (ck + 3) (by omega) (.inr ⟨by omega, by simp [hj], by omega⟩)
          have h3 : (0 : Int) < r[0] := by omega
          refine ⟨c, ?_⟩
          rw [evL_loop_n (s1 := ⟨[(1, .pt ⟨1, 0, 0⟩ 2 0 0), (3, i), (4, .t (il r)), (5, iv ((1 : Nat) : Int))], [(⟨1, 0, 0⟩, .box ty bx)], ck + 3⟩), hc]
          · have h3d : decide ((0 : Int) < r[0]) = true := by simpa using h3
            have h2d : decide (r[0] ≤ 4) = true := by simpa using h2'
            rw [h3d, h2d, Bool.true_and, Bool.true_and]
          · simp at hw
            simp [f16l0e, hj, h1, h2, hw]
        · have h0' : (0 : Int) < j := by omega
          have h4 : (1 : Int) ≤ (j : Int) := by omega
          have h5 : ((j : Int) - 1).toNat = j - 1 := by omega
          have hj1 : j - 1 < r.length := by omega
          have hl1' : r[j - 1] = last := by rw [List.getElem?_eq_getElem hj1] at hl1; exact Option.some.inj hl1
          by_cases h3 : r[j] ≤ last
          · have h3' : ¬ last < r[j] := by omega
            refine ⟨ck + 3, ?_⟩
            rw [evL_loop]
            simp [f16l0e, hj, h1, h2, h0', h0, hw2, h4, h5, hj1, hl1', h3, h3']
          · have h3' : last < r[j] := by omega
            obtain ⟨c, hc⟩ := ih (j + 1) r[j] (ck + 3) (by omega) (.inr ⟨by omega, by simp [hj], by omega⟩)
            refine ⟨c, ?_⟩
            rw [evL_loop_n (s1 := ⟨[(1, .pt ⟨1, 0, 0⟩ 2 0 0), (3, i), (4, .t (il r)), (5, iv ((j + 1 : Nat) : Int))], [(⟨1, 0, 0⟩, .box ty bx)], ck + 3⟩), hc]
            · simp [h2', h3']
            · simp [f16l0e, hj, h1, h2, h0', h0, hw2, h4, h5, hj1, hl1', h3, hw]

theorem rright_rows (e : Int) (h : List (List Int)) (ty : Nat) (hh : h.length ≤ 1000000) (hr : ∀ r ∈ h, r.length ≤ 1000000) : ∀ (k i ck : Nat), i + k = h.length → ∃ c, evL cfg (.loop f16l1) ⟨[(1, .pt ⟨1, 0, 0⟩ 2 0 0), (3, iv i)], [(⟨1, 0, 0⟩, .box ty [iv e, .t (gl h)])], ck⟩ =
    some (if ((h.drop i).all fun r => rowUp 0 r && !r.isEmpty) then (.exit 0, ⟨[(1, .pt ⟨1, 0, 0⟩ 2 0 0), (3, iv h.length), (24, bv false)], [(⟨1, 0, 0⟩, .box ty [iv e, .t (gl h)])], c⟩) else (.ret, ⟨[(2, bv false)], [], c⟩)) := by
  intro k
  induction k with
  | zero =>
    intro i ck hk
    obtain rfl : i = h.length := by omega
    refine ⟨ck + 1, ?_⟩
    rw [evL_loop]
    simp [f16l1e, gl]
  | succ k ih =>
    intro i ck hk
    have hi : i < h.length := by omega
    have hw : IntKind.i64.wrap ((i : Int) + 1) = (i : Int) + 1 := wrap_id (by omega) (by omega)
    have hri := hr _ (List.getElem_mem hi)
    have hall : ((h.drop i).all fun r => rowUp 0 r && !r.isEmpty) = ((rowUp 0 h[i] && !h[i].isEmpty) && ((h.drop (i + 1)).all fun r => rowUp 0 r && !r.isEmpty)) := by
      rw [List.drop_eq_getElem_cons hi]; rfl
    by_cases h2 : h[i].length = 0
    · have h2' : h[i] = [] := List.eq_nil_of_length_eq_zero h2
      refine ⟨ck + 4, ?_⟩
      have hb : (((h[i].length : Nat) : Int) == 0) = true := by simp [h2]
      rw [evL_loop, hall, if_neg (by simp [h2'])]
      simp [f16l1e, gl, hi, hb]
    · have h2' : ¬ h[i] = [] := fun e => h2 (by rw [e]; rfl)
      have h2b : (((h[i].length : Nat) : Int) == 0) = false := by simp; exact h2'
      obtain ⟨c0, hc0⟩ := rright_row h[i] (iv i) ty [iv e, .t (gl h)] hri h[i].length 0 0 (ck + 4) (by omega) (.inl ⟨rfl, rfl⟩)
      simp only [List.drop_zero, gl, il, iv, bv, Int.natCast_zero] at hc0
      by_cases h1 : rowUp 0 h[i] = true
      · rw [if_pos h1] at hc0
        obtain ⟨c, hc⟩ := ih (i + 1) (c0 + 1) (by omega)
        refine ⟨c, ?_⟩
        rw [evL_loop_n (s1 := ⟨[(1, .pt ⟨1, 0, 0⟩ 2 0 0), (3, iv ((i + 1 : Nat) : Int))], [(⟨1, 0, 0⟩, .box ty [iv e, .t (gl h)])], c0 + 1⟩), hc]
        · rw [hall]; simp [h1, h2']
        · simp [f16l1e, gl, hi, hc0, h2b, hw]
      · rw [if_neg h1] at hc0
        refine ⟨c0, ?_⟩
        rw [evL_loop, hall]
        simp [f16l1e, gl, hi, hc0, h1, h2b]

theorem rright_ret (e : Int) (h : List (List Int)) (hh : h.length ≤ 1000000) (hr : ∀ r ∈ h, r.length ≤ 1000000) : RetT cfg 16 [.ag [iv e, .t (gl h)]] (bv (right e h)) := by
  obtain ⟨c, hc⟩ := rright_rows e h 31 hh hr h.length 0 3 (by omega)
  refine RetT.of ?_
  rw [runL_pf (fn := f16) rfl rfl]
  simp only [List.drop_zero, gl, il, iv, bv, Int.natCast_zero] at hc
  by_cases h2 : e < 0
  · have h2' : ¬ 0 ≤ e := by omega
    simp [gl, right, h2, h2']
  · have h2' : 0 ≤ e := by omega
    by_cases h3 : 2147483647 < e
    · have h3' : ¬ e ≤ 2147483647 := by omega
      simp [gl, right, h2, h3, h3']
    · have h3' : e ≤ 2147483647 := by omega
      by_cases h4 : (8 : Int) < h.length
      · have h4' : ¬ h.length ≤ 8 := by omega
        simp [gl, right, h2, h3, h4, h4']
      · have h4' : h.length ≤ 8 := by omega
        by_cases h1 : (h.all fun r => rowUp 0 r && !r.isEmpty) = true
        · rw [if_pos h1] at hc
          simp [gl, hc, right, h1, h2, h2', h3, h3', h4, h4']
        · rw [if_neg h1] at hc
          simp [gl, hc, right, h1, h2, h2', h3, h3', h4, h4']

end Go.Proofs.Ytbocnaoihepjfaa.Pv
end

section
/- What the document's May of the layer 19, Small of the layer 15 tell. -/
namespace Go.Proofs.Ytbocnaoihepjfaa.Pv
open Go Go.Pev

def smallX (x : Exp) : Bool := small x.inn && small x.out
def smallL (l : Lay) : Bool := decide (l.exps.length ≤ 9) && small l.gate && l.exps.all smallX
def smallM (m : Mod) : Bool := decide (m.lays.length ≤ 5) && m.lays.all smallL
theorem small_call (h : List (List Int)) (s : St) (k : Key) : callEv cfg (runL cfg) 5 [.t (gl h)] s k = some (bv (small h), s.hp, s.ck) := callEv_tr (C := cfg) (small_ret h) rfl rfl rfl s k
def sxI (xs : List Exp) (w0 w1 w2 : V) (i : Nat) (s : St) : Prop := Upto smallX xs i ∧ ∃ ck, s = ⟨[(12, w0), (13, w1), (14, w2), (29, .t (.l (xs.map exT))), (30, iv xs.length), (31, iv (i : Int))], [], ck⟩
def sxQ (xs : List Exp) (w0 w1 w2 : V) (E : Option (Ex × St)) : Prop :=
  (xs.all smallX = true ∧ ∃ ck, E = some (.exit 2, ⟨[(12, w0), (13, w1), (14, w2), (29, .t (.l (xs.map exT))), (30, iv xs.length), (31, iv xs.length), (32, bv false)], [], ck⟩)) ∨
  (xs.all smallX = false ∧ ∃ ck, E = some (.ret, ⟨[(2, bv false)], [], ck⟩))
theorem sx_loop (xs : List Exp) (w0 w1 w2 : V) (hl : xs.length ≤ 1000000) (ck : Nat) : sxQ xs w0 w1 w2 (evL cfg (.loop f4l0) ⟨[(12, w0), (13, w1), (14, w2), (29, .t (.l (xs.map exT))), (30, iv xs.length), (31, iv 0)], [], ck⟩) := by
  refine loop_q xs.length (sxI xs w0 w1 w2) ?_ ?_ _ ⟨upto0 _ _, ck, rfl⟩
  · rintro i s hi ⟨h1, ck, rfl⟩
    have hw : IntKind.i64.wrap ((i : Int) + 1) = (i : Int) + 1 := wrap_id (by omega) (by omega)
    have hr := small_call xs[i].inn
    have hr2 := small_call xs[i].out
    have hx : smallX xs[i] = (small xs[i].inn && small xs[i].out) := rfl
    simp only [gl, iv, bv] at hr hr2
    by_cases g : small xs[i].inn = true
    · by_cases g2 : small xs[i].out = true
      · simp [f4l0e, exT, gl, hi, hr, hr2, hw, g, g2, over]
        exact ⟨upto_s h1 hi (by rw [hx, g, g2]; rfl), _, rfl⟩
      · have g' : small xs[i].out = false := by simpa using g2
        simp [f4l0e, exT, gl, hi, hr, hr2, hw, g, g', over]
        exact .inr ⟨all_not hi (by rw [hx, g']; simp), _, rfl⟩
    · have g' : small xs[i].inn = false := by simpa using g
      simp [f4l0e, exT, gl, hi, hr, hr2, hw, g', over]
      exact .inr ⟨all_not hi (by rw [hx, g']; rfl), _, rfl⟩
  · rintro s ⟨h1, ck, rfl⟩
    simp [f4l0e]
    exact .inl ⟨upto_all h1, _, rfl⟩
def syI (m : Mod) (i : Nat) (s : St) : Prop := Upto smallL m.lays i ∧ ∃ ck, s = ⟨[(12, .t (laysT m)), (13, iv m.lays.length), (14, iv (i : Int))], [], ck⟩
theorem sm_loop (m : Mod) (h : m.lays.length ≤ 5) (ck : Nat) : ryQ (m.lays.all smallL) (evL cfg (.loop f4l1) ⟨[(12, .t (laysT m)), (13, iv m.lays.length), (14, iv 0)], [], ck⟩) := by
  refine loop_q m.lays.length (syI m) ?_ ?_ _ ⟨upto0 _ _, ck, rfl⟩
  · rintro i s hi ⟨h1, ck, rfl⟩
    have hw : IntKind.i64.wrap ((i : Int) + 1) = (i : Int) + 1 := wrap_id (by omega) (by omega)
    have hA := small_call m.lays[i].gate
    have hE := fun (hz : m.lays[i].exps.length ≤ 1000000) ck => sx_loop m.lays[i].exps (.t (laysT m)) (iv m.lays.length) (iv i) hz ck
    have hR : smallL m.lays[i] = (decide (m.lays[i].exps.length ≤ 9) && small m.lays[i].gate && m.lays[i].exps.all smallX) := rfl
    have hno : smallL m.lays[i] = false → (m.lays.all smallL) = false := fun e => all_not (p := smallL) hi e
    have hyes : smallL m.lays[i] = true → Upto smallL m.lays (i + 1) := fun e => upto_s h1 hi e
    generalize (m.lays.all smallL) = b at *
    generalize hli : m.lays[i] = l at *
    simp only [gl, iv, bv] at hA
    by_cases c1 : (9 : Int) < l.exps.length
    · have c1' : ¬ l.exps.length ≤ 9 := by omega
      simp [f4l1e, laysT, hli, hi, layT, c1, over]
      exact .inr ⟨hno (by simp [hR, c1']), _, _, rfl⟩
    have c1' : l.exps.length ≤ 9 := by omega
    by_cases c3 : small l.gate = true
    case neg =>
      have c3' : small l.gate = false := by simpa using c3
      simp [f4l1e, laysT, hli, hi, layT, c1, gl, hA, c3', over]
      exact .inr ⟨hno (by simp [hR, c3']), _, _, rfl⟩
    rcases hE (by omega) (ck + 1 + 1 + 1 + 1) with ⟨g, ck2, hc⟩ | ⟨g, ck2, hc⟩
    · simp [laysT] at hc
      simp [f4l1e, laysT, hli, hi, layT, c1, gl, hA, c3, hc, hw, over]
      exact ⟨hyes (by rw [hR, g]; simp [c1', c3]), _, rfl⟩
    · simp [laysT] at hc
      simp [f4l1e, laysT, hli, hi, layT, c1, gl, hA, c3, hc, hw, over]
      exact .inr ⟨hno (by rw [hR, g]; simp), _, _, rfl⟩
  · rintro s ⟨h1, ck, rfl⟩
    simp [f4l1e]
    exact .inl ⟨upto_all h1, _, _, _, rfl⟩
theorem smallM_ret (m : Mod) : RetT cfg 4 [modV m] (bv (smallM m)) := by
  have hL := sm_loop m
  refine RetT.of ?_
  rw [runL_pf (fn := f4) rfl rfl]
  unfold smallM modV
  generalize (m.lays.all smallL) = b at *
  by_cases c1 : (5 : Int) < m.lays.length
  · have c1' : ¬ m.lays.length ≤ 5 := by omega
    simp [laysT, c1, c1']
  have c1' : m.lays.length ≤ 5 := by omega
  rcases hL c1' 3 with ⟨rfl, e, hh, ck2, hc⟩ | ⟨rfl, hh, ck2, hc⟩
  · simp [laysT] at hc
    simp [laysT, c1, c1', hc]
  · simp [laysT] at hc
    simp [laysT, c1, c1', hc]
def myI (m : Mod) (pe : Int) (ph : List (List Int)) (i : Nat) (s : St) : Prop := Upto (fun l : Lay => !decide (ph.length < l.exps.length)) m.lays i ∧ ∃ ck, s = ⟨[(4, .pt ⟨4, 0, 1⟩ 2 0 0), (24, .t (laysT m)), (25, iv m.lays.length), (26, iv (i : Int))], [(⟨4, 0, 1⟩, .box 31 [iv pe, .t (gl ph)])], ck⟩
def myQ (b : Bool) (E : Option (Ex × St)) : Prop := (b = true ∧ ∃ h ck a c d e, E = some (.exit 0, ⟨[(4, .pt ⟨4, 0, 1⟩ 2 0 0), (24, a), (25, c), (26, d), (27, e)], h, ck⟩)) ∨ (b = false ∧ ∃ h ck, E = some (.ret, ⟨[(6, bv false)], h, ck⟩))
theorem may_loop (m : Mod) (pe : Int) (ph : List (List Int)) (h : FewM m) (ck : Nat) : myQ (m.lays.all fun l => !decide (ph.length < l.exps.length)) (evL cfg (.loop f6l0) ⟨[(4, .pt ⟨4, 0, 1⟩ 2 0 0), (24, .t (laysT m)), (25, iv m.lays.length), (26, iv 0)], [(⟨4, 0, 1⟩, .box 31 [iv pe, .t (gl ph)])], ck⟩) := by
  refine loop_q m.lays.length (myI m pe ph) ?_ ?_ _ ⟨upto0 _ _, ck, rfl⟩
  · rintro i s hi ⟨h1, ck, rfl⟩
    have hw : IntKind.i64.wrap ((i : Int) + 1) = (i : Int) + 1 := wrap_id (by have := h.1; omega) (by have := h.1; omega)
    by_cases c : ph.length < m.lays[i].exps.length
    · simp [f6l0e, laysT, gl, hi, layT, c, over]
      exact .inr ⟨all_not hi (by simp [c]), _, _, rfl⟩
    · simp [f6l0e, laysT, gl, hi, layT, c, hw, over]
      exact ⟨upto_s h1 hi (by simp [c]), ck + 1 + 1 + 1 + 1, by simp [laysT, gl]⟩
  · rintro s ⟨h1, ck, rfl⟩
    simp [f6l0e]
    exact .inl ⟨upto_all h1, _, _, _, _, _, _, rfl⟩
theorem rmay_ret (m : Mod) (pe : Int) (ph ts : List (List Int)) (hm : FewM m) (ht : Few ts) (hp : ph.length ≤ 1000000 ∧ ∀ r ∈ ph, r.length ≤ 100000) : RetT cfg 6 [modV m, mapV pe ph, .t (gl ts)] (bv (newOk m pe ph ts)) := by
  have h1 := fun s k => callEv_tr (C := cfg) (rmod_ret m hm) rfl rfl rfl s k
  have h2 := fun s k => callEv_tr (C := cfg) (rtok_ret m ts ht) rfl rfl rfl s k
  have h3 := fun s k => callEv_tr (C := cfg) (rright_ret pe ph hp.1 (fun r hr => by have := hp.2 r hr; omega)) rfl rfl rfl s k
  have hL := may_loop m pe ph hm
  refine RetT.of ?_
  rw [runL_pf (fn := f6) rfl rfl]
  unfold newOk
  simp only [modV, mapV, gl, iv, bv, laysT] at h1 h2 h3 hL
  generalize modRight m = b1 at *
  generalize tokRight m ts = b2 at *
  generalize right pe ph = b3 at *
  generalize (m.lays.all fun l => !decide (ph.length < l.exps.length)) = b4 at *
  cases b1 with
  | false => simp [modV, mapV, laysT, gl, h1]
  | true =>
  cases b2 with
  | false => simp [modV, mapV, laysT, gl, h1, h2]
  | true =>
  cases b3 with
  | false => simp [modV, mapV, laysT, gl, h1, h2, h3]
  | true =>
  rcases hL 3 with ⟨rfl, hh, ck2, a, c, d, e, hc⟩ | ⟨rfl, hh, ck2, hc⟩
  · simp [modV, mapV, laysT, gl, h1, h2, h3, hc]
  · simp [bv] at hc
    simp [modV, mapV, laysT, gl, h1, h2, h3, hc]
end Go.Proofs.Ytbocnaoihepjfaa.Pv
end

section
/- What fleet.New tells, when it takes. -/
namespace Go.Proofs.Ytbocnaoihepjfaa.Pv
open Go Go.Pev

def v0 : Vs := ⟨.nl, .nl, .nl, .nl, .nl, .nl, .nl, .nl, .nl⟩
theorem v0_ok (m : Mod) (pe : Int) (ph ts : List (List Int)) : VsOk (newF m pe ph ts) v0 := ⟨.inr ⟨rfl, rfl⟩, .inr ⟨rfl, rfl⟩, .inr ⟨rfl, rfl⟩, .inr ⟨rfl, rfl⟩, .inr ⟨rfl, rfl⟩, .inr ⟨rfl, rfl⟩, .inr ⟨rfl, rfl⟩⟩
theorem new_good {m : Mod} {pe : Int} {ph ts : List (List Int)} (hm : FewM m) (ht : Few ts) (hp : ph.length ≤ 1000000 ∧ ∀ r ∈ ph, r.length ≤ 100000) (hb : newOk m pe ph ts = true) (h : HP) (ck : Nat) : ∃ h' ck' cf ca cb, runL cfg 8 [modV m, mapV pe ph, .t (gl ts)] h ck = some (.tu [.pt ⟨34, cf, 5⟩ 15 0 0, iv 0], h', ck') ∧ FlS h' ck' cf ca cb (startF m pe ph ts) ∧ Ok 0 (startF m pe ph ts) ∧ ck ≤ cf ∧ ck ≤ ca ∧ ck ≤ cb ∧ ck ≤ ck' ∧ ∀ q, q.c < ck → h'.get q = h.get q := by
  have h1 := fun s k => callEv_tr (C := cfg) (mod_ret m hm) rfl rfl rfl s k
  have h2 := fun s k => callEv_tr (C := cfg) (tok_ret m ts ht) rfl rfl rfl s k
  have h3 := fun s k => callEv_tr (C := cfg) (pright_ret pe ph hp.1 (fun r hr => by have := hp.2 r hr; omega)) rfl rfl rfl s k
  have h4 := fun s k => callEv_fn (C := cfg) (caps0 := [.pt ⟨4, ck, 1⟩ 2 0 0]) (newc_ret m pe ph hm) rfl rfl rfl s k
  have h5 := fun hp => callQ_tr (C := cfg) (RetO.tree (clone2_ret (ts.map fun r => [il r]) (by simp) (by simpa using ht.1))) rfl hp
  have hb0 := hb
  unfold newOk at hb
  simp only [Bool.and_eq_true] at hb
  obtain ⟨⟨⟨b1, b2⟩, b3⟩, b4⟩ := hb
  have hmr := b1
  have htr := b2
  simp only [modRight, Bool.and_eq_true, decide_eq_true_eq] at hmr
  simp only [tokRight, Bool.and_eq_true, decide_eq_true_eq] at htr
  have hlt : (newF m pe ph ts).at_ < (newF m pe ph ts).m.lays.length := by show 0 < m.lays.length; omega
  have hF0 : Fit0 (newF m pe ph ts) := ⟨hm, ht, by show ts.length ≤ 10000; omega, hp, by simp [newF]⟩
  have hB0 : FlB ((⟨34, ck + 1 + 1, 5⟩, .box 61 (fcs (newF m pe ph ts) v0)) :: (⟨4, ck, 1⟩, .box 27 [iv pe, .t (gl ph)]) :: (⟨3, ck, 0⟩, .box 24 [iv m.dim, .t (laysT m)]) :: h) (ck + 1 + 1) (newF m pe ph ts) v0 := ⟨by simp [HP.get], v0_ok _ _ _ _⟩
  obtain ⟨ha, ka, va, ca, cb, ra, la, fa, wa, ga⟩ := begin_run (ck := ck + 1 + 1 + 1 + 1) hB0 hF0 (by omega)
  obtain ⟨wr, w1, w2, w3, w4⟩ := wa hlt
  have hOb : Ok 0 (beginP (newF m pe ph ts)) := beginP_ok hF0 (by simp [newF]) (by simp [newF]) (by simp [newF]) rfl
  have hSa : FlS ha ka (ck + 1 + 1) ca cb (beginP (newF m pe ph ts)) := ⟨va, fa, by omega, w2, w4, fun _ => wr⟩
  obtain ⟨hc, kc, cc, cd, rc, sc, oc, nc⟩ := come_run (ck := ka + 1 + 1 + 1) (fls_le hSa (by omega)) hOb
  have q1 := fun e k => callEv_h (C := cfg) (s := ⟨e, _, ck + 1 + 1 + 1⟩) rfl ra k
  have q2 := fun e k => callEv_h (C := cfg) (s := ⟨e, _, ka + 1 + 1⟩) rfl rc k
  refine ⟨hc, kc + 3, ck + 1 + 1, cc, cd, ?_, fls_le sc (by omega), oc, by omega, ?_, ?_, by have := nc.le; omega, fun q hq => ?_⟩
  · rw [runL_pf (fn := f8) rfl rfl]
    simp only [newF, v0, fcs, modV, mapV, gl, iv, bv, laysT, il, b1, b2, b3, b4, Int.natCast_zero] at h1 h2 h3 h4 h5 q1 q2
    simp [modV, mapV, laysT, gl, h1, h2, h3, h4, h5, filt_t, capsOf, capOf, treesOf, treeOf, buildV, cells, over, q1, q2]

  · rcases nc.ca with e | e <;> omega
  · rcases nc.cb with e | e <;> omega
  · rw [nc.fr q (by omega) (by rintro rfl; simp at hq; omega) (by rintro rfl; simp at hq; omega) (by rintro rfl; simp at hq; omega), ga q (by omega) (by rintro rfl; simp at hq; omega), get_new (by omega), get_new hq, get_new hq]
end Go.Proofs.Ytbocnaoihepjfaa.Pv
end

section
/- What law19.do tells. -/
namespace Go.Proofs.Ytbocnaoihepjfaa.Pv
open Go Go.Pev
variable {N : Nat}

theorem askS_run {h : HP} {ck cf ca cb : Nat} {F : Flt} (hS : FlS h ck cf ca cb F) (hO : Ok N F) : ∃ h' ck', runL cfg 12 [.pt ⟨34, cf, 5⟩ 15 0 0] h ck = some (.tu [], h', ck') ∧ FlS h' ck' cf ca cb (askP F) ∧ Ok N (askP F) ∧ Ran h ck cf ca cb h' ck' ca cb := by
  obtain ⟨v, hB, l1, l2, l3, hr⟩ := hS
  by_cases c : F.at_ < F.m.lays.length
  · obtain ⟨h', ck', vb, hrun, hle, hB', hfr⟩ := ask_run hB (hO.f1 c) l1 l3 (fun hc => by obtain ⟨r1, r2, r3, r4, r5⟩ := hr hc; exact ⟨r1, r3, r5⟩)
    obtain ⟨e1, e2, e3, e4, e5, e6, e7, e8, e9⟩ := askP_m F
    refine ⟨h', ck', hrun, ⟨_, hB', by omega, by omega, by omega, fun hc => ?_⟩, askP_ok hO, Ran.to hle hfr⟩
    obtain ⟨r1, r2, r3, r4, r5⟩ := hr c
    exact ⟨by rw [e7]; exact r1, by rw [e7]; exact r2, by rw [e7]; exact r3, by rw [hfr _ l2 (by simp), e8]; exact r4, by rw [hfr _ l3 (by simp), e9]; exact r5⟩
  · have hg := hB.1
    have e : askP F = F := by unfold askP; rw [if_neg c]
    rw [e]
    refine ⟨h, ck + 1, ?_, ⟨v, hB, by omega, by omega, by omega, hr⟩, hO, Ran.to (by omega) fun _ _ _ => rfl⟩
    have c' : F.m.lays.length ≤ F.at_ := by omega
    simp only [fcs, laysT] at hg
    rw [runL_pf (fn := f12) rfl rfl]
    simp [hg, c', filt_t]
structure Act where
  k : Int
  n : Int
  m : Int
def FewA (a : Act) : Prop := (0 ≤ a.k ∧ a.k < 256) ∧ (0 ≤ a.n ∧ a.n < 256) ∧ 0 ≤ a.m ∧ a.m < 256
def actC (a : Act) : List T := [.i .u8 a.k, .i .u8 a.n, .i .u8 a.m]
def actV (a : Act) : V := .ag [.t (.i .u8 a.k), .t (.i .u8 a.n), .t (.i .u8 a.m)]
def whichP (F : Flt) (a : Act) : Int := if 0 < F.bag.length then a.n % F.bag.length else 0
def doAt (F : Flt) (a : Act) (i : Int) : Flt :=
  if a.k % 6 = 0 then askP F
  else if a.k % 6 = 1 then (delvP F i).1
  else if a.k % 6 = 2 then (dropP F i).1
  else if a.k % 6 = 3 then (twiceP F i).1
  else if a.k % 6 = 4 then (addP F (a.n % 8) (a.m % 5)).1
  else (retP F (a.n % 8) (a.m % 5)).1
def doP (F : Flt) (a : Act) : Flt := doAt F a (whichP F a)
theorem rem6 {k : Int} (h : 0 ≤ k) : k.tmod 6 = k % 6 := Int.tmod_eq_emod_of_nonneg h
end Go.Proofs.Ytbocnaoihepjfaa.Pv
end

section
/- What law19.do tells, whole. -/
namespace Go.Proofs.Ytbocnaoihepjfaa.Pv
open Go Go.Pev
variable {N : Nat}

theorem fls_box {h : HP} {ck cf ca cb : Nat} {F : Flt} (hS : FlS h ck cf ca cb F) {s c o ck' : Nat} (h0 : ck ≤ c) (ob : Ob) (hle : ck ≤ ck') : FlS ((⟨s, c, o⟩, ob) :: h) ck' cf ca cb F := fls_fr hS hle (fun q hq => get_new (by omega))
end Go.Proofs.Ytbocnaoihepjfaa.Pv
end

section
/- The fleet of law19.awake, reckoned. -/
namespace Go.Proofs.Ytbocnaoihepjfaa.Pv
open Go Go.Pev

def awM : Mod := ⟨1, [⟨[[65536]], [⟨[[65536]], [[65536]]⟩], 1⟩]⟩
theorem aw_ok : newOk awM 0 [[2]] [[7]] = true := by decide +kernel
def awF : Flt := startF awM 0 [[2]] [[7]]
theorem aw_bag : awF.bag.length = 1 := by decide +kernel
def awF1 : Flt := (delvP awF 0).1
theorem aw_d1 : (delvP awF 0).2 = 0 := by decide +kernel
theorem aw_bag1 : awF1.bag.length = 1 := by decide +kernel
def awF2 : Flt := (delvP awF1 0).1
theorem aw_d2 : (delvP awF1 0).2 = 0 := by decide +kernel
theorem aw_done : doneP awF2 = ([[14]], true) := by decide +kernel
theorem aw_worked : workedP awF2 = 1 := by decide +kernel
theorem aw_drop : (dropP awF2 0).2 = 4 := by decide +kernel
end Go.Proofs.Ytbocnaoihepjfaa.Pv
end

section
/- What law19.awake tells. -/
namespace Go.Proofs.Ytbocnaoihepjfaa.Pv
open Go Go.Pev

theorem awake_ret : RetT cfg 7 [] (bv true) := by
  have hm : FewM awM := ⟨by simp [awM], by simp [awM, FewL, FewX, Few]⟩
  obtain ⟨h1, k1, cf, ca1, cb1, r1, s1, o1, -, -, -, -, -⟩ := new_good (ph := [[2]]) (ts := [[7]]) (pe := 0) hm ⟨by simp, by simp⟩ ⟨by simp, by simp⟩ aw_ok [(⟨2, 2, 8⟩, .box 24 [iv 1, .t (laysT awM)])] 4
  have q1 := fun e k => callEv_h (C := cfg) (s := ⟨e, _, 3⟩) rfl r1 k
  have s1' := fls_le s1 (ck' := k1 + 1 + 1 + 1) (by omega)
  have rb := bag_run s1' o1
  have q2 := fun e k => callEv_h (C := cfg) (s := ⟨e, _, k1 + 1 + 1⟩) rfl rb k
  have eb : awF.bag.length = 1 := aw_bag
  obtain ⟨h2, k2, ca2, cb2, r2, s2, o2, -⟩ := deliver_run (ck := k1 + 1 + 1 + 1 + 2 + 1 + 1) 0 (fls_box (fls_box (s := 2) (c := k1 + 1 + 1 + 1) (o := 0) s1' (Nat.le_refl _) (.row 9 1 [] false) (Nat.le_refl _)) (s := 7) (c := k1 + 1 + 1 + 1 + 1) (o := 4) (by omega) (.row 9 1 (slc awF.bag) false) (by omega)) o1 (by omega)
  have q3 := fun e k => callEv_h (C := cfg) (s := ⟨e, _, k1 + 1 + 1 + 1 + 2 + 1⟩) rfl r2 k
  obtain ⟨h3, k3, ca3, cb3, r3, s3, o3, -⟩ := deliver_run (ck := k2 + 1 + 1) 0 (fls_le s2 (by omega)) o2 (by omega)
  have q4 := fun e k => callEv_h (C := cfg) (s := ⟨e, _, k2 + 1⟩) rfl r3 k
  obtain ⟨h4, k4, kd, r4, g4, l4, l5, l6, l7, f4⟩ := done_run (ck := k3 + 1 + 1 + 1) (fls_le s3 (by omega)) o3
  have q5 := fun e k => callEv_h (C := cfg) (s := ⟨e, _, k3 + 1 + 1⟩) rfl r4 k
  have s4 := fls_fr (fls_le s3 (ck' := k3 + 1 + 1 + 1) (by omega)) l4 f4
  obtain ⟨k5, r5, l8⟩ := worked_run (ck := k4 + 1 + 1 + 1) (fls_le s4 (by omega)) o3 (by omega)
  have q6 := fun e k => callEv_h (C := cfg) (s := ⟨e, _, k4 + 1 + 1⟩) rfl r5 k
  obtain ⟨h6, k6, r6, s6, o6, -⟩ := drop_run (ck := k5 + 1 + 1) 0 (fls_le (fls_le s4 (ck' := k4 + 1 + 1 + 1) (by omega)) (by omega)) o3
  have q7 := fun e k => callEv_h (C := cfg) (s := ⟨e, _, k5 + 1⟩) rfl r6 k
  have d1 : (delvP (startF awM 0 [[2]] [[7]]) 0).2 = 0 := aw_d1
  have d2 : (delvP (delvP (startF awM 0 [[2]] [[7]]) 0).1 0).2 = 0 := aw_d2
  have d3 : doneP (delvP (delvP (startF awM 0 [[2]] [[7]]) 0).1 0).1 = ([[14]], true) := aw_done
  have d4 : workedP (delvP (delvP (startF awM 0 [[2]] [[7]]) 0).1 0).1 = 1 := aw_worked
  have d5 : (dropP (delvP (delvP (startF awM 0 [[2]] [[7]]) 0).1 0).1 0).2 = 4 := aw_drop
  have d6 : (startF awM 0 [[2]] [[7]]).bag.length = 1 := aw_bag
  rw [d1] at q3
  rw [d2] at q4
  rw [d3] at q5 g4
  rw [d4] at q6
  rw [d5] at q7
  rw [d6] at q2
  clear r1 r2 r3 r4 r5 r6 rb d1 d2 d3 d4 d5 d6 s1 s2 s3 s4 s6 o1 o2 o3 o6 s1' hm
  unfold awF at q3
  generalize slc (startF awM 0 [[2]] [[7]]).bag = bg at *
  simp [modV, mapV, laysT, awM, layT, exT, gl, il, iv, bv] at q1 q2 q3 q4 q5 q6 q7 g4
  refine RetT.of ?_
  rw [runL_pf (fn := f7) rfl rfl]
  simp [buildV, cells, over, rowsOf, treesC, treesOf, treeOf, keysOfs, freezeAll, keysOf, keysOf1, filt_t, q1, q2, q3, q4, q5, q6, q7, g4]
end Go.Proofs.Ytbocnaoihepjfaa.Pv
end

section
/- What the arguments of these laws are: models, acts. -/
set_option maxRecDepth 100000
namespace Go.Proofs.Ytbocnaoihepjfaa.Pv
open Go Go.Pev Go.RowKit Go.WideShapes
theorem u_exps : PP.underlying 44 = some (.slice 48) := by kernel_rfl
theorem u_exp : structT PP 48 = some [25, 25] := by kernel_rfl
theorem u_lay : structT PP 46 = some [25, 44, 3] := by kernel_rfl
theorem u_lays : PP.underlying 22 = some (.slice 46) := by kernel_rfl
theorem u_mod : structT PP 24 = some [3, 22] := by kernel_rfl
theorem u_u8 : PP.underlying 5 = some (.int .u8) := by kernel_rfl
theorem f_exp {k : Nat} (c : List T) (h : Fits PP (k + 4) 48 c) : ∃ x : Exp, c = exT x ∧ True := by
  have h0 := fits_struct u_exp h
  obtain ⟨a, r1, rfl, -, h1⟩ := fitsT_cons (mk := fun l : List (List Int) => [gl l]) (Q := fun _ => True) (fun c h => by obtain ⟨l, e, -⟩ := f_intss (k := k) c h; exact ⟨l, e, trivial⟩) h0
  obtain ⟨b, r2, rfl, -, h2⟩ := fitsT_cons (mk := fun l : List (List Int) => [gl l]) (Q := fun _ => True) (fun c h => by obtain ⟨l, e, -⟩ := f_intss (k := k) c h; exact ⟨l, e, trivial⟩) h1
  cases h2
  exact ⟨⟨a, b⟩, rfl, trivial⟩
theorem f_exps {k : Nat} (c : List T) (h : Fits PP (k + 5) 44 c) : ∃ l : List Exp, c = [.l (l.map exT)] ∧ True := by
  obtain ⟨l, rfl, -, -⟩ := fits_slice (mk := exT) (Q := fun _ => True) u_exps f_exp h
  exact ⟨l, rfl, trivial⟩
theorem f_lay {k : Nat} (c : List T) (h : Fits PP (k + 6) 46 c) : ∃ l : Lay, c = layT l ∧ True := by
  have h0 := fits_struct u_lay h
  obtain ⟨a, r1, rfl, -, h1⟩ := fitsT_cons (mk := fun l : List (List Int) => [gl l]) (Q := fun _ => True) (fun c h => by obtain ⟨l, e, -⟩ := f_intss (k := k + 2) c h; exact ⟨l, e, trivial⟩) h0
  obtain ⟨b, r2, rfl, -, h2⟩ := fitsT_cons f_exps h1
  obtain ⟨n, r3, rfl, -, h3⟩ := fitsT_cons f_int h2
  cases h3
  exact ⟨⟨a, b, n⟩, rfl, trivial⟩
theorem f_lays {k : Nat} (c : List T) (h : Fits PP (k + 7) 22 c) : ∃ l : List Lay, c = [.l (l.map layT)] ∧ True := by
  obtain ⟨l, rfl, -, -⟩ := fits_slice (mk := layT) (Q := fun _ => True) u_lays f_lay h
  exact ⟨l, rfl, trivial⟩
theorem a_mod {k : Nat} {x : V} (h : ArgFit PP (k + 8) 24 x) : ∃ m : Mod, x = modV m ∧ I64 m.dim := by
  obtain ⟨ts, rfl, h0⟩ := argFit_struct u_mod h
  obtain ⟨e, r1, rfl, he, h1⟩ := fitsT_cons f_int h0
  obtain ⟨l, r2, rfl, hl, h2⟩ := fitsT_cons f_lays h1
  cases h2
  exact ⟨⟨e, l⟩, rfl, he⟩
theorem a_intss {k : Nat} {x : V} (h : ArgFit PP (k + 3) 25 x) : ∃ l : List (List Int), x = .t (gl l) ∧ ∀ r ∈ l, ∀ n ∈ r, I64 n := by
  obtain ⟨l, rfl, _, hw⟩ := argFit_slice (mk := fun r : List Int => [il r]) (Q := fun r => ∀ n ∈ r, I64 n) u_intss f_ints h
  exact ⟨l, rfl, hw⟩
theorem f_u8 {k : Nat} (c : List T) (h : Fits PP (k + 1) 5 c) : ∃ m : Int, c = [.i .u8 m] ∧ (0 ≤ m ∧ m < 256) := by
  obtain ⟨m, rfl, hw⟩ := fits_int u_u8 h
  simp only [Lit.wf, Bool.and_eq_true, decide_eq_true_eq] at hw
  have h1 : IntKind.u8.min = 0 := by decide
  have h2 : IntKind.u8.max = 255 := by decide
  exact ⟨m, rfl, by omega, by omega⟩
theorem few_small {h : List (List Int)} (s : small h = true) : Few h := by
  unfold small at s
  simp only [decide_eq_true_eq] at s
  exact ⟨by omega, fun r hr => by have := s.2 r hr; omega⟩
theorem smallM_few {m : Mod} (h : smallM m = true) : FewM m := by
  simp only [smallM, smallL, smallX, Bool.and_eq_true, decide_eq_true_eq, List.all_eq_true] at h
  refine ⟨by omega, fun l hl => ?_⟩
  obtain ⟨⟨h1, h2⟩, h3⟩ := h.2 l hl
  exact ⟨few_small h2, by omega, fun x hx => ⟨few_small (h3 x hx).1, few_small (h3 x hx).2⟩⟩
end Go.Proofs.Ytbocnaoihepjfaa.Pv
end

section
/- What a fleet that lost all its messages asks again: plain laws. -/
namespace Go.Proofs.Ytbocnaoihepjfaa.Pv
open Go Go.Pev

/-- The first expert of a choice is one of the layer's. -/
theorem first_in {rows : List (List Int)} (v : List Int) {n : Nat} (hn : rows.length = n) (h1 : 1 ≤ n) : 0 ≤ (choP rows v).first ∧ (choP rows v).first < n := by
  unfold choP
  split
  · exact ⟨by simp, by simp only; omega⟩
  · rename_i hc
    have hne : scoresP rows v ≠ [] := by
      intro e
      have : (scoresP rows v).length = rows.length := by simp [scoresP]
      rw [e] at this
      simp at this
      omega
    have hlen : (scoresP rows v).length = rows.length := by simp [scoresP]
    obtain ⟨⟨t1, t2⟩, -⟩ := two_in hne
    rw [hlen, hn] at t2
    split
    · exact ⟨t1, t2⟩
    · exact ⟨t1, t2⟩
theorem parts_ne {m : Mod} {l : Lay} {ts : List (List Int)} (hl : layRight l m.dim = true) (ht : 1 ≤ ts.length) : partsP l ts ≠ [] := by
  simp only [layRight, Bool.and_eq_true, decide_eq_true_eq, mrightP] at hl
  match ts, ht with
  | v :: r, _ =>
    have hg : l.gate.length = l.exps.length := by omega
    obtain ⟨f1, f2⟩ := first_in (rows := l.gate) v hg (by omega)
    have hs : slot1 l.exps.length l.cap g0 (choP l.gate v).first = 0 := by
      unfold slot1 may1 g0
      rw [if_pos (by simp; omega)]
    simp only [partsP, chosen, wants, List.map_cons, asg, partsA, pt0, hs]
    simp
theorem begin_ne {m : Mod} {pe : Int} {ph ts : List (List Int)} (h : newOk m pe ph ts = true) : partsP (layAt m 0) ts ≠ [] ∧ 0 < m.lays.length := by
  simp only [newOk, modRight, tokRight, Bool.and_eq_true, decide_eq_true_eq, List.all_eq_true] at h
  obtain ⟨⟨⟨⟨⟨⟨⟨_, _⟩, h3⟩, _⟩, h5⟩, ⟨⟨h6, _⟩, _⟩⟩, _⟩, _⟩ := h
  have hz : 0 < m.lays.length := by omega
  have e : layAt m 0 = m.lays[0] := by simp [layAt, List.getD_eq_getElem?_getD, hz]
  rw [e]
  exact ⟨parts_ne (h5 _ (List.getElem_mem hz)) h6, hz⟩
/-- What a fresh fleet is. -/
theorem start_is {m : Mod} {pe : Int} {ph ts : List (List Int)} (h : newOk m pe ph ts = true) : startF m pe ph ts = askP (newP (newF m pe ph ts)) := by
  obtain ⟨h1, h2⟩ := begin_ne h
  have hb : beginP (newF m pe ph ts) = askP (newP (newF m pe ph ts)) := by
    unfold beginP
    rw [if_pos (show (newF m pe ph ts).at_ < (newF m pe ph ts).m.lays.length from h2)]
  unfold startF
  rw [hb]
  have hf : false ∈ (askP (newP (newF m pe ph ts))).answd := by
    obtain ⟨-, -, -, -, -, -, -, -, e⟩ := askP_m (newP (newF m pe ph ts))
    rw [e]
    refine List.mem_replicate.2 ⟨?_, rfl⟩
    intro e
    exact h1 (List.length_eq_zero_iff.1 e)
  have key : ∀ n, comeN n (askP (newP (newF m pe ph ts))) = askP (newP (newF m pe ph ts)) := by
    intro n
    cases n with
    | zero => rfl
    | succ n => unfold comeN; rw [if_neg (fun hc => hc.2 hf)]
  exact key _
theorem askL_bag (F : Flt) (b' : List (List UInt8)) : ∀ (l : List (Pt × Bool)) (b : List (List UInt8)), askL { F with bag := b' } l b = askL F l b
  | [], b => rfl
  | x :: r, b => by
    unfold askL
    rw [askL_bag F b' r]
    rfl
/-- All messages lost, and asked again: as it was. -/
theorem again_is {m : Mod} {pe : Int} {ph ts : List (List Int)} (h : newOk m pe ph ts = true) : (askP { startF m pe ph ts with bag := [] }).bag = (startF m pe ph ts).bag ∧ (startF m pe ph ts).at_ < (startF m pe ph ts).m.lays.length ∧ (startF m pe ph ts).led = [[], [], [], [], []] := by
  obtain ⟨h1, h2⟩ := begin_ne h
  rw [start_is h]
  obtain ⟨e1, e2, e3, e4, e5, e6, e7, e8, e9⟩ := askP_m (newP (newF m pe ph ts))
  have hc : (newP (newF m pe ph ts)).at_ < (newP (newF m pe ph ts)).m.lays.length := h2
  refine ⟨?_, by rw [e1, e2]; exact hc, by rw [e6]; rfl⟩
  have hA : askP (newP (newF m pe ph ts)) = { newP (newF m pe ph ts) with bag := askL (newP (newF m pe ph ts)) ((newP (newF m pe ph ts)).parts.zip (newP (newF m pe ph ts)).answd) (newP (newF m pe ph ts)).bag } := by
    unfold askP; rw [if_pos hc]
  rw [hA]
  unfold askP
  rw [if_pos hc]
  exact askL_bag (newP (newF m pe ph ts)) [] _ _
end Go.Proofs.Ytbocnaoihepjfaa.Pv
end

section
/- What these laws ask ahead. -/
namespace Go.Proofs.Ytbocnaoihepjfaa.Pv
open Go Go.Pev

def frontOk (m : Mod) (pe : Int) (ph ts : List (List Int)) : Bool := smallM m && small ph && small ts && newOk m pe ph ts
theorem smallM_call (m : Mod) (s : St) (k : Key) : callEv cfg (runL cfg) 4 [modV m] s k = some (bv (smallM m), s.hp, s.ck) := callEv_tr (C := cfg) (smallM_ret m) rfl rfl rfl s k
theorem awake_call (s : St) (k : Key) : callEv cfg (runL cfg) 7 [] s k = some (bv true, s.hp, s.ck) := callEv_tr (C := cfg) awake_ret rfl rfl rfl s k
theorem small_ph {ph : List (List Int)} (s : small ph = true) : ph.length ≤ 1000000 ∧ ∀ r ∈ ph, r.length ≤ 100000 := by
  unfold small at s
  simp only [decide_eq_true_eq] at s
  exact ⟨by omega, fun r hr => by have := s.2 r hr; omega⟩
theorem may_call {m : Mod} {pe : Int} {ph ts : List (List Int)} (h1 : smallM m = true) (h2 : small ph = true) (h3 : small ts = true) (s : St) (k : Key) : callEv cfg (runL cfg) 6 [modV m, mapV pe ph, .t (gl ts)] s k = some (bv (newOk m pe ph ts), s.hp, s.ck) := callEv_tr (C := cfg) (rmay_ret m pe ph ts (smallM_few h1) (few_small h3) (small_ph h2)) rfl rfl rfl s k
theorem comeN_m : ∀ (n : Nat) (F : Flt), (comeN n F).m = F.m ∧ (comeN n F).pe = F.pe ∧ (comeN n F).ph = F.ph
  | 0, F => ⟨rfl, rfl, rfl⟩
  | n + 1, F => by
    unfold comeN
    split
    · obtain ⟨e1, -, e3, e4, -⟩ := beginP_m (onP F)
      obtain ⟨i1, i2, i3⟩ := comeN_m n (stepP F)
      exact ⟨i1.trans e1, i2.trans e3, i3.trans e4⟩
    · exact ⟨rfl, rfl, rfl⟩
theorem startF_m (m : Mod) (pe : Int) (ph ts : List (List Int)) : (startF m pe ph ts).m = m ∧ (startF m pe ph ts).pe = pe ∧ (startF m pe ph ts).ph = ph := by
  obtain ⟨e1, -, e3, e4, -⟩ := beginP_m (newF m pe ph ts)
  obtain ⟨i1, i2, i3⟩ := comeN_m _ (beginP (newF m pe ph ts))
  exact ⟨i1.trans e1, i2.trans e3, i3.trans e4⟩
end Go.Proofs.Ytbocnaoihepjfaa.Pv
end

section
/- FleetLost, reckoned. -/
set_option maxRecDepth 100000
namespace Go.Proofs.Ytbocnaoihepjfaa.Pv
open Go Go.Pev

theorem ll_bad (m : Mod) (pe : Int) (ph ts : List (List Int)) (hb : frontOk m pe ph ts = false) : ∃ hp c, runL cfg 3 [modV m, mapV pe ph, .t (gl ts)] [] 0 = some (bv true, hp, c) := by
  have h1 := smallM_call m
  have h2 := small_call ph
  have h3 := small_call ts
  have h4 := @may_call m pe ph ts
  have h5 := awake_call
  unfold frontOk at hb
  rw [runL_pf (fn := f3) rfl rfl]
  simp only [modV, mapV, gl, iv, bv, laysT] at h1 h2 h3 h4 h5
  generalize smallM m = b1 at *
  generalize small ph = b2 at *
  generalize small ts = b3 at *
  generalize newOk m pe ph ts = b4 at *
  cases b1 with
  | false => simp [modV, mapV, laysT, gl, h1, h5, filt_t]
  | true =>
  cases b2 with
  | false => simp [modV, mapV, laysT, gl, h1, h2, h5, filt_t]
  | true =>
  cases b3 with
  | false => simp [modV, mapV, laysT, gl, h1, h2, h3, h5, filt_t]
  | true =>
  cases b4 with
  | false =>
    have h4 := h4 rfl rfl rfl
    simp [modV, mapV, laysT, gl, h1, h2, h3, h4, h5, filt_t]
  | true => cases hb
theorem ll_in (bg : List (List UInt8)) (k1 k2 : Key) (h : HP) (t1 t2 : Nat) (b1 b2 : Bool) (g1 : h.get k1 = some (.row t1 1 (slc bg) b1)) (g2 : h.get k2 = some (.row t2 1 (slc bg) b2)) (hl : bg.length ≤ 1000000) (ck : Nat) : ∃ ck' e, evL cfg (.loop f3l1) ⟨[(9, .ow k1 1 0 bg.length), (13, .ow k2 1 0 bg.length), (93, iv bg.length), (94, iv 0)], h, ck⟩ = some (.exit 2, ⟨e, h, ck'⟩) := by
  refine loop_q (Q := fun E => ∃ ck' e, E = some (.exit 2, ⟨e, h, ck'⟩)) bg.length (fun i s => ∃ c, s = ⟨[(9, .ow k1 1 0 bg.length), (13, .ow k2 1 0 bg.length), (93, iv bg.length), (94, iv (i : Int))], h, c⟩) ?_ ?_ _ ⟨ck, rfl⟩
  · rintro i s hi ⟨c, rfl⟩
    have hw : IntKind.i64.wrap ((i : Int) + 1) = (i : Int) + 1 := wrap_id (by omega) (by omega)
    simp only [slc] at g1 g2
    simp [f3l1e, hi, g1, g2, hw, filt_t, slc]
  · rintro s ⟨c, rfl⟩
    simp [f3l1e, filt_t]
theorem drop0 {F : Flt} {i : Nat} (hi : i < F.bag.length) : dropP { F with bag := F.bag.drop i } 0 = ({ F with bag := F.bag.drop (i + 1) }, 0) := by
  have hl : 0 < F.bag.length - i := by omega
  simp [dropP, bagTake, hl]
def llI (F : Flt) (cf ca cb kr : Nat) (i : Nat) (s : St) : Prop := ∃ h ck, s = ⟨[(7, .pt ⟨34, cf, 5⟩ 15 0 0), (9, .ow ⟨7, kr, 4⟩ 1 0 F.bag.length), (49, iv F.bag.length), (50, iv (i : Int))], h, ck⟩ ∧ FlS h ck cf ca cb { F with bag := F.bag.drop i } ∧ Ok 0 { F with bag := F.bag.drop i } ∧ kr < ck ∧ h.get ⟨7, kr, 4⟩ = some (.row 9 1 (slc F.bag) false)
def llQ (F : Flt) (cf ca cb kr : Nat) (E : Option (Ex × St)) : Prop := ∃ h ck a b c, E = some (.exit 0, ⟨[(7, .pt ⟨34, cf, 5⟩ 15 0 0), (9, .ow ⟨7, kr, 4⟩ 1 0 F.bag.length), (49, a), (50, b), (51, c)], h, ck⟩) ∧ FlS h ck cf ca cb { F with bag := [] } ∧ Ok 0 { F with bag := [] } ∧ kr < ck ∧ h.get ⟨7, kr, 4⟩ = some (.row 9 1 (slc F.bag) false)
theorem ll_loop (F : Flt) (cf ca cb kr : Nat) {h : HP} {ck : Nat} (hS : FlS h ck cf ca cb F) (hO : Ok 0 F) (hk : kr < ck) (g : h.get ⟨7, kr, 4⟩ = some (.row 9 1 (slc F.bag) false)) : llQ F cf ca cb kr (evL cfg (.loop f3l0) ⟨[(7, .pt ⟨34, cf, 5⟩ 15 0 0), (9, .ow ⟨7, kr, 4⟩ 1 0 F.bag.length), (49, iv F.bag.length), (50, iv 0)], h, ck⟩) := by
  have hbl := hO.f0.bag
  refine loop_q F.bag.length (llI F cf ca cb kr) ?_ ?_ _ ⟨h, ck, rfl, hS, hO, hk, g⟩
  · rintro i s hi ⟨h, ck, rfl, hS, hO, hk, g⟩
    have hw : IntKind.i64.wrap ((i : Int) + 1) = (i : Int) + 1 := wrap_id (by omega) (by omega)
    obtain ⟨h2, k2, r2, s2, o2, n2⟩ := drop_run (ck := ck + 1 + 1) 0 (fls_le hS (by omega)) hO
    have q2 := fun e k => callEv_h (C := cfg) (s := ⟨e, _, ck + 1⟩) rfl r2 k
    rw [drop0 hi] at q2 s2 o2
    simp only [iv] at q2
    have z := n2.le
    have g2 : h2.get ⟨7, kr, 4⟩ = some (.row 9 1 (slc F.bag) false) := by rw [n2.fr _ (by simp only; omega) (by simp) (by simp) (by simp)]; exact g
    simp [f3l0e, hi, q2, hw, filt_t]
    exact ⟨h2, _, rfl, fls_le s2 (by omega), o2, by omega, g2⟩
  · rintro s ⟨h, ck, rfl, hS, hO, hk, g⟩
    rw [List.drop_of_length_le (Nat.le_refl _)] at hS hO
    simp [f3l0e, filt_t]
    exact ⟨h, _, _, _, _, rfl, fls_le hS (by omega), hO, by omega, g⟩
end Go.Proofs.Ytbocnaoihepjfaa.Pv
end

section
/- FleetLost, whole. -/
set_option maxRecDepth 100000
namespace Go.Proofs.Ytbocnaoihepjfaa.Pv
open Go Go.Pev

theorem ll_good (m : Mod) (pe : Int) (ph ts : List (List Int)) (hb : frontOk m pe ph ts = true) : ∃ hp c, runL cfg 3 [modV m, mapV pe ph, .t (gl ts)] [] 0 = some (bv true, hp, c) := by
  have a1 := smallM_call m
  have a2 := small_call ph
  have a3 := small_call ts
  have a5 := awake_call
  unfold frontOk at hb
  simp only [Bool.and_eq_true] at hb
  obtain ⟨⟨⟨b1, b2⟩, b3⟩, b4⟩ := hb
  have a4 := may_call (pe := pe) b1 b2 b3
  obtain ⟨p1, p2, p3⟩ := again_is b4
  rw [b1] at a1
  rw [b2] at a2
  rw [b3] at a3
  rw [b4] at a4
  have hph := small_ph b2
  obtain ⟨h1, k1, cf, ca, cb, r1, s1, o1, -, l2, l3, l4, fr1⟩ := new_good (smallM_few b1) (few_small b3) hph b4 [(⟨4, 0, 1⟩, .box 27 [iv pe, .t (gl ph)]), (⟨3, 0, 0⟩, .box 24 [iv m.dim, .t (laysT m)])] 3
  have q1 := fun e k => callEv_h (C := cfg) (s := ⟨e, _, 2⟩) rfl r1 k
  have rb := bag_run (fls_le s1 (ck' := k1 + 1 + 1 + 1 + 1) (by omega)) o1
  have q2 := fun e k => callEv_h (C := cfg) (s := ⟨e, _, k1 + 1 + 1 + 1⟩) rfl rb k
  generalize hF : startF m pe ph ts = F at *
  obtain ⟨h2, k2, x1, x2, x3, hL, s2, o2, l5, g2⟩ := ll_loop F cf ca cb (k1 + 1 + 1 + 1 + 1 + 1) (ck := k1 + 1 + 1 + 1 + 1 + 2 + 1 + 1 + 1) (fls_box (ck := k1 + 1 + 1 + 1 + 1) (fls_box (s := 2) (o := 0) (fls_le s1 (by omega)) (Nat.le_refl _) (.row 9 1 [] false) (Nat.le_refl _)) (s := 7) (c := k1 + 1 + 1 + 1 + 1 + 1) (o := 4) (by omega) (.row 9 1 (slc F.bag) false) (by omega)) o1 (by omega) (by simp [HP.get])
  obtain ⟨h3, k3, kd, r3, g3, l6, l7, l8, l9, fr3⟩ := done_run (ck := k2 + 1) (fls_le s2 (by omega)) o2
  have q3 := fun e k => callEv_h (C := cfg) (s := ⟨e, _, k2⟩) rfl r3 k
  have hdn : doneP { F with bag := [] } = ([], false) := by unfold doneP; rw [if_pos p2]
  rw [hdn] at q3
  have s3 := fls_fr (fls_le s2 (ck' := k2 + 1) (by omega)) l6 fr3
  have rb2 := bag_run (fls_le s3 (ck' := k3 + 1 + 1 + 1) (by omega)) o2
  have q4 := fun e k => callEv_h (C := cfg) (s := ⟨e, _, k3 + 1 + 1⟩) rfl rb2 k
  have s4 : FlS ((⟨7, k3 + 1 + 1 + 1 + 1, 4⟩, .row 9 1 (slc []) false) :: (⟨2, k3 + 1 + 1 + 1, 0⟩, .row 9 1 [] false) :: h3) (k3 + 1 + 1 + 1 + 2 + 1 + 1 + 1) cf ca cb { F with bag := [] } := fls_box (ck := k3 + 1 + 1 + 1) (fls_box (fls_le s3 (by omega)) (Nat.le_refl _) _ (Nat.le_refl _)) (by omega) _ (by omega)
  obtain ⟨h5, k5, r5, s5, o5, n5⟩ := askS_run s4 o2
  have q5 := fun e k => callEv_h (C := cfg) (s := ⟨e, _, k3 + 1 + 1 + 1 + 2 + 1 + 1⟩) rfl r5 k
  have rb3 := bag_run (fls_le s5 (ck' := k5 + 1 + 1 + 1) (by omega)) o5
  have q6 := fun e k => callEv_h (C := cfg) (s := ⟨e, _, k5 + 1 + 1⟩) rfl rb3 k
  rw [p1] at q6
  have z5 := n5.le
  have g5 : h5.get ⟨7, k1 + 1 + 1 + 1 + 1 + 1, 4⟩ = some (.row 9 1 (slc F.bag) false) := by
    rw [n5.fr _ (by simp only; omega) (by simp) (by simp) (by simp), get_new (by simp only; omega), get_new (by simp only; omega), fr3 _ (by simp only; omega)]; exact g2
  have s6 : FlS ((⟨7, k5 + 1 + 1 + 1 + 1, 4⟩, .row 9 1 (slc F.bag) false) :: (⟨2, k5 + 1 + 1 + 1, 0⟩, .row 9 1 [] false) :: h5) (k5 + 1 + 1 + 1 + 2 + 1 + 1 + 1) cf ca cb (askP { F with bag := [] }) := fls_box (ck := k5 + 1 + 1 + 1) (fls_box (fls_le s5 (by omega)) (Nat.le_refl _) _ (Nat.le_refl _)) (by omega) _ (by omega)
  obtain ⟨k7, r7, l10⟩ := worked_run s6 o5 (by omega)
  have q7 := fun e k => callEv_h (C := cfg) (s := ⟨e, _, k5 + 1 + 1 + 1 + 2 + 1 + 1⟩) rfl r7 k
  have hw : workedP (askP { F with bag := [] }) = 0 := by
    obtain ⟨-, -, -, -, -, e6, -⟩ := askP_m { F with bag := [] }
    unfold workedP
    rw [e6, p3]
    rfl
  rw [hw] at q7
  obtain ⟨h8, k8, r8, s8, o8, n8⟩ := drop_run (ck := k7 + 1 + 1) (F.bag.length : Int) (fls_le s6 (by omega)) o5
  have q8 := fun e k => callEv_h (C := cfg) (s := ⟨e, _, k7 + 1⟩) rfl r8 k
  have hd : (dropP (askP { F with bag := [] }) (F.bag.length : Int)).2 = 4 := by
    have e : bagTake (askP { F with bag := [] }).bag (F.bag.length : Int) = ([], (askP { F with bag := [] }).bag, false) := by
      unfold bagTake
      rw [if_neg (by rw [p1]; omega)]
    unfold dropP
    rw [e]
    rfl
  rw [hd] at q8
  have g8 : h8.get ⟨7, k1 + 1 + 1 + 1 + 1 + 1, 4⟩ = some (.row 9 1 (slc F.bag) false) := by
    rw [n8.fr _ (by simp only; omega) (by simp) (by simp) (by simp), get_new (by simp only; omega), get_new (by simp only; omega)]; exact g5
  have g9 : h8.get ⟨7, k5 + 1 + 1 + 1 + 1, 4⟩ = some (.row 9 1 (slc F.bag) false) := by
    rw [n8.fr _ (by simp only; omega) (by simp) (by simp) (by simp)]; simp [HP.get]
  obtain ⟨k9, e9, hM⟩ := ll_in F.bag _ _ h8 _ _ _ _ g8 g9 o1.f0.bag (k8 + 1 + 1 + 1)

  simp only [modV, mapV, laysT, gl, il, iv, bv] at a1 a2 a3 a4 a5 q1 q2 q3 q4 q5 q6 q7 q8 hL hM
  rw [runL_pf (fn := f3) rfl rfl]
  simp [modV, mapV, laysT, gl, a1, a2, a3, a4, a5, q1, q2, hL, q3, q4, q5, q6, q7, q8, hM, filt_t, over]
theorem fleetLost_ev (xs : List V) (h : ArgsFit PP 8 [24, 27, 25] xs) : ∃ hp c, runL cfg 3 xs [] 0 = some (bv true, hp, c) := by
  obtain ⟨v1, r1, rfl, fr1, h⟩ := argsFit_cons h
  obtain ⟨v2, r2, rfl, fr2, h⟩ := argsFit_cons h
  obtain ⟨v3, r3, rfl, fr3, h⟩ := argsFit_cons h
  cases argsFit_nil h
  obtain ⟨m, rfl, -⟩ := a_mod (k := 0) fr1
  obtain ⟨pe, ph, rfl, -⟩ := a_map (k := 4) fr2
  obtain ⟨ts, rfl, -⟩ := a_intss (k := 5) fr3
  cases hb : frontOk m pe ph ts with
  | false => exact ll_bad m pe ph ts hb
  | true => exact ll_good m pe ph ts hb
end Go.Proofs.Ytbocnaoihepjfaa.Pv
end
