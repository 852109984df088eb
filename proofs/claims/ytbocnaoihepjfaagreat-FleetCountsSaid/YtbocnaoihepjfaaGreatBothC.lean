/- What the functions of these laws tell (made by mergecom.py out of EndP EndP2 LEnds LEnds2 CntP LCounts LCounts2 LBoth). -/
import Derived.Test.YtbocnaoihepjfaaGreatBothB
import Derived.Test.YtbocnaoihepjfaaGreatBothA
set_option linter.unusedVariables false
set_option linter.unusedSimpArgs false
section
/- A fleet comes to its end: plain laws. -/
namespace Go.Proofs.YtbocnaoihepjfaaGreat.Pv
open Go Go.Pev
variable {m : Mod} {ts : List (List Int)} {n0 : Nat}

/-! ### each part stands once -/
theorem partsA_nodup : ∀ (cs : List Cho) (ss : List (Int × Int)) (t : Nat), (partsA t cs ss).Nodup
  | [], _, t => by simp [partsA]
  | c :: cs, [], t => by simp [partsA]
  | c :: cs, s :: ss, t => by
    have a0 : ∀ z, z ∈ pt0 t c s.1 → z = ⟨t, 0, c.first, c.w1⟩ := by
      intro z hz; unfold pt0 at hz
      split at hz
      · simpa using hz
      · simp at hz
    have a1 : ∀ z, z ∈ pt1 t c s.2 → z = ⟨t, 1, c.second, c.w2⟩ := by
      intro z hz; unfold pt1 at hz
      split at hz
      · simpa using hz
      · simp at hz
    have n0 : (pt0 t c s.1).Nodup := by unfold pt0; split <;> simp
    have n1 : (pt1 t c s.2).Nodup := by unfold pt1; split <;> simp
    simp only [partsA]
    rw [List.nodup_append, List.nodup_append]
    refine ⟨⟨n0, n1, fun x hx y hy e => ?_⟩, partsA_nodup cs ss (t + 1), fun x hx y hy e => ?_⟩
    · rw [a0 _ hx, a1 _ hy] at e; simp at e
    · have h2 := (partsA_in _ _ _ y hy).1
      have h3 : x.token = t := by
        rcases List.mem_append.1 hx with hx | hx
        · rw [a0 _ hx]
        · rw [a1 _ hx]
      rw [e] at h3; omega
theorem nodup_idx {α : Type} {l : List α} (hn : l.Nodup) {i j : Nat} (hi : i < l.length) (hj : j < l.length) (h : l[i] = l[j]) : i = j := by
  have hp := List.pairwise_iff_getElem.1 hn
  rcases Nat.lt_trichotomy i j with c | c | c
  · exact absurd h (hp i j hi hj c)
  · exact c
  · exact absurd h.symm (hp j i hj hi c)
theorem pts_nodup (m : Mod) (ts : List (List Int)) (n : Nat) : (ptsN m ts n).Nodup := partsA_nodup _ _ _
theorem pts_idx {n i j : Nat} (hi : i < (ptsN m ts n).length) (hj : j < (ptsN m ts n).length) (h : (ptsN m ts n)[i] = (ptsN m ts n)[j]) : i = j := nodup_idx (pts_nodup m ts n) hi hj h
/-- The part that a message's answer is for. -/
theorem hit_idx {n i : Nat} {a : Msg} (hi : i < (ptsN m ts n).length) (hk : Kin m ts a n (ptsN m ts n)[i]) : fidx (hitP a) (ptsN m ts n) = i := by
  obtain ⟨-, -, k3, k4, k5, -⟩ := hk
  refine fidx_at _ _ i hi (fun j hj => ?_) (by simp [hitP, k3, k4, k5])
  rw [Bool.eq_false_iff]
  intro hh
  simp only [hitP, Bool.and_eq_true, decide_eq_true_eq] at hh
  have hj2 : j < (ptsN m ts n).length := by omega
  have := pts_uniq (List.getElem_mem hj2) (List.getElem_mem hi) (by rw [hh.1.1, k3]) (by rw [hh.1.2, k4])
  have := pts_idx hj2 hi this
  omega
theorem put_inj {a b : Msg} (ha : wrightM a = true) (hb : wrightM b = true) (h : putB a = putB b) : a = b := by
  have h1 := take_put ha
  rw [h, take_put hb] at h1
  exact (Prod.mk.inj h1).1.symm
theorem kin_part {a : Msg} {n n' : Nat} {p p' : Pt} (h : Kin m ts a n p) (h' : Kin m ts a n' p') (hp : p ∈ ptsN m ts n) (hp' : p' ∈ ptsN m ts n') : n = n' ∧ p = p' := by
  obtain ⟨-, a2, a3, a4, -⟩ := h
  obtain ⟨-, b2, b3, b4, -⟩ := h'
  have e : n = n' := by omega
  subst e
  exact ⟨rfl, pts_uniq hp hp' (by omega) (by omega)⟩
/-! ### messages that are worth something -/
def Cur (m : Mod) (ts : List (List Int)) (n : Nat) (pe : Int) (ph : List (List Int)) (p : Pt) (s : List UInt8) : Prop := ∃ a, s = putB a ∧ wrightM a = true ∧ Kin m ts a n p ∧ (a.kind = 2 ∨ (a.kind = 1 ∧ a.epoch = pe ∧ holds ph p.expert a.to = true))
def Pend (m : Mod) (ts : List (List Int)) (F : Flt) : Prop := ∀ (i : Nat) (hi : i < (ptsN m ts F.at_).length), F.answd.getD i true = false → ∃ s ∈ F.bag, Cur m ts F.at_ F.pe F.ph (ptsN m ts F.at_)[i] s
theorem ask_fits {F : Flt} (hS : Setup m ts n0) (h : Inv0 m ts n0 F) {a : Msg} {n : Nat} {p : Pt} (hw : wrightM a = true) (hn : n < m.lays.length) (hp : p ∈ ptsN m ts n) (hk : Kin m ts a n p) (h1 : a.kind = 1) : fitsP F.m F.pe F.ph a.to a = true := by
  obtain ⟨k1, k2, k3, k4, k5, k6⟩ := hk
  have hv : a.vec = (tokN m ts n).getD p.token.toNat [] := by
    rcases k6 with ⟨-, -, -, k⟩ | ⟨k, -⟩ | ⟨k, -⟩
    · exact k
    · omega
    · omega
  have hvv := hS.vec hn hp
  obtain ⟨-, -, p3, p4⟩ := hS.pts hn hp
  have hmr : modRight m = true := by
    simp only [modRight, Bool.and_eq_true, decide_eq_true_eq, List.all_eq_true]
    exact ⟨⟨⟨hS.dim, hS.nl.1⟩, hS.nl.2⟩, hS.lays⟩
  have htr : tokRight m [a.vec] = true := by
    simp only [tokRight, List.length_cons, List.length_nil, List.all_cons, List.all_nil, Bool.and_eq_true, decide_eq_true_eq]
    rw [hv]
    exact ⟨⟨by omega, by omega⟩, hvv, trivial⟩
  unfold fitsP
  rw [h.mo, hmr, h.right.1, hw, htr, h1, decide_eq_true (show a.to = a.to from rfl), decide_eq_true (show a.layer < m.lays.length by omega), decide_eq_true (show a.expert < (layAt m a.layer).exps.length by rw [k2, k5]; exact p4)]
  rfl
theorem answer_right {F : Flt} (hS : Setup m ts n0) (h : Inv0 m ts n0 F) {a : Msg} {n : Nat} {p : Pt} (hw : wrightM a = true) (hn : n < m.lays.length) (hp : p ∈ ptsN m ts n) (ht : 0 ≤ a.to ∧ a.to ≤ 4) : wrightM (answerOf F.pe a.to a (ansN m ts n p)) = true := by
  have hv := hS.ans hn hp
  have hd := hS.dim
  have he := right_e h.right.1
  simp only [wrightM, nums, okN, List.all_cons, List.all_nil, Bool.and_eq_true, decide_eq_true_eq] at hw
  obtain ⟨⟨⟨⟨⟨w0, w1, w2, w3, w4, w5, w6, w7, w8, w9, -⟩, -⟩, -⟩, -⟩, -⟩ := hw
  have e1 : (nums (answerOf F.pe a.to a (ansN m ts n p))).all okN = true := by
    simp only [nums, answerOf, okN, List.all_cons, List.all_nil, Bool.and_eq_true, decide_eq_true_eq]
    refine ⟨?_, ?_, ?_, ?_, ?_, ?_, ?_, ?_, ?_, ?_, trivial⟩ <;> omega
  have e2 : (answerOf F.pe a.to a (ansN m ts n p)).vec = ansN m ts n p := rfl
  have e3 : (answerOf F.pe a.to a (ansN m ts n p)).kind = 2 := rfl
  unfold wrightM
  rw [e1, e2, e3, okS_held hv.2, decide_eq_true (show (ansN m ts n p).length ≤ 8 by omega)]
  rfl
/-- What a node makes of an ask that is right, and new enough. -/
theorem node_answers {F : Flt} (hS : Setup m ts n0) (h : Inv0 m ts n0 F) {a : Msg} {n : Nat} {p : Pt} (hw : wrightM a = true) (hn : n < m.lays.length) (hp : p ∈ ptsN m ts n) (hk : Kin m ts a n p) (h1 : a.kind = 1) (he : a.epoch = F.pe) (hh : holds F.ph p.expert a.to = true) : nodeP F a = (workL F.m (ledAt F a.to) a, answerOf F.pe a.to a (ansN m ts n p), true) := by
  have hf := ask_fits hS h hw hn hp hk h1
  have hto : 1 ≤ a.to ∧ a.to ≤ 4 := by
    obtain ⟨-, -, -, -, -, k6⟩ := hk
    rcases k6 with ⟨-, f, t, -⟩ | ⟨k, -⟩ | ⟨k, -⟩
    · exact t
    · omega
    · omega
  have hx : a.expert = p.expert := hk.2.2.2.2.1
  unfold nodeP workP
  rw [if_neg (by rw [hf]; simp), if_neg (by rw [hx, hh, he]; simp), workV_is h hp hk h1 (h.led _ (led_at h hto)).1]
theorem mem_sendB {b : List (List UInt8)} {a : Msg} {s : List UInt8} (h : s ∈ b) : s ∈ sendB b a := by
  rcases sendB_is (b := b) (a := a) with e | ⟨-, -, e⟩
  · rw [e]; exact h
  · rw [e]; exact List.mem_append_left _ h
theorem new_sendB {b : List (List UInt8)} {a : Msg} (h : wrightM a = true) (hb : b.length < 200) : putB a ∈ sendB b a := by
  unfold sendB bagPut
  rw [if_pos h, if_pos hb]
  simp
theorem comeP_cases (F : Flt) : comeP F = F ∨ (F.at_ < F.m.lays.length ∧ ¬ false ∈ F.answd) := by
  by_cases c : F.at_ < F.m.lays.length ∧ ¬ false ∈ F.answd
  · exact .inr c
  · left
    unfold comeP
    cases hk : F.m.lays.length - F.at_ with
    | zero => rfl
    | succ k => unfold comeN; rw [if_neg c]
theorem come_on {F : Flt} (hS : Setup m ts n0) (h : Inv0 m ts n0 F) (c1 : F.at_ < m.lays.length) (c2 : ¬ false ∈ F.answd) : F.at_ < (comeP F).at_ := by
  obtain ⟨s1, s2, s3⟩ := inv_step hS h c1 c2
  unfold comeP
  rw [h.mo]
  obtain ⟨k, hk⟩ : ∃ k, m.lays.length - F.at_ = k + 1 := ⟨m.lays.length - F.at_ - 1, by omega⟩
  rw [hk]
  unfold comeN
  rw [if_pos ⟨by rw [h.mo]; exact c1, c2⟩]
  have := (inv_come (F := F) hS k s1 (by omega)).2.2
  omega
theorem delv_cons {F : Flt} {s : List UInt8} {b : List (List UInt8)} (hb : F.bag = s :: b) : delvP F 0 = (gotP { F with bag := b } s, 0) := by
  have e : bagTake F.bag 0 = (s, b, true) := by rw [hb]; simp [bagTake]
  unfold delvP
  rw [e]
  rfl
theorem delv_nil {F : Flt} (hb : F.bag = []) : delvP F 0 = (F, 4) := by
  have e : (bagTake F.bag 0).2.2 = false := by rw [hb]; simp [bagTake]
  unfold delvP
  rw [e]
  rfl
/-- One frame delivered: on by a layer, or all that is not answered is still on its way. -/
theorem pend_step {F : Flt} (hS : Setup m ts n0) (h : Inv0 m ts n0 F) (hs : Settled m F) (hc : F.at_ < m.lays.length) (hP : Pend m ts F) {s : List UInt8} {b : List (List UInt8)} (hb : F.bag = s :: b) : F.at_ < (delvP F 0).1.at_ ∨ ((delvP F 0).1.at_ = F.at_ ∧ Pend m ts (delvP F 0).1) := by
  rw [delv_cons hb]
  have hfull := h.full
  rw [hb] at hfull
  simp only [List.length_cons] at hfull
  have h' : Inv0 m ts n0 { F with bag := b } := h.bagged (fun x hx => h.bag x (by rw [hb]; exact List.mem_cons_of_mem _ hx)) (by omega)
  obtain ⟨a, n, p, rfl, hw, hn, hp, hk⟩ := h.bag s (by rw [hb]; exact List.mem_cons_self)
  have hparts := h.parts hc
  obtain ⟨l1, l2⟩ := h.lens hc
  rw [hparts] at l1 l2
  simp only [gotP, take_put hw, ne_eq, not_true_eq_false, if_false]
  by_cases h0 : a.to = 0
  · rw [if_pos h0]
    have hk1 : a.kind ≠ 1 := by
      intro e
      rcases hk.2.2.2.2.2 with ⟨-, -, t, -⟩ | ⟨k, -⟩ | ⟨k, -⟩ <;> omega
    by_cases hA : goodA { F with bag := b } a ∧ 0 ≤ fidx (hitP a) F.parts ∧ F.answd.getD (fidx (hitP a) F.parts).toNat true = false
    · have eA : answerP { F with bag := b } a = comeP (setP { F with bag := b } (fidx (hitP a) F.parts).toNat a.vec) := by
        unfold answerP; rw [if_pos hA]
      obtain ⟨⟨g1, g2, g3, g4, g5⟩, c2, c3⟩ := hA
      simp only at g3 g5
      obtain rfl : n = F.at_ := by have := hk.2.1; omega
      obtain ⟨i, hi⟩ : ∃ i : Nat, fidx (hitP a) F.parts = i := ⟨(fidx (hitP a) F.parts).toNat, by omega⟩
      have i1 := (fidx_hit _ _ _ hi).1
      rw [hparts] at hi i1
      have hq : p = (ptsN m ts F.at_)[i] := by
        have := (fidx_hit _ _ _ hi).2
        simp only [hitP, Bool.and_eq_true, decide_eq_true_eq] at this
        exact pts_uniq hp (List.getElem_mem _) (by rw [← hk.2.2.1]; exact this.1.1.symm) (by rw [← hk.2.2.2.1]; exact this.1.2.symm)
      have eI := (inv_got hS h' hs (s := putB a) ⟨a, F.at_, p, rfl, hw, hn, hp, hk⟩)
      have e1 : (fidx (hitP a) F.parts).toNat = i := by rw [hparts, hi]; rfl
      rw [eA, e1]
      have hI : Inv0 m ts n0 (setP { F with bag := b } i a.vec) := by
        have := inv_set hS h' hn hp hk ⟨⟨g1, g2, g3, g4, g5⟩, c2, c3⟩
        rw [← e1]; exact this
      rcases comeP_cases (setP { F with bag := b } i a.vec) with e | ⟨q1, q2⟩
      · right
        rw [e]
        refine ⟨rfl, fun j hj hjd => ?_⟩
        simp only [setP] at hj hjd ⊢
        have hij : i ≠ j := by
          rintro rfl
          rw [List.getD_eq_getElem?_getD, List.getElem?_set_self (by omega)] at hjd
          simp at hjd
        rw [List.getD_eq_getElem?_getD, List.getElem?_set_ne hij, ← List.getD_eq_getElem?_getD] at hjd
        obtain ⟨s', hs', a', e', w', k', c'⟩ := hP j hj hjd
        rw [hb] at hs'
        rcases List.mem_cons.1 hs' with rfl | hs'
        · exfalso
          have := put_inj hw w' e'
          subst this
          have := (kin_part hk k' hp (List.getElem_mem _)).2
          rw [hq] at this
          exact hij (pts_idx i1 hj this)
        · exact ⟨s', hs', a', e', w', k', c'⟩
      · left
        exact come_on hS hI hc q2
    · have eA : answerP { F with bag := b } a = { F with bag := b } := by
        unfold answerP; rw [if_neg hA]
      rw [eA]
      right
      refine ⟨rfl, fun j hj hjd => ?_⟩
      simp only at hj hjd
      obtain ⟨s', hs', a', e', w', k', c'⟩ := hP j hj hjd
      rw [hb] at hs'
      rcases List.mem_cons.1 hs' with rfl | hs'
      · exfalso
        have := put_inj hw w' e'
        subst this
        have hk2 : a.kind = 2 := by
          rcases c' with c' | ⟨c', -⟩
          · exact c'
          · exact absurd c' hk1
        refine hA ⟨⟨hk2, k'.1, k'.2.1, ?_, by simp only [h.mo]; exact hc⟩, ?_, ?_⟩
        · have hv : a.vec = ansN m ts F.at_ (ptsN m ts F.at_)[j] := by
            rcases k'.2.2.2.2.2 with ⟨k, -⟩ | ⟨-, -, k⟩ | ⟨k, -⟩
            · omega
            · exact k
            · omega
          rw [hv, h.mo]
          exact (hS.ans hc (List.getElem_mem hj)).1
        · rw [hparts, hit_idx hj k']; omega
        · rw [hparts, hit_idx hj k', Int.toNat_natCast]; exact hjd
      · exact ⟨s', hs', a', e', w', k', c'⟩
  · rw [if_neg h0]
    have hk1 : a.kind = 1 ∧ a.to ≤ 4 ∧ 0 ≤ a.to := by
      rcases hk.2.2.2.2.2 with ⟨k, f, t, -⟩ | ⟨-, k, -⟩ | ⟨-, k⟩
      · exact ⟨k, t.2, by omega⟩
      · exact absurd k h0
      · exact absurd k h0
    rw [if_pos hk1.2.1]
    right
    refine ⟨rfl, fun j hj hjd => ?_⟩
    have ebag : (workF { F with bag := b } a).bag = if (nodeP { F with bag := b } a).2.2 then sendB b (nodeP { F with bag := b } a).2.1 else b := rfl
    change j < (ptsN m ts F.at_).length at hj
    change F.answd.getD j true = false at hjd
    show ∃ s ∈ (workF { F with bag := b } a).bag, Cur m ts F.at_ F.pe F.ph (ptsN m ts F.at_)[j] s
    obtain ⟨s', hs', a', e', w', k', c'⟩ := hP j hj hjd
    rw [hb] at hs'
    rcases List.mem_cons.1 hs' with rfl | hs'
    · have := put_inj hw w' e'
      subst this
      rcases c' with c' | ⟨c1, c2, c3⟩
      · omega
      · have hN := node_answers hS h' hw hc (List.getElem_mem hj) k' c1 c2 c3
        rw [hN] at ebag
        simp only [if_true] at ebag
        rw [ebag]
        have hr := answer_right hS h' hw hc (List.getElem_mem hj) ⟨hk1.2.2, hk1.2.1⟩
        refine ⟨_, new_sendB hr (by omega), _, rfl, hr, ⟨k'.1, k'.2.1, k'.2.2.1, k'.2.2.2.1, k'.2.2.2.2.1, .inr (.inl ⟨rfl, ?_, rfl⟩)⟩, .inl rfl⟩
        rcases k'.2.2.2.2.2 with ⟨-, f, -⟩ | ⟨k, -⟩ | ⟨k, -⟩
        · exact f
        · omega
        · omega
    · refine ⟨s', ?_, a', e', w', k', c'⟩
      rw [ebag]
      split
      · exact mem_sendB hs'
      · exact hs'
end Go.Proofs.YtbocnaoihepjfaaGreat.Pv
end

section
/- A fleet comes to its end: how long it takes. -/
namespace Go.Proofs.YtbocnaoihepjfaaGreat.Pv
open Go Go.Pev
variable {m : Mod} {ts : List (List Int)} {n0 : Nat}

def wtS (s : List UInt8) : Nat := if (takeP s).1.kind = 1 then 2 else 1
def wtB (b : List (List UInt8)) : Nat := (b.map wtS).sum
def mu (m : Mod) (F : Flt) : Nat := wtB F.bag + 64 * (m.lays.length - F.at_)
theorem wtS_in (s : List UInt8) : 1 ≤ wtS s ∧ wtS s ≤ 2 := by unfold wtS; split <;> omega
theorem wtB_cons (s : List UInt8) (b : List (List UInt8)) : wtB (s :: b) = wtS s + wtB b := by simp [wtB]
theorem wtB_app (a b : List (List UInt8)) : wtB (a ++ b) = wtB a + wtB b := by simp [wtB]
theorem wtB_le : ∀ b : List (List UInt8), wtB b ≤ 2 * b.length
  | [] => by simp [wtB]
  | s :: b => by
    have := wtB_le b
    have := wtS_in s
    rw [wtB_cons, List.length_cons]; omega
theorem wt_send {b : List (List UInt8)} {a : Msg} (k : a.kind ≠ 1) : wtB (sendB b a) ≤ wtB b + 1 := by
  rcases sendB_is (b := b) (a := a) with e | ⟨e1, -, e⟩
  · rw [e]; omega
  · rw [e, wtB_app]
    have : wtB [putB a] = 1 := by
      rw [wtB_cons]
      unfold wtS
      rw [take_put e1, if_neg k]
      rfl
    omega
theorem wt_send2 {b : List (List UInt8)} {a : Msg} : wtB (sendB b a) ≤ wtB b + 2 := by
  rcases sendB_is (b := b) (a := a) with e | ⟨e1, -, e⟩
  · rw [e]; omega
  · rw [e, wtB_app]
    have := wtB_le [putB a]
    simp at this
    omega
theorem wt_askL (F : Flt) : ∀ (l : List (Pt × Bool)) (b : List (List UInt8)), wtB (askL F l b) ≤ wtB b + 2 * l.length
  | [], b => by simp [askL]
  | x :: r, b => by
    unfold askL
    rw [List.length_cons]
    split
    · have := wt_askL F r b; omega
    · have := wt_askL F r (sendB b (askM F x.1))
      have := wt_send2 (b := b) (a := askM F x.1)
      omega
theorem mu_step {F : Flt} (hS : Setup m ts n0) (h : Inv0 m ts n0 F) (hc : F.at_ < m.lays.length) (hf : ¬ false ∈ F.answd) : mu m (stepP F) ≤ mu m F := by
  obtain ⟨i1, -, i3⟩ := inv_step hS h hc hf
  unfold mu
  rw [i3]
  have hb : wtB (stepP F).bag ≤ wtB F.bag + 64 := by
    unfold stepP beginP
    split
    · rename_i c
      have e : (newP (onP F)).toks = tokN m ts (F.at_ + 1) := by
        have h1 := i1.toks
        rw [i3] at h1
        rw [← h1]
        unfold stepP beginP
        rw [if_pos c]
        exact (askP_m _).2.2.2.2.1.symm
      have c2 : F.at_ + 1 < m.lays.length := by simp only [onP, h.mo] at c; exact c
      have ep : (newP (onP F)).parts.length ≤ 32 := by
        have h2 : (newP (onP F)).parts = partsP (layAt m (F.at_ + 1 : Nat)) (newP (onP F)).toks := by simp only [newP, onP, h.mo]
        rw [h2, e]
        exact (hS.few c2).2
      unfold askP
      split
      · have := wt_askL (newP (onP F)) ((newP (onP F)).parts.zip (newP (onP F)).answd) (newP (onP F)).bag
        have hz : ((newP (onP F)).parts.zip (newP (onP F)).answd).length ≤ 32 := by rw [List.length_zip]; omega
        have eb : (newP (onP F)).bag = F.bag := rfl
        rw [eb] at this
        simp only
        rw [eb]
        omega
      · have eb : (newP (onP F)).bag = F.bag := rfl
        rw [eb]; omega
    · have eb : (onP F).bag = F.bag := rfl
      rw [eb]; omega
  omega
theorem mu_come (hS : Setup m ts n0) : ∀ (k : Nat) {F : Flt}, Inv0 m ts n0 F → mu m (comeN k F) ≤ mu m F
  | 0, F, h => Nat.le_refl _
  | k + 1, F, h => by
    unfold comeN
    by_cases c : F.at_ < F.m.lays.length ∧ ¬ false ∈ F.answd
    · rw [if_pos c]
      obtain ⟨c1, c2⟩ := c
      rw [h.mo] at c1
      have := mu_step hS h c1 c2
      have := mu_come hS k (inv_step hS h c1 c2).1
      omega
    · rw [if_neg c]; exact Nat.le_refl _
theorem node_kind (F : Flt) (a : Msg) (h : (nodeP F a).2.2 = true) : (nodeP F a).2.1.kind ≠ 1 := by
  unfold nodeP workP at h ⊢
  split
  · rename_i c; rw [if_pos c] at h; cases h
  · split
    · simp [staleOf]
    · simp [answerOf]
theorem mu_delv {F : Flt} (hS : Setup m ts n0) (h : Inv0 m ts n0 F) (hs : Settled m F) {s : List UInt8} {b : List (List UInt8)} (hb : F.bag = s :: b) : mu m (delvP F 0).1 < mu m F := by
  rw [delv_cons hb]
  have hfull := h.full
  rw [hb] at hfull
  simp only [List.length_cons] at hfull
  have h' : Inv0 m ts n0 { F with bag := b } := h.bagged (fun x hx => h.bag x (by rw [hb]; exact List.mem_cons_of_mem _ hx)) (by omega)
  obtain ⟨a, n, p, rfl, hw, hn, hp, hk⟩ := h.bag s (by rw [hb]; exact List.mem_cons_self)
  have hmu : mu m F = wtS (putB a) + wtB b + 64 * (m.lays.length - F.at_) := by unfold mu; rw [hb, wtB_cons]
  have hw1 := wtS_in (putB a)
  simp only [gotP, take_put hw, ne_eq, not_true_eq_false, if_false]
  by_cases h0 : a.to = 0
  · rw [if_pos h0]
    have hle : mu m (answerP { F with bag := b } a) ≤ wtB b + 64 * (m.lays.length - F.at_) := by
      by_cases hA : goodA { F with bag := b } a ∧ 0 ≤ fidx (hitP a) F.parts ∧ F.answd.getD (fidx (hitP a) F.parts).toNat true = false
      · have eA : answerP { F with bag := b } a = comeP (setP { F with bag := b } (fidx (hitP a) F.parts).toNat a.vec) := by
          unfold answerP; rw [if_pos hA]
        obtain ⟨i1, i2, i3⟩ := inv_answer hS h' hs hn hp hk
        rw [eA]
        -- the state that comes on
        have hI : Inv0 m ts n0 (setP { F with bag := b } (fidx (hitP a) F.parts).toNat a.vec) := inv_set hS h' hn hp hk hA
        exact mu_come hS _ hI
      · have eA : answerP { F with bag := b } a = { F with bag := b } := by
          unfold answerP; rw [if_neg hA]
        rw [eA]
        exact Nat.le_refl _
    omega
  · rw [if_neg h0]
    have hk1 : a.kind = 1 ∧ a.to ≤ 4 := by
      rcases hk.2.2.2.2.2 with ⟨k, f, t, -⟩ | ⟨-, k, -⟩ | ⟨-, k⟩
      · exact ⟨k, t.2⟩
      · exact absurd k h0
      · exact absurd k h0
    rw [if_pos hk1.2]
    have hw2 : wtS (putB a) = 2 := by unfold wtS; rw [take_put hw, if_pos hk1.1]
    have ebag : (workF { F with bag := b } a).bag = if (nodeP { F with bag := b } a).2.2 then sendB b (nodeP { F with bag := b } a).2.1 else b := rfl
    have hle : wtB (workF { F with bag := b } a).bag ≤ wtB b + 1 := by
      rw [ebag]
      split
      · rename_i c; exact wt_send (node_kind _ _ c)
      · omega
    have : mu m (workF { F with bag := b } a) = wtB (workF { F with bag := b } a).bag + 64 * (m.lays.length - F.at_) := rfl
    omega
/-! ### all frames delivered, in their order -/
def drn : Nat → Flt → Flt
  | 0, F => F
  | k + 1, F => if F.bag = [] then F else drn k (delvP F 0).1
theorem drn_ok (hS : Setup m ts n0) : ∀ (k : Nat) (F : Flt), Inv m ts n0 F → Inv m ts n0 (drn k F) ∧ F.at_ ≤ (drn k F).at_ ∧ (mu m F ≤ k → (drn k F).bag = [])
  | 0, F, h => ⟨h, Nat.le_refl _, fun hk => by
    show F.bag = []
    cases hb : F.bag with
    | nil => rfl
    | cons s b =>
      have := wtS_in s
      unfold mu at hk
      rw [hb, wtB_cons] at hk
      omega⟩
  | k + 1, F, h => by
    unfold drn
    by_cases hb : F.bag = []
    · rw [if_pos hb]; exact ⟨h, Nat.le_refl _, fun _ => hb⟩
    · rw [if_neg hb]
      obtain ⟨s, b, e⟩ := List.exists_cons_of_ne_nil hb
      have h1 := inv_delv hS h.1 h.2 0
      have h2 := mu_delv hS h.1 h.2 e
      obtain ⟨q1, q2, q3⟩ := drn_ok hS k (delvP F 0).1 ⟨h1.1, h1.2.1⟩
      exact ⟨q1, by omega, fun hk => q3 (by omega)⟩
theorem pend_none {F : Flt} (h : Inv m ts n0 F) (hc : F.at_ < m.lays.length) (hP : Pend m ts F) (hb : F.bag = []) : False := by
  have hf := h.2 hc
  obtain ⟨i, hi, e⟩ := List.mem_iff_getElem.1 hf
  have hl := (h.1.lens hc).2
  rw [h.1.parts hc] at hl
  obtain ⟨s, hs, -⟩ := hP i (by omega) (by rw [List.getD_eq_getElem?_getD, List.getElem?_eq_getElem hi, e]; rfl)
  rw [hb] at hs
  cases hs
theorem drn_pend (hS : Setup m ts n0) (a0 : Nat) (ha : a0 < m.lays.length) : ∀ (k : Nat) (F : Flt), Inv m ts n0 F → (a0 < F.at_ ∨ (F.at_ = a0 ∧ Pend m ts F)) → (drn k F).bag = [] → a0 < (drn k F).at_
  | 0, F, h, hp, hb => by
    rcases hp with hp | ⟨e, hp⟩
    · exact hp
    · exact (pend_none h (by omega) hp hb).elim
  | k + 1, F, h, hp, hb => by
    unfold drn at hb ⊢
    by_cases hb0 : F.bag = []
    · rw [if_pos hb0] at hb ⊢
      rcases hp with hp | ⟨e, hp⟩
      · exact hp
      · exact (pend_none h (by omega) hp hb).elim
    · rw [if_neg hb0] at hb ⊢
      obtain ⟨s, b, e⟩ := List.exists_cons_of_ne_nil hb0
      have h1 := inv_delv hS h.1 h.2 0
      refine drn_pend hS a0 ha k (delvP F 0).1 ⟨h1.1, h1.2.1⟩ ?_ hb
      rcases hp with hp | ⟨e2, hp⟩
      · left; omega
      · rcases pend_step hS h.1 h.2 (by omega) hp e with q | ⟨q1, q2⟩
        · left; omega
        · right; exact ⟨by omega, q2⟩
theorem askL_in {F : Flt} : ∀ (l : List (Pt × Bool)) (b : List (List UInt8)), b.length + l.length ≤ 200 → (∀ x ∈ l, wrightM (askM F x.1) = true) → (∀ s ∈ b, s ∈ askL F l b) ∧ ∀ x ∈ l, x.2 = false → putB (askM F x.1) ∈ askL F l b
  | [], b, _, _ => ⟨fun s h => h, fun x h => by cases h⟩
  | y :: r, b, hl, hw => by
    unfold askL
    rw [List.length_cons] at hl
    have hwr : ∀ x ∈ r, wrightM (askM F x.1) = true := fun x hx => hw x (List.mem_cons_of_mem _ hx)
    by_cases hy : y.2 = true
    · rw [if_pos hy]
      obtain ⟨a1, a2⟩ := askL_in r b (by omega) hwr
      refine ⟨a1, fun x hx hf => ?_⟩
      rcases List.mem_cons.1 hx with rfl | hx
      · rw [hy] at hf; cases hf
      · exact a2 x hx hf
    · rw [if_neg hy]
      have hsl : (sendB b (askM F y.1)).length ≤ b.length + 1 := by
        rcases sendB_is (b := b) (a := askM F y.1) with e | ⟨-, -, e⟩
        · rw [e]; omega
        · rw [e]; simp
      obtain ⟨a1, a2⟩ := askL_in r (sendB b (askM F y.1)) (by omega) hwr
      refine ⟨fun s hs => a1 s (mem_sendB hs), fun x hx hf => ?_⟩
      rcases List.mem_cons.1 hx with rfl | hx
      · exact a1 _ (new_sendB (hw _ List.mem_cons_self) (by omega))
      · exact a2 x hx hf
/-- All is asked for anew, when nothing is on its way. -/
theorem ask_pend {F : Flt} (hS : Setup m ts n0) (h : Inv0 m ts n0 F) (hb : F.bag = []) (hc : F.at_ < m.lays.length) : Pend m ts (askP F) := by
  obtain ⟨e1, e2, e3, e4, e5, e6, e7, e8, e9⟩ := askP_m F
  have hp := h.parts hc
  have hl := (h.lens hc).2
  have hfew := hS.few hc
  have ebag : (askP F).bag = askL F (F.parts.zip F.answd) F.bag := by
    unfold askP; rw [if_pos (by rw [h.mo]; exact hc)]
  have hz : (F.parts.zip F.answd).length = (ptsN m ts F.at_).length := by rw [List.length_zip, hl, hp, Nat.min_self]
  obtain ⟨a1, a2⟩ := askL_in (F := F) (F.parts.zip F.answd) F.bag (by rw [hb, hz]; simp; omega) (fun x hx => by
    have := (List.of_mem_zip (a := x.1) (b := x.2) hx).1
    rw [hp] at this
    exact (ask_kin hS h hc this).1)
  intro i hi hd
  rw [e2] at hi
  rw [e9] at hd
  have hia : i < F.answd.length := by rw [hl, hp]; exact hi
  have hif : F.answd[i] = false := by
    rw [List.getD_eq_getElem?_getD, List.getElem?_eq_getElem hia] at hd; exact hd
  have hm : ((ptsN m ts F.at_)[i], false) ∈ F.parts.zip F.answd := by
    rw [← hif]
    have hzi : i < (F.parts.zip F.answd).length := by omega
    have : (F.parts.zip F.answd)[i] = ((ptsN m ts F.at_)[i], F.answd[i]) := by
      rw [List.getElem_zip]
      simp only [hp]
    rw [← this]
    exact List.getElem_mem hzi
  have hin := a2 _ hm rfl
  obtain ⟨k1, k2, k3, k4, k5⟩ := ask_kin hS h hc (List.getElem_mem hi)
  refine ⟨_, by rw [ebag]; exact hin, askM F (ptsN m ts F.at_)[i], rfl, k1, ?_, .inr ⟨k4, by rw [e3]; exact k5, ?_⟩⟩
  · have : (askP F).at_ = F.at_ := e2
    simp only [this]; exact k2
  · have : (askP F).at_ = F.at_ := e2
    rw [e4]; simp only [this]; exact k3
/-- Behind so many rounds. -/
def RI (m : Mod) (ts : List (List Int)) (n0 r : Nat) (F : Flt) : Prop := Inv m ts n0 F ∧ (r = 0 ∨ (min (r - 1) m.lays.length ≤ F.at_ ∧ (F.at_ < m.lays.length → Pend m ts F)))
theorem mu_le {F : Flt} (hS : Setup m ts n0) (h : Inv0 m ts n0 F) : mu m F ≤ 1000 := by
  have := wtB_le F.bag
  have := h.full
  have := hS.nl
  unfold mu
  omega
theorem drn_round {r : Nat} {F : Flt} (hS : Setup m ts n0) (h : RI m ts n0 r F) : Inv m ts n0 (drn 2000 F) ∧ (drn 2000 F).bag = [] ∧ min r m.lays.length ≤ (drn 2000 F).at_ := by
  obtain ⟨hI, hr⟩ := h
  obtain ⟨q1, q2, q3⟩ := drn_ok hS 2000 F hI
  have hb := q3 (by have := mu_le hS hI.1; omega)
  refine ⟨q1, hb, ?_⟩
  rcases hr with rfl | ⟨h1, h2⟩
  · omega
  · by_cases c : F.at_ < m.lays.length
    · have := drn_pend hS F.at_ c 2000 F hI (.inr ⟨rfl, h2 c⟩) hb
      omega
    · omega
theorem round_ok {r : Nat} {F : Flt} (hS : Setup m ts n0) (h : RI m ts n0 r F) : RI m ts n0 (r + 1) (askP (drn 2000 F)) := by
  obtain ⟨q1, q2, q3⟩ := drn_round hS h
  refine ⟨⟨inv_ask hS q1.1, settled_ask q1.2⟩, .inr ⟨?_, fun hc => ?_⟩⟩
  · rw [(askP_m _).2.1]; exact q3
  · rw [(askP_m _).2.1] at hc
    exact ask_pend hS q1.1 q2 hc
theorem ends_at {F : Flt} (hS : Setup m ts n0) (h : RI m ts n0 (m.lays.length + 1) F) : Inv m ts n0 (drn 2000 F) ∧ (drn 2000 F).at_ = m.lays.length := by
  obtain ⟨q1, q2, q3⟩ := drn_round hS h
  have := q1.1.at_
  exact ⟨q1, by omega⟩
/-! ### how much is worked out -/
def allKeys (L T : Nat) : List LKey := (List.range L).flatMap fun (n : Nat) => (List.range T).flatMap fun (t : Nat) => [⟨1, (n : Int), (t : Int), 0⟩, ⟨1, (n : Int), (t : Int), 1⟩]
theorem allKeys_len (L T : Nat) : (allKeys L T).length = 2 * T * L := by
  simp [allKeys, List.length_flatMap, List.map_const', Nat.mul_comm, Nat.mul_left_comm]
theorem led_len (hS : Setup m ts n0) {l : List Ent} (h1 : ∀ e ∈ l, GoodE m ts e) (h2 : (l.map (·.key)).Nodup) : l.length ≤ 2 * ts.length * m.lays.length := by
  have hsub : l.map (·.key) ⊆ allKeys m.lays.length ts.length := by
    intro k hk
    obtain ⟨e, he, rfl⟩ := List.mem_map.1 hk
    obtain ⟨n, p, hn, hp, ek, -⟩ := h1 e he
    obtain ⟨⟨p1, p2⟩, ⟨p3, p4⟩, -⟩ := hS.pts hn hp
    rw [ek]
    unfold allKeys
    refine List.mem_flatMap.2 ⟨n, List.mem_range.2 hn, List.mem_flatMap.2 ⟨p.token.toNat, List.mem_range.2 (by omega), ?_⟩⟩
    have ht : ((p.token.toNat : Nat) : Int) = p.token := by omega
    rw [ht]
    have : p.rank = 0 ∨ p.rank = 1 := by omega
    rcases this with e | e <;> rw [e] <;> simp
  have := List.Nodup.length_le_of_subset h2 hsub
  rw [List.length_map, allKeys_len] at this
  exact this
theorem worked_le {F : Flt} (hS : Setup m ts n0) (h : Inv0 m ts n0 F) : workedP F ≤ 8 * ts.length * m.lays.length := by
  obtain ⟨h5, h0⟩ := h.led0
  have hall := h.led
  unfold workedP
  match hl : F.led, h5 with
  | [a, b, c, d, e], _ =>
    rw [hl] at h0 hall
    have hx : ∀ l ∈ [a, b, c, d, e], l.length ≤ 2 * ts.length * m.lays.length := fun l hl => led_len hS (hall l hl).1 (hall l hl).2
    have ha : a = [] := h0
    have hb := hx b (by simp)
    have hc := hx c (by simp)
    have hd := hx d (by simp)
    have he := hx e (by simp)
    subst ha
    have e8 : 8 * ts.length * m.lays.length = 4 * (2 * ts.length * m.lays.length) := by
      rw [Nat.mul_assoc, Nat.mul_assoc, ← Nat.mul_assoc 4]
    rw [e8]
    simp only [List.map_cons, List.map_nil, List.sum_cons, List.sum_nil, List.length_nil]
    omega
end Go.Proofs.YtbocnaoihepjfaaGreat.Pv
end

section
/- FleetEnds, reckoned: its loops. -/
set_option maxRecDepth 100000
namespace Go.Proofs.YtbocnaoihepjfaaGreat.Pv
open Go Go.Pev
variable {N n0 : Nat} {m : Mod} {ts : List (List Int)}

theorem ok_le {F : Flt} {N N' : Nat} (h : Ok N F) (hl : N ≤ N') : Ok N' F := ⟨h.f0, h.f1, h.ans, fun l hx => ⟨by have := (h.led l hx).1; omega, (h.led l hx).2⟩, h.bags, h.led5⟩
def mbx (m : Mod) : Ob := .box 24 [iv m.dim, .t (laysT m)]
/-- A fleet in memory, with the model beside it. -/
structure EI (m : Mod) (ts : List (List Int)) (n0 N : Nat) (h : HP) (ck cf ca cb : Nat) (F : Flt) : Prop where
  s : FlS h ck cf ca cb F
  o : Ok N F
  i : Inv m ts n0 F
  g : h.get ⟨4, 0, 0⟩ = some (mbx m)
  c : 0 < ck
theorem EI.up {h : HP} {ck ck' cf ca cb : Nat} {F : Flt} (x : EI m ts n0 N h ck cf ca cb F) (hl : ck ≤ ck') : EI m ts n0 N h ck' cf ca cb F := ⟨fls_le x.s hl, x.o, x.i, x.g, by have := x.c; omega⟩
theorem ran_box {h h' : HP} {ck ck' cf ca cb ca' cb' : Nat} (r : Ran h ck cf ca cb h' ck' ca' cb') (hc : 0 < ck) {o : Ob} (hg : h.get ⟨4, 0, 0⟩ = some o) : h'.get ⟨4, 0, 0⟩ = some o := by
  rw [r.fr ⟨4, 0, 0⟩ hc (by simp) (by simp) (by simp)]; exact hg
def en0I (m : Mod) (ts : List (List Int)) (n0 : Nat) (acts : List Act) (cf : Nat) (i : Nat) (s : St) : Prop := ∃ h ck ca cb F, s = ⟨[(2, .t (gl ts)), (3, .t (.l (acts.map actC))), (4, .pt ⟨4, 0, 0⟩ 2 0 0), (9, .pt ⟨34, cf, 5⟩ 15 0 0), (11, iv (i : Int))], h, ck⟩ ∧ EI m ts n0 i h ck cf ca cb F
def en0Q (m : Mod) (ts : List (List Int)) (n0 : Nat) (cf : Nat) (E : Option (Ex × St)) : Prop := ∃ x y e h ck ca cb F, E = some (.exit 0, ⟨(2, .t (gl ts)) :: (3, x) :: (4, .pt ⟨4, 0, 0⟩ 2 0 0) :: (9, .pt ⟨34, cf, 5⟩ 15 0 0) :: (11, y) :: e, h, ck⟩) ∧ EI m ts n0 200 h ck cf ca cb F
theorem en0_loop (hS : Setup m ts n0) (acts : List Act) (cf : Nat) (hA : ∀ a ∈ acts, FewA a) {h : HP} {ck ca cb : Nat} {F : Flt} (x : EI m ts n0 0 h ck cf ca cb F) : en0Q m ts n0 cf (evL cfg (.loop f7l0) ⟨[(2, .t (gl ts)), (3, .t (.l (acts.map actC))), (4, .pt ⟨4, 0, 0⟩ 2 0 0), (9, .pt ⟨34, cf, 5⟩ 15 0 0), (11, iv 0)], h, ck⟩) := by
  refine loop_q (min acts.length 200) (en0I m ts n0 acts cf) ?_ ?_ _ ⟨h, ck, ca, cb, F, rfl, x⟩
  · rintro i s hi ⟨h, ck, ca, cb, F, rfl, x⟩
    have hi1 : i < acts.length := by omega
    have hi2 : i < 200 := by omega
    have hw : IntKind.i64.wrap ((i : Int) + 1) = (i : Int) + 1 := wrap_id (by omega) (by omega)
    have h1' : (i : Int) < 200 := by omega
    have fa := hA _ (List.getElem_mem hi1)
    generalize ha : acts[i] = a at *
    obtain ⟨h2, k2, ca2, cb2, r2, s2, o2, m2⟩ := do_run (ck := ck + 1 + 1) a fa (fls_le x.s (by omega)) x.o (by omega)
    have q2 := fun e k => callEv_h (C := cfg) (s := ⟨e, _, ck + 1⟩) rfl r2 k
    have hs2 : actC a = [.i .u8 a.k, .i .u8 a.n, .i .u8 a.m] := rfl
    have hs : en0I m ts n0 acts cf (i + 1) ⟨[(2, .t (gl ts)), (3, .t (.l (acts.map actC))), (4, .pt ⟨4, 0, 0⟩ 2 0 0), (9, .pt ⟨34, cf, 5⟩ 15 0 0), (11, iv ((i + 1 : Nat) : Int))], h2, k2 + 1 + 1 + 1⟩ := ⟨_, _, _, _, doP F a, rfl, ⟨fls_le s2 (by omega), o2, inv_do hS x.i a, ran_box m2 (by omega) x.g, by omega⟩⟩
    generalize doP F a = G at *
    simp only [actV, iv] at q2
    simp [gl] at hs
    simp [f7l0e, gl, hi1, hi2, h1', ha, hs2, q2, hw, filt_t]
    exact hs
  · rintro s ⟨h, ck, ca, cb, F, rfl, x⟩
    have x' : EI m ts n0 200 h (ck + 1) cf ca cb F := ⟨fls_le x.s (by omega), ok_le x.o (by omega), x.i, x.g, by omega⟩
    by_cases c : acts.length ≤ 200
    · have e : min acts.length 200 = acts.length := by omega
      rw [e]
      simp [f7l0e, filt_t]
      exact ⟨_, _, _, _, _, _, _, F, rfl, x'⟩
    · have e : min acts.length 200 = 200 := by omega
      have c' : (200 : Int) < acts.length := by omega
      have c2 : 200 < acts.length := by omega
      rw [e]
      simp [f7l0e, filt_t, c', c2]
      exact ⟨_, _, _, _, _, _, _, F, rfl, x'⟩
/-- All frames delivered, in a round. -/
theorem en1_loop (hS : Setup m ts n0) (cf : Nat) (w2 w4 w68 w69 : V) : ∀ (j k : Nat) {N : Nat} {h : HP} {ck ca cb : Nat} {F : Flt}, k + j = 2000 → N + j ≤ 700000 → EI m ts n0 N h ck cf ca cb F → ∃ e h' ck' ca' cb', evL cfg (.loop f7l1) ⟨[(2, w2), (4, w4), (9, .pt ⟨34, cf, 5⟩ 15 0 0), (68, w68), (69, w69), (71, iv (k : Int))], h, ck⟩ = some (.exit 4, ⟨(2, w2) :: (4, w4) :: (9, .pt ⟨34, cf, 5⟩ 15 0 0) :: (68, w68) :: (69, w69) :: e, h', ck'⟩) ∧ EI m ts n0 (N + j + 1) h' ck' cf ca' cb' (drn j F)
  | 0, k, N, h, ck, ca, cb, F, hk, hN, x => by
    have hk' : ¬ (k : Int) < 2000 := by omega
    have hk2 : ¬ k < 2000 := by omega
    have hE : ∃ e, evL cfg (.loop f7l1) ⟨[(2, w2), (4, w4), (9, .pt ⟨34, cf, 5⟩ 15 0 0), (68, w68), (69, w69), (71, iv (k : Int))], h, ck⟩ = some (.exit 4, ⟨(2, w2) :: (4, w4) :: (9, .pt ⟨34, cf, 5⟩ 15 0 0) :: (68, w68) :: (69, w69) :: e, h, ck + 1⟩) := by
      rw [evL_loop]
      simp [f7l1e, hk', hk2, filt_t]
    obtain ⟨e, hE⟩ := hE
    exact ⟨e, h, ck + 1, ca, cb, hE, ⟨fls_le x.s (by omega), ok_le x.o (by omega), x.i, x.g, by omega⟩⟩
  | j + 1, k, N, h, ck, ca, cb, F, hk, hN, x => by
    have hk' : (k : Int) < 2000 := by omega
    have hk2 : k < 2000 := by omega
    have hw : IntKind.i64.wrap ((k : Int) + 1) = (k : Int) + 1 := wrap_id (by omega) (by omega)
    obtain ⟨h2, k2, ca2, cb2, r2, s2, o2, m2⟩ := deliver_run (ck := ck + 1 + 1) 0 (fls_le x.s (by omega)) x.o (by omega)
    have q2 := fun e k => callEv_h (C := cfg) (s := ⟨e, h, ck + 1⟩) rfl r2 k
    have hI := inv_delv hS x.i.1 x.i.2 0
    unfold drn
    by_cases hb : F.bag = []
    · rw [if_pos hb]
      rw [delv_nil hb] at r2 s2 o2 q2
      have hE : ∃ e, evL cfg (.loop f7l1) ⟨[(2, w2), (4, w4), (9, .pt ⟨34, cf, 5⟩ 15 0 0), (68, w68), (69, w69), (71, iv (k : Int))], h, ck⟩ = some (.exit 4, ⟨(2, w2) :: (4, w4) :: (9, .pt ⟨34, cf, 5⟩ 15 0 0) :: (68, w68) :: (69, w69) :: e, h2, k2 + 2⟩) := by
        simp only [iv] at q2
        rw [evL_loop]
        simp [f7l1e, hk', hk2, q2, filt_t]
      obtain ⟨e, hE⟩ := hE
      exact ⟨e, h2, k2 + 2, ca2, cb2, hE, ⟨fls_le s2 (by omega), ok_le o2 (by omega), x.i, ran_box m2 (by omega) x.g, by omega⟩⟩
    · rw [if_neg hb]
      obtain ⟨y, b, e⟩ := List.exists_cons_of_ne_nil hb
      have hz : (delvP F 0).2 = 0 := by rw [delv_cons e]
      rw [hz] at q2
      obtain ⟨e3, h3, k3, ca3, cb3, r3, x3⟩ := en1_loop hS cf w2 w4 w68 w69 j (k + 1) (N := N + 1) (h := h2) (ck := k2 + 1 + 1 + 1) (ca := ca2) (cb := cb2) (F := (delvP F 0).1) (by omega) (by omega) ⟨fls_le s2 (by omega), o2, ⟨hI.1, hI.2.1⟩, ran_box m2 (by omega) x.g, by omega⟩
      refine ⟨e3, h3, k3, ca3, cb3, ?_, by rw [show N + (j + 1) + 1 = N + 1 + j + 1 by omega]; exact x3⟩
      rw [← r3]
      refine evL_loop_n ?_
      simp only [iv] at q2
      simp [f7l1e, hk', hk2, hw, q2, filt_t]
theorem en3_loop (hS : Setup m ts n0) (cf : Nat) (w2 w4 : V) : ∀ (j k : Nat) {N : Nat} {h : HP} {ck ca cb : Nat} {F : Flt}, k + j = 2000 → N + j ≤ 700000 → EI m ts n0 N h ck cf ca cb F → ∃ e h' ck' ca' cb', evL cfg (.loop f7l3) ⟨[(2, w2), (4, w4), (9, .pt ⟨34, cf, 5⟩ 15 0 0), (80, iv (k : Int))], h, ck⟩ = some (.exit 6, ⟨(2, w2) :: (4, w4) :: (9, .pt ⟨34, cf, 5⟩ 15 0 0) :: e, h', ck'⟩) ∧ EI m ts n0 (N + j + 1) h' ck' cf ca' cb' (drn j F)
  | 0, k, N, h, ck, ca, cb, F, hk, hN, x => by
    have hk' : ¬ (k : Int) < 2000 := by omega
    have hk2 : ¬ k < 2000 := by omega
    have hE : ∃ e, evL cfg (.loop f7l3) ⟨[(2, w2), (4, w4), (9, .pt ⟨34, cf, 5⟩ 15 0 0), (80, iv (k : Int))], h, ck⟩ = some (.exit 6, ⟨(2, w2) :: (4, w4) :: (9, .pt ⟨34, cf, 5⟩ 15 0 0) :: e, h, ck + 1⟩) := by
      rw [evL_loop]
      simp [f7l3e, hk', hk2, filt_t]
    obtain ⟨e, hE⟩ := hE
    exact ⟨e, h, ck + 1, ca, cb, hE, ⟨fls_le x.s (by omega), ok_le x.o (by omega), x.i, x.g, by omega⟩⟩
  | j + 1, k, N, h, ck, ca, cb, F, hk, hN, x => by
    have hk' : (k : Int) < 2000 := by omega
    have hk2 : k < 2000 := by omega
    have hw : IntKind.i64.wrap ((k : Int) + 1) = (k : Int) + 1 := wrap_id (by omega) (by omega)
    obtain ⟨h2, k2, ca2, cb2, r2, s2, o2, m2⟩ := deliver_run (ck := ck + 1 + 1) 0 (fls_le x.s (by omega)) x.o (by omega)
    have q2 := fun e k => callEv_h (C := cfg) (s := ⟨e, h, ck + 1⟩) rfl r2 k
    have hI := inv_delv hS x.i.1 x.i.2 0
    unfold drn
    by_cases hb : F.bag = []
    · rw [if_pos hb]
      rw [delv_nil hb] at r2 s2 o2 q2
      have hE : ∃ e, evL cfg (.loop f7l3) ⟨[(2, w2), (4, w4), (9, .pt ⟨34, cf, 5⟩ 15 0 0), (80, iv (k : Int))], h, ck⟩ = some (.exit 6, ⟨(2, w2) :: (4, w4) :: (9, .pt ⟨34, cf, 5⟩ 15 0 0) :: e, h2, k2 + 2⟩) := by
        simp only [iv] at q2
        rw [evL_loop]
        simp [f7l3e, hk', hk2, q2, filt_t]
      obtain ⟨e, hE⟩ := hE
      exact ⟨e, h2, k2 + 2, ca2, cb2, hE, ⟨fls_le s2 (by omega), ok_le o2 (by omega), x.i, ran_box m2 (by omega) x.g, by omega⟩⟩
    · rw [if_neg hb]
      obtain ⟨y, b, e⟩ := List.exists_cons_of_ne_nil hb
      have hz : (delvP F 0).2 = 0 := by rw [delv_cons e]
      rw [hz] at q2
      obtain ⟨e3, h3, k3, ca3, cb3, r3, x3⟩ := en3_loop hS cf w2 w4 j (k + 1) (N := N + 1) (h := h2) (ck := k2 + 1 + 1 + 1) (ca := ca2) (cb := cb2) (F := (delvP F 0).1) (by omega) (by omega) ⟨fls_le s2 (by omega), o2, ⟨hI.1, hI.2.1⟩, ran_box m2 (by omega) x.g, by omega⟩
      refine ⟨e3, h3, k3, ca3, cb3, ?_, by rw [show N + (j + 1) + 1 = N + 1 + j + 1 by omega]; exact x3⟩
      rw [← r3]
      refine evL_loop_n ?_
      simp only [iv] at q2
      simp [f7l3e, hk', hk2, hw, q2, filt_t]
/-- The rounds. -/
theorem en2_loop (hS : Setup m ts n0) (cf : Nat) (w2 w4 : V) : ∀ (j r : Nat) {N : Nat} {h : HP} {ck ca cb : Nat} {F : Flt}, r + j = m.lays.length + 1 → N + 2002 * j ≤ 600000 → EI m ts n0 N h ck cf ca cb F → RI m ts n0 r F → ∃ e h' ck' ca' cb' G, evL cfg (.loop f7l2) ⟨[(2, w2), (4, w4), (9, .pt ⟨34, cf, 5⟩ 15 0 0), (68, iv ((m.lays.length + 1 : Nat) : Int)), (69, iv (r : Int))], h, ck⟩ = some (.exit 2, ⟨(2, w2) :: (4, w4) :: (9, .pt ⟨34, cf, 5⟩ 15 0 0) :: e, h', ck'⟩) ∧ EI m ts n0 (N + 2002 * j) h' ck' cf ca' cb' G ∧ RI m ts n0 (m.lays.length + 1) G
  | 0, r, N, h, ck, ca, cb, F, hr, hN, x, hRI => by
    obtain rfl : r = m.lays.length + 1 := by omega
    have hE : ∃ e, evL cfg (.loop f7l2) ⟨[(2, w2), (4, w4), (9, .pt ⟨34, cf, 5⟩ 15 0 0), (68, iv ((m.lays.length + 1 : Nat) : Int)), (69, iv ((m.lays.length + 1 : Nat) : Int))], h, ck⟩ = some (.exit 2, ⟨(2, w2) :: (4, w4) :: (9, .pt ⟨34, cf, 5⟩ 15 0 0) :: e, h, ck + 1⟩) := by
      rw [evL_loop]
      simp [f7l2e, filt_t]
    obtain ⟨e, hE⟩ := hE
    exact ⟨e, h, ck + 1, ca, cb, F, hE, ⟨fls_le x.s (by omega), ok_le x.o (by omega), x.i, x.g, by omega⟩, hRI⟩
  | j + 1, r, N, h, ck, ca, cb, F, hr, hN, x, hRI => by
    have hnl := hS.nl
    have hr1 : (r : Int) < (m.lays.length + 1 : Nat) := by omega
    have hr2 : (r : Int) < (m.lays.length : Int) + 1 := by omega
    have hr3 : r < m.lays.length + 1 := by omega
    have hw : IntKind.i64.wrap ((r : Int) + 1) = (r : Int) + 1 := wrap_id (by omega) (by omega)
    obtain ⟨e1, h1, k1, ca1, cb1, r1, x1⟩ := en1_loop hS cf w2 w4 (iv ((m.lays.length + 1 : Nat) : Int)) (iv (r : Int)) 2000 0 (by omega) (by omega) (x.up (ck' := ck + 1 + 1) (by omega))
    obtain ⟨h2, k2, r2, s2, o2, m2⟩ := askS_run (ck := k1 + 1) (fls_le x1.s (by omega)) x1.o
    have q2 := fun e k => callEv_h (C := cfg) (s := ⟨e, h1, k1⟩) rfl r2 k
    have hRI2 := round_ok hS hRI
    obtain ⟨e3, h3, k3, ca3, cb3, G, r3, x3, hR3⟩ := en2_loop hS cf w2 w4 j (r + 1) (N := N + 2000 + 1) (h := h2) (ck := k2 + 1 + 1 + 1) (ca := ca1) (cb := cb1) (F := askP (drn 2000 F)) (by omega) (by omega) ⟨fls_le s2 (by omega), o2, hRI2.1, ran_box m2 (by omega) x1.g, by omega⟩ hRI2
    refine ⟨e3, h3, k3, ca3, cb3, G, ?_, ⟨x3.s, ok_le x3.o (by omega), x3.i, x3.g, x3.c⟩, hR3⟩
    rw [← r3]
    refine evL_loop_n ?_
    simp only [iv, Int.natCast_zero] at q2 r1
    simp at r1
    simp [f7l2e, hr1, hr2, hr3, hw, r1, q2, filt_t]
end Go.Proofs.YtbocnaoihepjfaaGreat.Pv
end

section
/- FleetEnds, whole. -/
set_option maxRecDepth 100000
namespace Go.Proofs.YtbocnaoihepjfaaGreat.Pv
open Go Go.Pev
variable {N n0 : Nat} {m : Mod} {ts : List (List Int)}

theorem same_row_q {a b : List (List Int)} {kd1 : Key} {t1 : Nat} {f1 : Bool} (hl : a.length ≤ 1000000) (hr : ∀ r ∈ a, r.length ≤ 1000000) (hp : HP) (g1 : hp.get kd1 = some (.row t1 1 (a.map fun r => [il r]) f1)) : callQ (runL cfg) 22 [.ow kd1 1 0 a.length, .t (gl b)] hp = some (bv (decide (a = b))) := by
  refine callQ_t ?_ (same15_ret a b hl hr) (.inl rfl)
  simp [puresOf, pureOf, treeOf, g1, gl, il]
  exact List.take_of_length_le (by simp)
theorem fwd_q {m : Mod} {pe : Int} {ph ts : List (List Int)} (hm : FewM m) (h : newOk m pe ph ts = true) (hp : HP) : callQ (runL cfg) 20 [modV m, .t (gl ts)] hp = some (.t (gl (tokN m ts m.lays.length))) := by
  have hS := (setup_of h).1
  exact callQ_tr (C := cfg) (fwd_ret hm hS.lays hS.dim hS.wide (by have := hS.nt; omega)) rfl hp
theorem en_good (m : Mod) (pe : Int) (ph ts : List (List Int)) (acts : List Act) (ha : ∀ a ∈ acts, FewA a) (hlen : acts.length ≤ 140737488355328) (hb : frontOk m pe ph ts = true) : ∃ hp c, runL cfg 7 [modV m, mapV pe ph, .t (gl ts), .t (.l (acts.map actC))] [] 0 = some (bv true, hp, c) := by
  have a1 := smallM_call m
  have a2 := small_call ph
  have a3 := small_call ts
  have a5 := fun hp => callQ_tr (C := cfg) awake_ret rfl hp
  unfold frontOk at hb
  simp only [Bool.and_eq_true] at hb
  obtain ⟨⟨⟨b1, b2⟩, b3⟩, b4⟩ := hb
  have a4 := may_call (pe := pe) b1 b2 b3
  have a6 := fwd_q (smallM_few b1) b4
  have hI := inv_start b4
  have hS := (setup_of b4).1
  rw [b1] at a1
  rw [b2] at a2
  rw [b3] at a3
  rw [b4] at a4
  have hph := small_ph b2
  obtain ⟨h1, k1, cf, ca, cb, r1, s1, o1, l1, l2, l3, l4, f1⟩ := new_good (smallM_few b1) (few_small b3) hph b4 [(⟨5, 0, 1⟩, .box 27 [iv pe, .t (gl ph)]), (⟨4, 0, 0⟩, .box 24 [iv m.dim, .t (laysT m)])] 3
  have q1 := fun e k => callEv_h (C := cfg) (s := ⟨e, _, 2⟩) rfl r1 k
  have g5 : h1.get ⟨5, 0, 1⟩ = some (.box 27 [iv pe, .t (gl ph)]) := by rw [f1 _ (by simp)]; rfl
  have g4 : h1.get ⟨4, 0, 0⟩ = some (.box 24 [iv m.dim, .t (laysT m)]) := by rw [f1 _ (by simp)]; rfl
  obtain ⟨x3, x11, e2, h2, k2, ca2, cb2, F2, hL0, X2⟩ := en0_loop hS acts cf ha (F := startF m pe ph ts) ⟨fls_le s1 (ck' := k1 + 1 + 1 + 1 + 1) (by omega), o1, hI, g4, by omega⟩
  obtain ⟨e3, h3, k3, ca3, cb3, F3, hL2, X3, R3⟩ := en2_loop hS cf (.t (gl ts)) (.pt ⟨4, 0, 0⟩ 2 0 0) (m.lays.length + 1) 0 (by omega) (by have := hS.nl; omega) (X2.up (ck' := k2 + 1) (by omega)) ⟨X2.i, .inl rfl⟩
  obtain ⟨e4, h4, k4, ca4, cb4, hL3, X4⟩ := en3_loop hS cf (.t (gl ts)) (.pt ⟨4, 0, 0⟩ 2 0 0) 2000 0 (by omega) (by have := hS.nl; omega) (X3.up (ck' := k3 + 1) (by omega))
  obtain ⟨hI4, hat⟩ := ends_at hS R3
  generalize drn 2000 F3 = G at *
  obtain ⟨h5, k5, kd, r5, g6, l5, l6, l7, l8, f5⟩ := done_run (ck := k4 + 1) (fls_le X4.s (by omega)) X4.o
  have q5 := fun e k => callEv_h (C := cfg) (s := ⟨e, _, k4⟩) rfl r5 k
  have s5 := fls_fr (fls_le X4.s (ck' := k4 + 1) (by omega)) l5 f5
  have g7 : h5.get ⟨4, 0, 0⟩ = some (mbx m) := by rw [f5 _ (by have := X4.c; simp only; omega)]; exact X4.g
  have g2 := X2.g
  have hd := inv_done hI4
  rw [if_neg (by rw [hat]; omega)] at hd
  obtain ⟨z1, z2⟩ := doneP_few X4.o
  have qs := same_row_q (b := tokN m ts m.lays.length) (t1 := 42) (f1 := false) z1 z2 h5 g6
  obtain ⟨k6, r6, l9⟩ := worked_run (ck := k5 + 1 + 1 + 1) (fls_le s5 (by omega)) X4.o (by have := hS.nl; omega)
  have q6 := fun e k => callEv_h (C := cfg) (s := ⟨e, _, k5 + 1 + 1⟩) rfl r6 k
  have hwk := worked_le hS hI4.1
  rw [hd] at q5 qs
  have hnl := hS.nl
  have hnt := hS.nt
  have hm1 : ts.length * m.lays.length ≤ 16 * 4 := Nat.mul_le_mul hnt.2 hnl.2
  have hw1 : IntKind.i64.wrap ((m.lays.length : Int) + 1) = (m.lays.length : Int) + 1 := wrap_id (by omega) (by omega)
  have hw2 : IntKind.i64.wrap (8 * (ts.length : Int)) = 8 * (ts.length : Int) := wrap_id (by omega) (by omega)
  have e8 : (8 * (ts.length : Int)) * (m.lays.length : Int) = ((8 * ts.length * m.lays.length : Nat) : Int) := by push_cast; rfl
  have h8 : 8 * ts.length * m.lays.length ≤ 512 := by rw [Nat.mul_assoc]; omega
  have hw3 : IntKind.i64.wrap ((8 * (ts.length : Int)) * (m.lays.length : Int)) = ((8 * ts.length * m.lays.length : Nat) : Int) := by rw [e8]; exact wrap_id (by omega) (by omega)
  have hle : ((workedP G : Nat) : Int) ≤ ((8 * ts.length * m.lays.length : Nat) : Int) := by omega
  simp only [decide_true] at qs
  clear r1 s1 o1 r5 s5 r6 R3
  generalize workedP G = wp at *
  generalize tokN m ts m.lays.length = W at *
  generalize 8 * ts.length * m.lays.length = B at *
  simp only [mbx, modV, mapV, laysT, gl, il, iv, bv, Int.natCast_zero, Int.natCast_add, Int.cast_ofNat_Int] at a1 a2 a3 a4 a5 a6 q1 g2 g4 g5 g7 hL0 hL2 hL3 q5 qs q6
  rw [runL_pf (fn := f7) rfl rfl]
  simp [modV, mapV, laysT, gl, il, a1, a2, a3, a4, a5, a6, q1, g2, g4, g5, g7, hL0, hL2, hL3, q5, qs, q6, hw1, hw2, hw3, hle, filt_t, over]
theorem en_bad (m : Mod) (pe : Int) (ph ts : List (List Int)) (acts : List Act) (hb : frontOk m pe ph ts = false) : ∃ hp c, runL cfg 7 [modV m, mapV pe ph, .t (gl ts), .t (.l (acts.map actC))] [] 0 = some (bv true, hp, c) := by
  have h1 := smallM_call m
  have h2 := small_call ph
  have h3 := small_call ts
  have h4 := @may_call m pe ph ts
  have h5 := awake_call
  unfold frontOk at hb
  rw [runL_pf (fn := f7) rfl rfl]
  simp only [modV, mapV, gl, iv, bv, laysT] at h1 h2 h3 h4 h5
  generalize smallM m = b1 at *
  generalize small ph = b2 at *
  generalize small ts = b3 at *
  generalize newOk m pe ph ts = b4 at *
  cases b1 with
  | false => simp [modV, mapV, laysT, gl, h1, h5, filt_t]
  | true =>
  cases b2 with
  | false => simp [modV, mapV, laysT, gl, h1, h2, h5, filt_t]
  | true =>
  cases b3 with
  | false => simp [modV, mapV, laysT, gl, h1, h2, h3, h5, filt_t]
  | true =>
  cases b4 with
  | false =>
    have h4 := h4 rfl rfl rfl
    simp [modV, mapV, laysT, gl, h1, h2, h3, h4, h5, filt_t]
  | true => cases hb
theorem fleetEnds_ev (xs : List V) (h : ArgsFit PP 8 [24, 27, 25, 61] xs) : ∃ hp c, runL cfg 7 xs [] 0 = some (bv true, hp, c) := by
  obtain ⟨v1, r1, rfl, f1, h⟩ := argsFit_cons h
  obtain ⟨v2, r2, rfl, f2, h⟩ := argsFit_cons h
  obtain ⟨v3, r3, rfl, f3, h⟩ := argsFit_cons h
  obtain ⟨v4, r4, rfl, f4, h⟩ := argsFit_cons h
  cases argsFit_nil h
  obtain ⟨m, rfl, -⟩ := a_mod (k := 0) f1
  obtain ⟨pe, ph, rfl, -⟩ := a_map (k := 4) f2
  obtain ⟨ts, rfl, -⟩ := a_intss (k := 5) f3
  obtain ⟨acts, rfl, hl, ha⟩ := a_acts (k := 5) f4
  cases hb : frontOk m pe ph ts with
  | false => exact en_bad m pe ph ts acts hb
  | true => exact en_good m pe ph ts acts ha hl hb
end Go.Proofs.YtbocnaoihepjfaaGreat.Pv
end

section
/- Where nothing is lost each part is worked out once: plain laws. -/
namespace Go.Proofs.YtbocnaoihepjfaaGreat.Pv
open Go Go.Pev
variable {m : Mod} {ts : List (List Int)} {n0 : Nat} {pe : Int} {ph : List (List Int)}

def askN (m : Mod) (ts : List (List Int)) (pe : Int) (ph : List (List Int)) (n : Nat) (p : Pt) : Msg := ⟨1, 0, (ppick pe ph p.expert (p.token + p.rank)).1, 0, 1, n, p.token, p.rank, p.expert, pe, (tokN m ts n).getD p.token.toNat []⟩
def ansM (m : Mod) (ts : List (List Int)) (pe : Int) (ph : List (List Int)) (n : Nat) (p : Pt) : Msg := answerOf pe (askN m ts pe ph n p).to (askN m ts pe ph n p) (ansN m ts n p)
def askB (m : Mod) (ts : List (List Int)) (pe : Int) (ph : List (List Int)) (n : Nat) (p : Pt) : List UInt8 := putB (askN m ts pe ph n p)
def ansB (m : Mod) (ts : List (List Int)) (pe : Int) (ph : List (List Int)) (n : Nat) (p : Pt) : List UInt8 := putB (ansM m ts pe ph n p)
def wk (m : Mod) (ts : List (List Int)) : Nat → Nat
  | 0 => 0
  | n + 1 => wk m ts n + (ptsN m ts n).length
/-- So many frames delivered, one behind the other. -/
def Path : Nat → Flt → Flt → Prop
  | 0, F, G => F = G
  | k + 1, F, G => F.bag ≠ [] ∧ Path k (delvP F 0).1 G
theorem path_trans : ∀ (a : Nat) {b : Nat} {F G H : Flt}, Path a F G → Path b G H → Path (a + b) F H
  | 0, b, F, G, H, h1, h2 => by
    have e : F = G := h1
    subst e
    rw [Nat.zero_add]; exact h2
  | a + 1, b, F, G, H, h1, h2 => by
    rw [show a + 1 + b = (a + b) + 1 by omega]
    exact ⟨h1.1, path_trans a h1.2 h2⟩
theorem ask_at {F : Flt} (h : Inv0 m ts n0 F) (e1 : F.pe = pe) (e2 : F.ph = ph) (p : Pt) : askM F p = askN m ts pe ph F.at_ p := by
  unfold askM askN
  rw [h.toks, e1, e2]
theorem ask_ok {F : Flt} (hS : Setup m ts n0) (h : Inv0 m ts n0 F) (hc : F.at_ < m.lays.length) (e1 : F.pe = pe) (e2 : F.ph = ph) {p : Pt} (hp : p ∈ ptsN m ts F.at_) : wrightM (askN m ts pe ph F.at_ p) = true ∧ Kin m ts (askN m ts pe ph F.at_ p) F.at_ p ∧ holds F.ph p.expert (askN m ts pe ph F.at_ p).to = true := by
  have := ask_kin hS h hc hp
  rw [ask_at h e1 e2] at this
  exact ⟨this.1, this.2.1, this.2.2.1⟩
theorem to_in {a : Msg} {n : Nat} {p : Pt} (hk : Kin m ts a n p) (h1 : a.kind = 1) : (1 ≤ a.to ∧ a.to ≤ 4) ∧ a.fr = 0 := by
  rcases hk.2.2.2.2.2 with ⟨-, f, t, -⟩ | ⟨k, -⟩ | ⟨k, -⟩
  · exact ⟨t, f⟩
  · omega
  · omega
theorem got_put {F : Flt} {a : Msg} (hw : wrightM a = true) : gotP F (putB a) = if a.to = 0 then answerP F a else if a.to ≤ 4 then workF F a else F := by
  unfold gotP
  rw [take_put hw, if_neg (by simp)]
structure R1 (m : Mod) (ts : List (List Int)) (n0 : Nat) (pe : Int) (ph : List (List Int)) (n j : Nat) (F : Flt) : Prop where
  inv : Inv m ts n0 F
  at_ : F.at_ = n
  lt : n < m.lays.length
  epe : F.pe = pe
  eph : F.ph = ph
  none : F.answd = List.replicate (ptsN m ts n).length false
  bag : F.bag = ((ptsN m ts n).drop j).map (askB m ts pe ph n) ++ ((ptsN m ts n).take j).map (ansB m ts pe ph n)
  work : workedP F = wk m ts n + j
  keys : ∀ l ∈ F.led, ∀ e ∈ l, e.key.layer < n ∨ ∃ p ∈ (ptsN m ts n).take j, e.key = ⟨1, (n : Int), p.token, p.rank⟩
structure R2 (m : Mod) (ts : List (List Int)) (n0 : Nat) (pe : Int) (ph : List (List Int)) (n j : Nat) (F : Flt) : Prop where
  inv : Inv m ts n0 F
  at_ : F.at_ = n
  lt : n < m.lays.length
  epe : F.pe = pe
  eph : F.ph = ph
  some : F.answd = List.replicate j true ++ List.replicate ((ptsN m ts n).length - j) false
  bag : F.bag = ((ptsN m ts n).drop j).map (ansB m ts pe ph n)
  work : workedP F = wk m ts (n + 1)
  keys : ∀ l ∈ F.led, ∀ e ∈ l, e.key.layer ≤ n
structure RE (m : Mod) (ts : List (List Int)) (n0 : Nat) (F : Flt) : Prop where
  inv : Inv m ts n0 F
  at_ : F.at_ = m.lays.length
  bag : F.bag = []
  work : workedP F = wk m ts m.lays.length
theorem sum_set : ∀ (L : List (List Ent)) (i : Nat) (hi : i < L.length) (x : Ent), ((L.set i (L[i] ++ [x])).map (·.length)).sum = (L.map (·.length)).sum + 1
  | a :: L, 0, hi, x => by simp; omega
  | a :: L, i + 1, hi, x => by
    have := sum_set L i (by simpa using hi) x
    simp only [List.getElem_cons_succ, List.set_cons_succ, List.map_cons, List.sum_cons]
    rw [this]; omega
theorem find_not {l : List Ent} {k : LKey} (h : ∀ e ∈ l, e.key ≠ k) : (findP l k).2 = false := by
  unfold findP
  rw [if_pos]
  rw [fidx_neg, List.any_eq_false]
  intro e he
  have := h e he
  simp [atKey, this]
theorem r1_step {n j : Nat} {F : Flt} (hS : Setup m ts n0) (h : R1 m ts n0 pe ph n j F) (hj : j < (ptsN m ts n).length) : F.bag ≠ [] ∧ R1 m ts n0 pe ph n (j + 1) (delvP F 0).1 := by
  obtain ⟨hI, rfl, hlt, rfl, rfl, hnone, hbag, hwork, hkeys⟩ := h
  have hpm : (ptsN m ts F.at_)[j] ∈ ptsN m ts F.at_ := List.getElem_mem hj
  have hd : (ptsN m ts F.at_).drop j = (ptsN m ts F.at_)[j] :: (ptsN m ts F.at_).drop (j + 1) := List.drop_eq_getElem_cons hj
  have htk : (ptsN m ts F.at_).take (j + 1) = (ptsN m ts F.at_).take j ++ [(ptsN m ts F.at_)[j]] := List.take_succ_eq_append_getElem hj
  have hnot : ∀ q ∈ (ptsN m ts F.at_).take j, ¬ (q.token = (ptsN m ts F.at_)[j].token ∧ q.rank = (ptsN m ts F.at_)[j].rank) := by
    rintro q hq ⟨q1, q2⟩
    obtain ⟨i, hi, rfl⟩ := List.mem_iff_getElem.1 hq
    have hi' : i < j := by rw [List.length_take] at hi; omega
    rw [List.getElem_take] at q1 q2
    have := pts_uniq (List.getElem_mem (show i < (ptsN m ts F.at_).length by omega)) hpm q1 q2
    have := pts_idx (by omega) hj this
    omega
  generalize hp : (ptsN m ts F.at_)[j] = p at *
  obtain ⟨a1, a2, a3⟩ := ask_ok hS hI.1 hlt rfl rfl hpm
  have hb : F.bag = askB m ts F.pe F.ph F.at_ p :: (((ptsN m ts F.at_).drop (j + 1)).map (askB m ts F.pe F.ph F.at_) ++ ((ptsN m ts F.at_).take j).map (ansB m ts F.pe F.ph F.at_)) := by
    rw [hbag, hd]; rfl
  generalize hbb : (((ptsN m ts F.at_).drop (j + 1)).map (askB m ts F.pe F.ph F.at_) ++ ((ptsN m ts F.at_).take j).map (ansB m ts F.pe F.ph F.at_)) = b at *
  have hfull := hI.1.full
  rw [hb, List.length_cons] at hfull
  have h' : Inv0 m ts n0 { F with bag := b } := hI.1.bagged (fun x hx => hI.1.bag x (by rw [hb]; exact List.mem_cons_of_mem _ hx)) (by omega)
  obtain ⟨v1, v2, v3⟩ := inv_delv hS hI.1 hI.2 0
  obtain ⟨t1, t2⟩ := to_in a2 rfl
  have hN := node_answers hS h' a1 hlt hpm a2 rfl rfl a3
  have hr : wrightM (ansM m ts F.pe F.ph F.at_ p) = true := answer_right hS h' a1 hlt hpm ⟨by omega, t1.2⟩
  have hG : (delvP F 0).1 = workF { F with bag := b } (askN m ts F.pe F.ph F.at_ p) := by
    rw [delv_cons hb]
    show gotP _ (putB (askN m ts F.pe F.ph F.at_ p)) = _
    rw [got_put a1, if_neg (by omega), if_pos t1.2]
  have hlen : (askN m ts F.pe F.ph F.at_ p).to.toNat < F.led.length := by rw [hI.1.led0.1]; omega
  have hla : ledAt { F with bag := b } (askN m ts F.pe F.ph F.at_ p).to = F.led[(askN m ts F.pe F.ph F.at_ p).to.toNat] := by
    simp [ledAt, List.getD_eq_getElem?_getD, hlen]
  have hkey : keyOf (askN m ts F.pe F.ph F.at_ p) = ⟨1, (F.at_ : Int), p.token, p.rank⟩ := key_kin a2
  have hfind : (findP F.led[(askN m ts F.pe F.ph F.at_ p).to.toNat] (keyOf (askN m ts F.pe F.ph F.at_ p))).2 = false := by
    refine find_not fun e he hk => ?_
    rw [hkey] at hk
    rcases hkeys _ (List.getElem_mem hlen) e he with q | ⟨q, q1, q2⟩
    · rw [hk] at q; simp only at q; omega
    · rw [hk] at q2
      simp only [LKey.mk.injEq] at q2
      exact hnot q q1 ⟨q2.2.2.1.symm, q2.2.2.2.symm⟩
  have hwl : ∃ x : Ent, x.key = ⟨1, (F.at_ : Int), p.token, p.rank⟩ ∧ workL F.m (ledAt { F with bag := b } (askN m ts F.pe F.ph F.at_ p).to) (askN m ts F.pe F.ph F.at_ p) = F.led[(askN m ts F.pe F.ph F.at_ p).to.toNat] ++ [x] := by
    refine ⟨⟨keyOf (askN m ts F.pe F.ph F.at_ p), workV F.m F.led[(askN m ts F.pe F.ph F.at_ p).to.toNat] (askN m ts F.pe F.ph F.at_ p)⟩, hkey, ?_⟩
    rw [hla]
    unfold workL
    rw [if_neg (by rw [hfind]; simp)]
  obtain ⟨x, hx1, hx2⟩ := hwl
  rw [hx2] at hN
  have hW : workF { F with bag := b } (askN m ts F.pe F.ph F.at_ p) = { F with led := F.led.set (askN m ts F.pe F.ph F.at_ p).to.toNat (F.led[(askN m ts F.pe F.ph F.at_ p).to.toNat] ++ [x]), bag := sendB b (ansM m ts F.pe F.ph F.at_ p) } := by
    unfold workF
    rw [hN]
    rfl
  have hsb : sendB b (ansM m ts F.pe F.ph F.at_ p) = b ++ [ansB m ts F.pe F.ph F.at_ p] := by
    unfold sendB bagPut
    rw [if_pos hr, if_pos (by omega)]
    rfl
  refine ⟨by rw [hb]; simp, ?_⟩
  rw [hG] at v1 v2 v3 ⊢
  rw [hW] at v1 v2 v3 ⊢
  refine ⟨⟨v1, v2⟩, rfl, hlt, rfl, rfl, hnone, ?_, ?_, ?_⟩
  · simp only
    rw [hsb, ← hbb, htk, List.map_append, List.append_assoc]
    rfl
  · have := sum_set F.led _ hlen x
    simp only [workedP] at hwork ⊢
    rw [this, hwork]; omega
  · intro l hl e he
    simp only at hl
    rcases List.mem_or_eq_of_mem_set hl with hl | rfl
    · rcases hkeys l hl e he with q | ⟨q, q1, q2⟩
      · exact .inl q
      · exact .inr ⟨q, by rw [htk]; exact List.mem_append_left _ q1, q2⟩
    · rcases List.mem_append.1 he with he | he
      · rcases hkeys _ (List.getElem_mem hlen) e he with q | ⟨q, q1, q2⟩
        · exact .inl q
        · exact .inr ⟨q, by rw [htk]; exact List.mem_append_left _ q1, q2⟩
      · rw [List.mem_singleton] at he
        exact .inr ⟨p, by rw [htk]; simp, by rw [he]; exact hx1⟩
theorem r1_run {n : Nat} (hS : Setup m ts n0) : ∀ (k j : Nat) {F : Flt}, j + k = (ptsN m ts n).length → R1 m ts n0 pe ph n j F → ∃ G, Path k F G ∧ R1 m ts n0 pe ph n (ptsN m ts n).length G
  | 0, j, F, hk, h => ⟨F, rfl, by rw [← hk]; exact h⟩
  | k + 1, j, F, hk, h => by
    obtain ⟨h1, h2⟩ := r1_step hS h (by omega)
    obtain ⟨G, g1, g2⟩ := r1_run hS k (j + 1) (by omega) h2
    exact ⟨G, ⟨h1, g1⟩, g2⟩
theorem r12 {n : Nat} {F : Flt} (h : R1 m ts n0 pe ph n (ptsN m ts n).length F) : R2 m ts n0 pe ph n 0 F := by
  obtain ⟨hI, h1, h2, e1, e2, hnone, hbag, hwork, hkeys⟩ := h
  refine ⟨hI, h1, h2, e1, e2, by simpa using hnone, ?_, by rw [hwork]; rfl, fun l hl e he => ?_⟩
  · rw [hbag, List.drop_eq_nil_of_le (Nat.le_refl _), List.take_of_length_le (Nat.le_refl _)]; rfl
  · rcases hkeys l hl e he with q | ⟨q, q1, q2⟩
    · omega
    · rw [q2]; simp
/-- A layer that has just begun. -/
theorem fresh_bag {F : Flt} (hS : Setup m ts n0) (h : Inv0 m ts n0 F) (hc : F.at_ < m.lays.length) (e1 : F.pe = pe) (e2 : F.ph = ph) (hn : F.answd = List.replicate (ptsN m ts F.at_).length false) (hb : F.bag = []) : (askP F).bag = (ptsN m ts F.at_).map (askB m ts pe ph F.at_) := by
  have ebag : (askP F).bag = askL F (F.parts.zip F.answd) F.bag := by
    unfold askP; rw [if_pos (by rw [h.mo]; exact hc)]
  have hfew := hS.few hc
  rw [ebag, h.parts hc, hn, askL_all _ _ (fun p hp => (ask_kin hS h hc hp).1) (by rw [hb]; simp; omega), hb, List.nil_append]
  refine List.map_congr_left fun p hp => ?_
  rw [ask_at h e1 e2]; rfl
theorem r2_step {n j : Nat} {F : Flt} (hS : Setup m ts n0) (h : R2 m ts n0 pe ph n j F) (hj : j < (ptsN m ts n).length) : F.bag ≠ [] ∧ (if j + 1 < (ptsN m ts n).length then R2 m ts n0 pe ph n (j + 1) (delvP F 0).1 else if n + 1 < m.lays.length then R1 m ts n0 pe ph (n + 1) 0 (delvP F 0).1 else RE m ts n0 (delvP F 0).1) := by
  obtain ⟨hI, rfl, hlt, rfl, rfl, hsome, hbag, hwork, hkeys⟩ := h
  have hpm : (ptsN m ts F.at_)[j] ∈ ptsN m ts F.at_ := List.getElem_mem hj
  have hd : (ptsN m ts F.at_).drop j = (ptsN m ts F.at_)[j] :: (ptsN m ts F.at_).drop (j + 1) := List.drop_eq_getElem_cons hj
  obtain ⟨a1, a2, a3⟩ := ask_ok hS hI.1 hlt rfl rfl hpm
  obtain ⟨t1, t2⟩ := to_in a2 rfl
  have hr : wrightM (ansM m ts F.pe F.ph F.at_ (ptsN m ts F.at_)[j]) = true := answer_right hS hI.1 a1 hlt hpm ⟨by omega, t1.2⟩
  have hk : Kin m ts (ansM m ts F.pe F.ph F.at_ (ptsN m ts F.at_)[j]) F.at_ (ptsN m ts F.at_)[j] := ⟨rfl, rfl, rfl, rfl, rfl, .inr (.inl ⟨rfl, rfl, rfl⟩)⟩
  have hb : F.bag = ansB m ts F.pe F.ph F.at_ (ptsN m ts F.at_)[j] :: ((ptsN m ts F.at_).drop (j + 1)).map (ansB m ts F.pe F.ph F.at_) := by
    rw [hbag, hd]; rfl
  generalize hbb : ((ptsN m ts F.at_).drop (j + 1)).map (ansB m ts F.pe F.ph F.at_) = b at *
  have hfull := hI.1.full
  rw [hb, List.length_cons] at hfull
  have h' : Inv0 m ts n0 { F with bag := b } := hI.1.bagged (fun x hx => hI.1.bag x (by rw [hb]; exact List.mem_cons_of_mem _ hx)) (by omega)
  obtain ⟨v1, v2, v3⟩ := inv_delv hS hI.1 hI.2 0
  have hpp := hI.1.parts hlt
  have hfx : fidx (hitP (ansM m ts F.pe F.ph F.at_ (ptsN m ts F.at_)[j])) F.parts = j := by rw [hpp]; exact hit_idx hj hk
  have hA : goodA { F with bag := b } (ansM m ts F.pe F.ph F.at_ (ptsN m ts F.at_)[j]) ∧ 0 ≤ fidx (hitP (ansM m ts F.pe F.ph F.at_ (ptsN m ts F.at_)[j])) F.parts ∧ F.answd.getD (fidx (hitP (ansM m ts F.pe F.ph F.at_ (ptsN m ts F.at_)[j])) F.parts).toNat true = false := by
    refine ⟨⟨rfl, rfl, rfl, ?_, by simp only [hI.1.mo]; exact hlt⟩, by rw [hfx]; omega, ?_⟩
    · simp only [hI.1.mo]
      exact (hS.ans hlt hpm).1
    · rw [hfx, Int.toNat_natCast, hsome, List.getD_eq_getElem?_getD, List.getElem?_append_right (by simp), List.getElem?_replicate]
      simp only [List.length_replicate, Nat.sub_self]
      rw [if_pos (by omega)]; rfl
  have hset := inv_set hS h' hlt hpm hk hA
  have hG : (delvP F 0).1 = comeP (setP { F with bag := b } j (ansN m ts F.at_ (ptsN m ts F.at_)[j])) := by
    rw [delv_cons hb]
    have e0 : (ansM m ts F.pe F.ph F.at_ (ptsN m ts F.at_)[j]).to = 0 := rfl
    show gotP _ (putB (ansM m ts F.pe F.ph F.at_ (ptsN m ts F.at_)[j])) = _
    rw [got_put hr, if_pos e0]
    unfold answerP
    rw [if_pos hA]
    show comeP (setP { F with bag := b } (fidx (hitP (ansM m ts F.pe F.ph F.at_ (ptsN m ts F.at_)[j])) F.parts).toNat (ansM m ts F.pe F.ph F.at_ (ptsN m ts F.at_)[j]).vec) = _
    rw [hfx]
    rfl
  simp only at hset
  rw [hfx] at hset
  have hset : Inv0 m ts n0 (setP { F with bag := b } j (ansN m ts F.at_ (ptsN m ts F.at_)[j])) := hset
  have hans : F.answd.set j true = List.replicate (j + 1) true ++ List.replicate ((ptsN m ts F.at_).length - (j + 1)) false := by
    rw [hsome, List.set_append_right _ _ (by simp), show (ptsN m ts F.at_).length - j = ((ptsN m ts F.at_).length - (j + 1)) + 1 by omega, List.replicate_succ]
    simp only [List.length_replicate, Nat.sub_self, List.set_cons_zero]
    rw [List.replicate_succ', List.append_assoc]
    rfl
  refine ⟨by rw [hb]; simp, ?_⟩
  by_cases c : j + 1 < (ptsN m ts F.at_).length
  · rw [if_pos c]
    have hfalse : false ∈ F.answd.set j true := by
      rw [hans]
      exact List.mem_append_right _ (List.mem_replicate.2 ⟨by omega, rfl⟩)
    rcases comeP_cases (setP { F with bag := b } j (ansN m ts F.at_ (ptsN m ts F.at_)[j])) with e | ⟨-, q⟩
    · rw [hG] at v1 v2 v3 ⊢
      rw [e] at v1 v2 v3 ⊢
      exact ⟨⟨v1, v2⟩, rfl, hlt, rfl, rfl, hans, hbb.symm, hwork, hkeys⟩
    · exact absurd hfalse q
  · rw [if_neg c]
    have hje : (ptsN m ts F.at_).length - (j + 1) = 0 := by omega
    have hbn : b = [] := by rw [← hbb, List.drop_eq_nil_of_le (by omega)]; rfl
    have hnf : ¬ false ∈ F.answd.set j true := by
      rw [hans, hje]
      simp
    generalize hX : setP { F with bag := b } j (ansN m ts F.at_ (ptsN m ts F.at_)[j]) = X at *
    have x1 : X.at_ = F.at_ := by rw [← hX]; rfl
    have x2 : X.pe = F.pe := by rw [← hX]; rfl
    have x3 : X.ph = F.ph := by rw [← hX]; rfl
    have x4 : X.bag = [] := by rw [← hX]; exact hbn
    have x5 : X.led = F.led := by rw [← hX]; rfl
    have x6 : ¬ false ∈ X.answd := by rw [← hX]; exact hnf
    obtain ⟨s1, s2, s3⟩ := inv_step hS hset (by rw [x1]; exact hlt) x6
    have hstep : comeP X = stepP X := by
      unfold comeP
      rw [hset.mo]
      obtain ⟨k, hk⟩ : ∃ k, m.lays.length - X.at_ = k + 1 := ⟨m.lays.length - X.at_ - 1, by omega⟩
      rw [hk]
      unfold comeN
      rw [if_pos ⟨by rw [hset.mo, x1]; exact hlt, x6⟩]
      cases k with
      | zero => rfl
      | succ k =>
        unfold comeN
        rw [if_neg]
        rintro ⟨q1, q2⟩
        rw [s1.mo] at q1
        exact q2 (s2 q1)
    rw [hG] at v1 v2 v3 ⊢
    rw [hstep] at v1 v2 v3 ⊢
    have hled : (stepP X).led = F.led := by
      have := (beginP_m (onP X)).2.2.2.2.2
      unfold stepP
      rw [this]; exact x5
    have hpe : (stepP X).pe = F.pe ∧ (stepP X).ph = F.ph := by
      have := beginP_m (onP X)
      unfold stepP
      exact ⟨by rw [this.2.2.1]; exact x2, by rw [this.2.2.2.1]; exact x3⟩
    have hwk : workedP (stepP X) = wk m ts (F.at_ + 1) := by
      unfold workedP at hwork ⊢
      rw [hled]; exact hwork
    by_cases c2 : F.at_ + 1 < m.lays.length
    · rw [if_pos c2]
      have hsp : stepP X = askP (newP (onP X)) := by
        unfold stepP beginP
        rw [if_pos (by simp only [onP, hset.mo, x1]; exact c2)]
      have hq : (stepP X).at_ = F.at_ + 1 := by rw [s3, x1]
      have hpq := s1.parts (by rw [hq]; exact c2)
      rw [hq] at hpq
      have hq9 : (stepP X).answd = List.replicate (ptsN m ts (F.at_ + 1)).length false := by
        rw [← hpq, hsp]
        rw [(askP_m _).2.2.2.2.2.2.2.2, (askP_m _).2.2.2.2.2.2.1]
        rfl
      have hNw : Inv0 m ts n0 (newP (onP X)) := by
        have e : newP (onP X) = { stepP X with bag := [] } := by
          rw [hsp]
          unfold askP
          split
          · simp only [newP, onP, x4]
          · simp only [newP, onP, x4]
        rw [e]
        exact s1.bagged (by simp) (by simp)
      have hbq : (stepP X).bag = (ptsN m ts (F.at_ + 1)).map (askB m ts F.pe F.ph (F.at_ + 1)) := by
        have hat : (newP (onP X)).at_ = F.at_ + 1 := by simp only [newP, onP, x1]
        have := fresh_bag (pe := F.pe) (ph := F.ph) hS hNw (by rw [hat]; exact c2) x2 x3 (by
          have : (newP (onP X)).answd = (stepP X).answd := by rw [hsp, (askP_m _).2.2.2.2.2.2.2.2]
          rw [this, hat]; exact hq9) x4
        rw [hat] at this
        rw [hsp]; exact this
      refine ⟨⟨v1, v2⟩, hq, c2, hpe.1, hpe.2, hq9, ?_, hwk, fun l hl e he => ?_⟩
      · rw [hbq]; simp
      · rw [hled] at hl
        have := hkeys l hl e he
        left; omega
    · rw [if_neg c2]
      have hL : F.at_ + 1 = m.lays.length := by omega
      refine ⟨⟨v1, v2⟩, by rw [s3, x1]; exact hL, ?_, by rw [hwk, hL]⟩
      have hsp : stepP X = onP X := by
        unfold stepP beginP
        rw [if_neg (by simp only [onP, hset.mo, x1]; exact c2)]
      rw [hsp]
      exact x4
theorem r2_run {n : Nat} (hS : Setup m ts n0) : ∀ (k j : Nat) {F : Flt}, j + k + 1 = (ptsN m ts n).length → R2 m ts n0 pe ph n j F → ∃ G, Path (k + 1) F G ∧ (if n + 1 < m.lays.length then R1 m ts n0 pe ph (n + 1) 0 G else RE m ts n0 G)
  | 0, j, F, hk, h => by
    obtain ⟨h1, h2⟩ := r2_step hS h (by omega)
    rw [if_neg (by omega)] at h2
    exact ⟨_, ⟨h1, rfl⟩, h2⟩
  | k + 1, j, F, hk, h => by
    obtain ⟨h1, h2⟩ := r2_step hS h (by omega)
    rw [if_pos (by omega)] at h2
    obtain ⟨G, g1, g2⟩ := r2_run hS k (j + 1) (by omega) h2
    exact ⟨G, ⟨h1, g1⟩, g2⟩
theorem wk_le (m : Mod) (ts : List (List Int)) {a : Nat} : ∀ (k : Nat), wk m ts a ≤ wk m ts (a + k)
  | 0 => Nat.le_refl _
  | k + 1 => by
    have := wk_le m ts (a := a) k
    rw [show a + (k + 1) = (a + k) + 1 by omega]
    simp only [wk]; omega
theorem count_run (hS : Setup m ts n0) : ∀ (k n : Nat) {F : Flt}, n + k + 1 = m.lays.length → R1 m ts n0 pe ph n 0 F → ∃ G, Path (2 * (wk m ts m.lays.length - wk m ts n)) F G ∧ RE m ts n0 G
  | k, n, F, hk, h => by
    have hfew := hS.few h.lt
    obtain ⟨G, g1, g2⟩ := r1_run hS (ptsN m ts n).length 0 (by omega) h
    obtain ⟨G2, g3, g4⟩ := r2_run hS ((ptsN m ts n).length - 1) 0 (by omega) (r12 g2)
    rw [show (ptsN m ts n).length - 1 + 1 = (ptsN m ts n).length by omega] at g3
    have hP := path_trans _ g1 g3
    have hs : wk m ts (n + 1) = wk m ts n + (ptsN m ts n).length := rfl
    match k, hk with
    | 0, hk =>
      rw [if_neg (by omega)] at g4
      refine ⟨G2, ?_, g4⟩
      rw [show m.lays.length = n + 1 by omega, hs, show 2 * (wk m ts n + (ptsN m ts n).length - wk m ts n) = (ptsN m ts n).length + (ptsN m ts n).length by omega]
      exact hP
    | k + 1, hk =>
      rw [if_pos (by omega)] at g4
      obtain ⟨G3, g5, g6⟩ := count_run hS k (n + 1) (by omega) g4
      refine ⟨G3, ?_, g6⟩
      have hle := wk_le m ts (a := n + 1) (k + 1)
      rw [show n + 1 + (k + 1) = m.lays.length by omega] at hle
      rw [show 2 * (wk m ts m.lays.length - wk m ts n) = ((ptsN m ts n).length + (ptsN m ts n).length) + 2 * (wk m ts m.lays.length - wk m ts (n + 1)) by omega]
      exact path_trans _ hP g5
theorem count_start (h : newOk m pe ph ts = true) : R1 m ts ph.length pe ph 0 0 (startF m pe ph ts) := by
  obtain ⟨hS, hr⟩ := setup_of h
  have hz : 0 < m.lays.length := by have := hS.nl; omega
  have hI := inv_start h
  have hst := start_is h
  have hNw : Inv0 m ts ph.length (newP (newF m pe ph ts)) := by
    have e : newP (newF m pe ph ts) = { startF m pe ph ts with bag := [] } := by
      rw [hst]
      unfold askP
      split
      · rfl
      · rfl
    rw [e]
    exact hI.1.bagged (by simp) (by simp)
  have eL : (newP (newF m pe ph ts)).answd = List.replicate (ptsN m ts 0).length false := rfl
  have hb := fresh_bag (pe := pe) (ph := ph) hS hNw hz rfl rfl eL rfl
  refine ⟨hI, by rw [hst, (askP_m _).2.1]; rfl, hz, by rw [hst, (askP_m _).2.2.1]; rfl, by rw [hst, (askP_m _).2.2.2.1]; rfl, by rw [hst, (askP_m _).2.2.2.2.2.2.2.2]; rfl, ?_, ?_, ?_⟩
  · rw [hst, hb]
    have : (newP (newF m pe ph ts)).at_ = 0 := rfl
    rw [this]
    simp
  · unfold workedP
    rw [hst, (askP_m _).2.2.2.2.2.1]; rfl
  · intro l hl e he
    rw [hst, (askP_m _).2.2.2.2.2.1] at hl
    simp [newP, newF] at hl
    rw [hl] at he
    cases he
theorem wk_in (hS : Setup m ts n0) : ∀ n, n ≤ m.lays.length → wk m ts n ≤ 32 * n
  | 0, _ => by simp [wk]
  | n + 1, h => by
    have := wk_in hS n (by omega)
    have := hS.few (n := n) (by omega)
    simp only [wk]; omega
/-- So many frames in all, and each part once. -/
theorem count_all (h : newOk m pe ph ts = true) : wk m ts m.lays.length ≤ 128 ∧ ∃ G, Path (2 * wk m ts m.lays.length) (startF m pe ph ts) G ∧ RE m ts ph.length G := by
  obtain ⟨hS, -⟩ := setup_of h
  have hnl := hS.nl
  have hb := wk_in hS m.lays.length (Nat.le_refl _)
  refine ⟨by omega, ?_⟩
  have := count_run hS (m.lays.length - 1) 0 (by omega) (count_start h)
  simpa [wk] using this
end Go.Proofs.YtbocnaoihepjfaaGreat.Pv
end

section
/- FleetCounts, reckoned. -/
set_option maxRecDepth 100000
namespace Go.Proofs.YtbocnaoihepjfaaGreat.Pv
open Go Go.Pev
variable {N n0 : Nat} {m : Mod} {ts : List (List Int)}

def ct0Q (m : Mod) (ts : List (List Int)) (pt : V) (h : HP) (ck0 : Nat) (E : Option (Ex × St)) : Prop := ∃ ck e, ck0 ≤ ck ∧ E = some (.exit 0, ⟨(3, .pt ⟨3, 0, 0⟩ 2 0 0) :: (7, pt) :: (9, iv (wk m ts m.lays.length : Nat)) :: (10, .t (gl (tokN m ts m.lays.length))) :: e, h, ck⟩)
theorem fwd1_q {m : Mod} {l : Lay} (hl : layRight l m.dim = true) (hd : 1 ≤ m.dim ∧ m.dim ≤ 8) (hx : FewL l) {ts : List (List Int)} (hw : Wide m.dim ts) (ht : ts.length ≤ 10000) (hp : HP) : callQ (runL cfg) 20 [.ag [iv m.dim, .t (.l [layT l])], .t (gl ts)] hp = some (.t (gl (nextP l ts))) := by
  have h1 : FewM ⟨m.dim, [l]⟩ := ⟨by simp, by simpa using hx⟩
  have := callQ_tr (C := cfg) (fwd_ret (m := ⟨m.dim, [l]⟩) h1 (by simpa using hl) hd hw ht) rfl hp
  simpa [modV, laysT, tokN, layAt] using this
theorem ct0_loop {n0 : Nat} (hS : Setup m ts n0) (hm : FewM m) (pt : V) (h : HP) (hg : h.get ⟨3, 0, 0⟩ = some (.box 24 [iv m.dim, .t (laysT m)])) (ck : Nat) : ct0Q m ts pt h ck (evL cfg (.loop f4l0) ⟨[(3, .pt ⟨3, 0, 0⟩ 2 0 0), (7, pt), (9, iv 0), (10, .t (gl ts)), (49, iv m.lays.length), (50, iv 0)], h, ck⟩) := by
  have key : ct0Q m ts pt h ck (evL cfg (.loop f4l0) ⟨[(3, .pt ⟨3, 0, 0⟩ 2 0 0), (7, pt), (9, iv (wk m ts 0 : Nat)), (10, .t (gl (tokN m ts 0))), (49, iv m.lays.length), (50, iv ((0 : Nat) : Int))], h, ck⟩) := by
    refine loop_q (Q := ct0Q m ts pt h ck) m.lays.length (fun i s => ∃ c, ck ≤ c ∧ s = ⟨[(3, .pt ⟨3, 0, 0⟩ 2 0 0), (7, pt), (9, iv (wk m ts i : Nat)), (10, .t (gl (tokN m ts i))), (49, iv m.lays.length), (50, iv (i : Int))], h, c⟩) ?_ ?_ _ ⟨ck, Nat.le_refl _, rfl⟩
    · rintro i s hi ⟨c, hc, rfl⟩
      have hnl := hS.nl
      have hw : IntKind.i64.wrap ((i : Int) + 1) = (i : Int) + 1 := wrap_id (by omega) (by omega)
      have hl := (hS.lay hi).1
      have hlr := (hS.lay hi).2.1
      rw [hl] at hlr
      have hx := hm.2 _ (List.getElem_mem hi)
      obtain ⟨k1, k2⟩ := hS.tok (n := i) (by omega)
      have hnt := hS.nt
      have hcap : 0 ≤ m.lays[i].cap := by simp only [layRight, Bool.and_eq_true, decide_eq_true_eq] at hlr; omega
      have hP := fun s k => callEv_tr (C := cfg) (rparts_ret m.lays[i] (tokN m ts i) hx.1 (by omega) (fun r hr => by have := (k2 r hr).1; have := hS.dim; omega) hcap) rfl rfl rfl s k
      have hF := fun hp => fwd1_q (m := m) hlr hS.dim hx k2 (by omega) hp
      have en : tokN m ts (i + 1) = nextP m.lays[i] (tokN m ts i) := by simp only [tokN, hl]
      have ew : wk m ts (i + 1) = wk m ts i + (partsP m.lays[i] (tokN m ts i)).length := by simp only [wk, ptsN, hl]
      have hwk := wk_in hS (i + 1) (by omega)
      have hwp : IntKind.i64.wrap ((wk m ts i : Int) + (partsP m.lays[i] (tokN m ts i)).length) = (wk m ts i : Int) + (partsP m.lays[i] (tokN m ts i)).length := wrap_id (by omega) (by omega)
      generalize partsP m.lays[i] (tokN m ts i) = ps at *
      generalize tokN m ts i = T0 at *
      generalize tokN m ts (i + 1) = T1 at *
      generalize hL : m.lays[i] = l at *
      have hle : (m.lays.map layT)[i]? = some (layT l) := by simp [hi, hL]
      have hdr : List.drop i (List.take (i + 1) (m.lays.map layT)) = [layT l] := by
        rw [List.take_succ_eq_append_getElem (by simpa using hi), List.drop_left' (by simp; omega)]
        simp [hL]
      have hl3 : ∀ x : Lay, (layT x).length = 3 := fun _ => rfl
      have hz : (0 : Int) ≤ (i : Int) + 1 ∧ (i : Int) + 1 ≤ m.lays.length := by omega
      have hla : layT l = [gl l.gate, .l (l.exps.map exT), .i .i64 l.cap] := rfl
      rw [← en] at hF
      simp only [layV, laysT, gl, il, iv, ptl] at hP hF hg hla
      simp only [hla] at hF
      simp [f4l0e, hla, hl3, show (i : Int) ≤ (i : Int) + 1 by omega, hz.1, hz.2, hg, gl, il, hi, hL, hw, hle, hdr, hP, hF, hwp, filt_t, buildV, cells, over, ptl]
      exact ⟨by omega, by omega⟩
    · rintro s ⟨c, hc, rfl⟩
      simp [f4l0e, filt_t]
      exact ⟨_, _, by omega, rfl⟩
  exact key
end Go.Proofs.YtbocnaoihepjfaaGreat.Pv
end

section
/- FleetCounts, its frames. -/
set_option maxRecDepth 100000
namespace Go.Proofs.YtbocnaoihepjfaaGreat.Pv
open Go Go.Pev
variable {N n0 : Nat} {m : Mod} {ts : List (List Int)}

theorem ct1_loop (hS : Setup m ts n0) (cf : Nat) (w9 w10 : V) : ∀ (k i : Nat) {h : HP} {ck ca cb : Nat} {F G : Flt}, Path k F G → G.bag = [] → i + k < 1000 → FlS h ck cf ca cb F → Ok i F → ∃ e h' ck' ca' cb', evL cfg (.loop f4l1) ⟨[(7, .pt ⟨34, cf, 5⟩ 15 0 0), (9, w9), (10, w10), (12, iv (i : Int))], h, ck⟩ = some (.exit 2, ⟨(7, .pt ⟨34, cf, 5⟩ 15 0 0) :: (9, w9) :: (10, w10) :: (12, iv ((i + k : Nat) : Int)) :: e, h', ck'⟩) ∧ FlS h' ck' cf ca' cb' G ∧ Ok (i + k + 1) G
  | 0, i, h, ck, ca, cb, F, G, hP, hb, hi, s, o => by
    have e : F = G := hP
    subst e
    obtain ⟨h2, k2, ca2, cb2, r2, s2, o2, m2⟩ := deliver_run (ck := ck + 1) 0 (fls_le s (by omega)) o (by omega)
    rw [delv_nil hb] at r2 s2 o2
    have q2 := fun e k => callEv_h (C := cfg) (s := ⟨e, h, ck⟩) rfl r2 k
    have hi' : (i : Int) < 1000 := by omega
    have hE : ∃ e, evL cfg (.loop f4l1) ⟨[(7, .pt ⟨34, cf, 5⟩ 15 0 0), (9, w9), (10, w10), (12, iv (i : Int))], h, ck⟩ = some (.exit 2, ⟨(7, .pt ⟨34, cf, 5⟩ 15 0 0) :: (9, w9) :: (10, w10) :: (12, iv ((i + 0 : Nat) : Int)) :: e, h2, k2 + 2⟩) := by
      simp only [iv] at q2
      rw [evL_loop]
      simp [f4l1e, hi', q2, filt_t]
    obtain ⟨e, hE⟩ := hE
    exact ⟨e, h2, k2 + 2, ca2, cb2, hE, fls_le s2 (by omega), o2⟩
  | k + 1, i, h, ck, ca, cb, F, G, hP, hb, hi, s, o => by
    obtain ⟨hne, hP⟩ := hP
    obtain ⟨x, b, e⟩ := List.exists_cons_of_ne_nil hne
    obtain ⟨h2, k2, ca2, cb2, r2, s2, o2, m2⟩ := deliver_run (ck := ck + 1) 0 (fls_le s (by omega)) o (by omega)
    have hz : (delvP F 0).2 = 0 := by rw [delv_cons e]
    rw [hz] at r2
    have q2 := fun e k => callEv_h (C := cfg) (s := ⟨e, h, ck⟩) rfl r2 k
    obtain ⟨e3, h3, k3, ca3, cb3, r3, s3, o3⟩ := ct1_loop hS cf w9 w10 k (i + 1) hP hb (by omega) (fls_le s2 (ck' := k2 + 1 + 1 + 1) (by omega)) o2
    have hi' : (i : Int) < 1000 := by omega
    have hw : IntKind.i64.wrap ((i : Int) + 1) = (i : Int) + 1 := wrap_id (by omega) (by omega)
    refine ⟨e3, h3, k3, ca3, cb3, ?_, s3, by rw [show i + (k + 1) + 1 = i + 1 + k + 1 by omega]; exact o3⟩
    rw [show i + (k + 1) = i + 1 + k by omega, ← r3]
    refine evL_loop_n ?_
    simp only [iv] at q2
    simp [f4l1e, hi', hw, q2, filt_t]
theorem ct_good (m : Mod) (pe : Int) (ph ts : List (List Int)) (hb : frontOk m pe ph ts = true) : ∃ hp c, runL cfg 4 [modV m, mapV pe ph, .t (gl ts)] [] 0 = some (bv true, hp, c) := by
  have a1 := smallM_call m
  have a2 := small_call ph
  have a3 := small_call ts
  have a5 := awake_call
  unfold frontOk at hb
  simp only [Bool.and_eq_true] at hb
  obtain ⟨⟨⟨b1, b2⟩, b3⟩, b4⟩ := hb
  have a4 := may_call (pe := pe) b1 b2 b3
  have hS := (setup_of b4).1
  obtain ⟨c1, G, c2, c3⟩ := count_all b4
  rw [b1] at a1
  rw [b2] at a2
  rw [b3] at a3
  rw [b4] at a4
  have hph := small_ph b2
  obtain ⟨h1, k1, cf, ca, cb, r1, s1, o1, l1, l2, l3, l4, fr1⟩ := new_good (smallM_few b1) (few_small b3) hph b4 [(⟨4, 0, 1⟩, .box 27 [iv pe, .t (gl ph)]), (⟨3, 0, 0⟩, .box 24 [iv m.dim, .t (laysT m)])] 3
  have q1 := fun e k => callEv_h (C := cfg) (s := ⟨e, _, 2⟩) rfl r1 k
  have g4 : h1.get ⟨4, 0, 1⟩ = some (.box 27 [iv pe, .t (gl ph)]) := by rw [fr1 _ (by simp)]; rfl
  have g3 : h1.get ⟨3, 0, 0⟩ = some (.box 24 [iv m.dim, .t (laysT m)]) := by rw [fr1 _ (by simp)]; rfl
  obtain ⟨k2, e2, l5, hL0⟩ := ct0_loop hS (smallM_few b1) (.pt ⟨34, cf, 5⟩ 15 0 0) h1 g3 (k1 + 1 + 1 + 1 + 1 + 1)
  have s2 := fls_le s1 (ck' := k2 + 1) (by omega)
  obtain ⟨e3, h3, k3, ca3, cb3, hL1, s3, o3⟩ := ct1_loop hS cf (iv (wk m ts m.lays.length : Nat)) (.t (gl (tokN m ts m.lays.length))) (2 * wk m ts m.lays.length) 0 c2 c3.bag (by omega) s2 o1
  obtain ⟨h4, k4, kd, r4, g5, l6, l7, l8, l9, fr4⟩ := done_run (ck := k3 + 1) (fls_le s3 (by omega)) o3
  have q4 := fun e k => callEv_h (C := cfg) (s := ⟨e, _, k3⟩) rfl r4 k
  have s4 := fls_fr (fls_le s3 (ck' := k3 + 1) (by omega)) l6 fr4
  have hd := inv_done c3.inv
  rw [if_neg (by rw [c3.at_]; omega)] at hd
  obtain ⟨z1, z2⟩ := doneP_few o3
  have qs := fun e c k => same_row_t (b := tokN m ts m.lays.length) (t1 := 42) (f1 := false) z1 z2 ⟨e, _, c⟩ k g5
  obtain ⟨k6, r6, l10⟩ := worked_run (ck := k4 + 1 + 1 + 1) (fls_le s4 (by omega)) o3 (by omega)
  have q6 := fun e k => callEv_h (C := cfg) (s := ⟨e, _, k4 + 1 + 1⟩) rfl r6 k
  rw [c3.work] at q6
  rw [hd] at q4 qs
  have hw2 : IntKind.i64.wrap (2 * (wk m ts m.lays.length : Int)) = 2 * (wk m ts m.lays.length : Int) := wrap_id (by omega) (by omega)
  have hz : ((0 + 2 * wk m ts m.lays.length : Nat) : Int) = 2 * (wk m ts m.lays.length : Int) := by omega
  rw [hz] at hL1
  simp only [Int.natCast_zero, decide_true] at hL1 qs
  clear r1 s1 o1 s2 s3 o3 r4 s4 c2 c3 r6
  generalize tokN m ts m.lays.length = W at *
  generalize wk m ts m.lays.length = w at *
  simp only [modV, mapV, laysT, gl, il, iv, bv] at a1 a2 a3 a4 a5 q1 g4 g3 hL0 hL1 q4 qs q6
  rw [runL_pf (fn := f4) rfl rfl]
  simp [modV, mapV, laysT, gl, il, a1, a2, a3, a4, a5, q1, g4, g3, hL0, hL1, q4, qs, q6, hw2, filt_t, over]
theorem ct_bad (m : Mod) (pe : Int) (ph ts : List (List Int)) (hb : frontOk m pe ph ts = false) : ∃ hp c, runL cfg 4 [modV m, mapV pe ph, .t (gl ts)] [] 0 = some (bv true, hp, c) := by
  have h1 := smallM_call m
  have h2 := small_call ph
  have h3 := small_call ts
  have h4 := @may_call m pe ph ts
  have h5 := awake_call
  unfold frontOk at hb
  rw [runL_pf (fn := f4) rfl rfl]
  simp only [modV, mapV, gl, iv, bv, laysT] at h1 h2 h3 h4 h5
  generalize smallM m = b1 at *
  generalize small ph = b2 at *
  generalize small ts = b3 at *
  generalize newOk m pe ph ts = b4 at *
  cases b1 with
  | false => simp [modV, mapV, laysT, gl, h1, h5, filt_t]
  | true =>
  cases b2 with
  | false => simp [modV, mapV, laysT, gl, h1, h2, h5, filt_t]
  | true =>
  cases b3 with
  | false => simp [modV, mapV, laysT, gl, h1, h2, h3, h5, filt_t]
  | true =>
  cases b4 with
  | false =>
    have h4 := h4 rfl rfl rfl
    simp [modV, mapV, laysT, gl, h1, h2, h3, h4, h5, filt_t]
  | true => cases hb
theorem fleetCounts_ev (xs : List V) (h : ArgsFit PP 8 [24, 27, 25] xs) : ∃ hp c, runL cfg 4 xs [] 0 = some (bv true, hp, c) := by
  obtain ⟨v1, r1, rfl, f1, h⟩ := argsFit_cons h
  obtain ⟨v2, r2, rfl, f2, h⟩ := argsFit_cons h
  obtain ⟨v3, r3, rfl, f3, h⟩ := argsFit_cons h
  cases argsFit_nil h
  obtain ⟨m, rfl, -⟩ := a_mod (k := 0) f1
  obtain ⟨pe, ph, rfl, -⟩ := a_map (k := 4) f2
  obtain ⟨ts, rfl, -⟩ := a_intss (k := 5) f3
  cases hb : frontOk m pe ph ts with
  | false => exact ct_bad m pe ph ts hb
  | true => exact ct_good m pe ph ts hb
end Go.Proofs.YtbocnaoihepjfaaGreat.Pv
end

section
/- Both. -/
end
