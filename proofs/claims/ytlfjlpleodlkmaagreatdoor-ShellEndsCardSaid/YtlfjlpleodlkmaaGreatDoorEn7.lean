/- What this law leans on, of the framework and of the functions (by claimset.py). -/
import Derived.Test.YtlfjlpleodlkmaaGreatDoorEn6
import Derived.Test.YtlfjlpleodlkmaaGreatDoorEn3
set_option linter.unusedVariables false
set_option linter.unusedSimpArgs false
namespace Go.Proofs.YtlfjlpleodlkmaaGreatDoor.Pv
open Go Go.Pev
section
variable {m : Mod} {ts : List (List Int)} {n0 : Nat}
theorem partsA_nodup : ∀ (cs : List Cho) (ss : List (Int × Int)) (t : Nat), (partsA t cs ss).Nodup
  | [], _, t => by simp [partsA]
  | c :: cs, [], t => by simp [partsA]
  | c :: cs, s :: ss, t => by
    have a0 : ∀ z, z ∈ pt0 t c s.1 → z = ⟨t, 0, c.first, c.w1⟩ := by
      intro z hz; unfold pt0 at hz
      split at hz
      · simpa using hz
      · simp at hz
    have a1 : ∀ z, z ∈ pt1 t c s.2 → z = ⟨t, 1, c.second, c.w2⟩ := by
      intro z hz; unfold pt1 at hz
      split at hz
      · simpa using hz
      · simp at hz
    have n0 : (pt0 t c s.1).Nodup := by unfold pt0; split <;> simp
    have n1 : (pt1 t c s.2).Nodup := by unfold pt1; split <;> simp
    simp only [partsA]
    rw [List.nodup_append, List.nodup_append]
    refine ⟨⟨n0, n1, fun x hx y hy e => ?_⟩, partsA_nodup cs ss (t + 1), fun x hx y hy e => ?_⟩
    · rw [a0 _ hx, a1 _ hy] at e; simp at e
    · have h2 := (partsA_in _ _ _ y hy).1
      have h3 : x.token = t := by
        rcases List.mem_append.1 hx with hx | hx
        · rw [a0 _ hx]
        · rw [a1 _ hx]
      rw [e] at h3; omega
theorem nodup_idx {α : Type} {l : List α} (hn : l.Nodup) {i j : Nat} (hi : i < l.length) (hj : j < l.length) (h : l[i] = l[j]) : i = j := by
  have hp := List.pairwise_iff_getElem.1 hn
  rcases Nat.lt_trichotomy i j with c | c | c
  · exact absurd h (hp i j hi hj c)
  · exact c
  · exact absurd h.symm (hp j i hj hi c)
theorem pts_nodup (m : Mod) (ts : List (List Int)) (n : Nat) : (ptsN m ts n).Nodup := partsA_nodup _ _ _
theorem pts_idx {n i j : Nat} (hi : i < (ptsN m ts n).length) (hj : j < (ptsN m ts n).length) (h : (ptsN m ts n)[i] = (ptsN m ts n)[j]) : i = j := nodup_idx (pts_nodup m ts n) hi hj h
theorem hit_idx {n i : Nat} {a : Msg} (hi : i < (ptsN m ts n).length) (hk : Kin m ts a n (ptsN m ts n)[i]) : fidx (hitP a) (ptsN m ts n) = i := by
  obtain ⟨-, -, k3, k4, k5, -⟩ := hk
  refine fidx_at _ _ i hi (fun j hj => ?_) (by simp [hitP, k3, k4, k5])
  rw [Bool.eq_false_iff]
  intro hh
  simp only [hitP, Bool.and_eq_true, decide_eq_true_eq] at hh
  have hj2 : j < (ptsN m ts n).length := by omega
  have := pts_uniq (List.getElem_mem hj2) (List.getElem_mem hi) (by rw [hh.1.1, k3]) (by rw [hh.1.2, k4])
  have := pts_idx hj2 hi this
  omega
theorem put_inj {a b : Msg} (ha : wrightM a = true) (hb : wrightM b = true) (h : putB a = putB b) : a = b := by
  have h1 := take_put ha
  rw [h, take_put hb] at h1
  exact (Prod.mk.inj h1).1.symm
theorem kin_part {a : Msg} {n n' : Nat} {p p' : Pt} (h : Kin m ts a n p) (h' : Kin m ts a n' p') (hp : p ∈ ptsN m ts n) (hp' : p' ∈ ptsN m ts n') : n = n' ∧ p = p' := by
  obtain ⟨-, a2, a3, a4, -⟩ := h
  obtain ⟨-, b2, b3, b4, -⟩ := h'
  have e : n = n' := by omega
  subst e
  exact ⟨rfl, pts_uniq hp hp' (by omega) (by omega)⟩
def Cur (m : Mod) (ts : List (List Int)) (n : Nat) (pe : Int) (ph : List (List Int)) (p : Pt) (s : List UInt8) : Prop := ∃ a, s = putB a ∧ wrightM a = true ∧ Kin m ts a n p ∧ (a.kind = 2 ∨ (a.kind = 1 ∧ a.epoch = pe ∧ holds ph p.expert a.to = true))
def Pend (m : Mod) (ts : List (List Int)) (F : Flt) : Prop := ∀ (i : Nat) (hi : i < (ptsN m ts F.at_).length), F.answd.getD i true = false → ∃ s ∈ F.bag, Cur m ts F.at_ F.pe F.ph (ptsN m ts F.at_)[i] s
theorem ask_fits {F : Flt} (hS : Setup m ts n0) (h : Inv0 m ts n0 F) {a : Msg} {n : Nat} {p : Pt} (hw : wrightM a = true) (hn : n < m.lays.length) (hp : p ∈ ptsN m ts n) (hk : Kin m ts a n p) (h1 : a.kind = 1) : fitsP F.m F.pe F.ph a.to a = true := by
  obtain ⟨k1, k2, k3, k4, k5, k6⟩ := hk
  have hv : a.vec = (tokN m ts n).getD p.token.toNat [] := by
    rcases k6 with ⟨-, -, -, k⟩ | ⟨k, -⟩ | ⟨k, -⟩
    · exact k
    · omega
    · omega
  have hvv := hS.vec hn hp
  obtain ⟨-, -, p3, p4⟩ := hS.pts hn hp
  have hmr : modRight m = true := by
    simp only [modRight, Bool.and_eq_true, decide_eq_true_eq, List.all_eq_true]
    exact ⟨⟨⟨hS.dim, hS.nl.1⟩, hS.nl.2⟩, hS.lays⟩
  have htr : tokRight m [a.vec] = true := by
    simp only [tokRight, List.length_cons, List.length_nil, List.all_cons, List.all_nil, Bool.and_eq_true, decide_eq_true_eq]
    rw [hv]
    exact ⟨⟨by omega, by omega⟩, hvv, trivial⟩
  unfold fitsP
  rw [h.mo, hmr, h.right.1, hw, htr, h1, decide_eq_true (show a.to = a.to from rfl), decide_eq_true (show a.layer < m.lays.length by omega), decide_eq_true (show a.expert < (layAt m a.layer).exps.length by rw [k2, k5]; exact p4)]
  rfl
theorem answer_right {F : Flt} (hS : Setup m ts n0) (h : Inv0 m ts n0 F) {a : Msg} {n : Nat} {p : Pt} (hw : wrightM a = true) (hn : n < m.lays.length) (hp : p ∈ ptsN m ts n) (ht : 0 ≤ a.to ∧ a.to ≤ 4) : wrightM (answerOf F.pe a.to a (ansN m ts n p)) = true := by
  have hv := hS.ans hn hp
  have hd := hS.dim
  have he := right_e h.right.1
  simp only [wrightM, nums, okN, List.all_cons, List.all_nil, Bool.and_eq_true, decide_eq_true_eq] at hw
  obtain ⟨⟨⟨⟨⟨w0, w1, w2, w3, w4, w5, w6, w7, w8, w9, -⟩, -⟩, -⟩, -⟩, -⟩ := hw
  have e1 : (nums (answerOf F.pe a.to a (ansN m ts n p))).all okN = true := by
    simp only [nums, answerOf, okN, List.all_cons, List.all_nil, Bool.and_eq_true, decide_eq_true_eq]
    refine ⟨?_, ?_, ?_, ?_, ?_, ?_, ?_, ?_, ?_, ?_, trivial⟩ <;> omega
  have e2 : (answerOf F.pe a.to a (ansN m ts n p)).vec = ansN m ts n p := rfl
  have e3 : (answerOf F.pe a.to a (ansN m ts n p)).kind = 2 := rfl
  unfold wrightM
  rw [e1, e2, e3, okS_held hv.2, decide_eq_true (show (ansN m ts n p).length ≤ 8 by omega)]
  rfl
theorem node_answers {F : Flt} (hS : Setup m ts n0) (h : Inv0 m ts n0 F) {a : Msg} {n : Nat} {p : Pt} (hw : wrightM a = true) (hn : n < m.lays.length) (hp : p ∈ ptsN m ts n) (hk : Kin m ts a n p) (h1 : a.kind = 1) (he : a.epoch = F.pe) (hh : holds F.ph p.expert a.to = true) : nodeP F a = (workL F.m (ledAt F a.to) a, answerOf F.pe a.to a (ansN m ts n p), true) := by
  have hf := ask_fits hS h hw hn hp hk h1
  have hto : 1 ≤ a.to ∧ a.to ≤ 4 := by
    obtain ⟨-, -, -, -, -, k6⟩ := hk
    rcases k6 with ⟨-, f, t, -⟩ | ⟨k, -⟩ | ⟨k, -⟩
    · exact t
    · omega
    · omega
  have hx : a.expert = p.expert := hk.2.2.2.2.1
  unfold nodeP workP
  rw [if_neg (by rw [hf]; simp), if_neg (by rw [hx, hh, he]; simp), workV_is h hp hk h1 (h.led _ (led_at h hto)).1]
theorem mem_sendB {b : List (List UInt8)} {a : Msg} {s : List UInt8} (h : s ∈ b) : s ∈ sendB b a := by
  rcases sendB_is (b := b) (a := a) with e | ⟨-, -, e⟩
  · rw [e]; exact h
  · rw [e]; exact List.mem_append_left _ h
theorem new_sendB {b : List (List UInt8)} {a : Msg} (h : wrightM a = true) (hb : b.length < 200) : putB a ∈ sendB b a := by
  unfold sendB bagPut
  rw [if_pos h, if_pos hb]
  simp
theorem comeP_cases (F : Flt) : comeP F = F ∨ (F.at_ < F.m.lays.length ∧ ¬ false ∈ F.answd) := by
  by_cases c : F.at_ < F.m.lays.length ∧ ¬ false ∈ F.answd
  · exact .inr c
  · left
    unfold comeP
    cases hk : F.m.lays.length - F.at_ with
    | zero => rfl
    | succ k => unfold comeN; rw [if_neg c]
theorem come_on {F : Flt} (hS : Setup m ts n0) (h : Inv0 m ts n0 F) (c1 : F.at_ < m.lays.length) (c2 : ¬ false ∈ F.answd) : F.at_ < (comeP F).at_ := by
  obtain ⟨s1, s2, s3⟩ := inv_step hS h c1 c2
  unfold comeP
  rw [h.mo]
  obtain ⟨k, hk⟩ : ∃ k, m.lays.length - F.at_ = k + 1 := ⟨m.lays.length - F.at_ - 1, by omega⟩
  rw [hk]
  unfold comeN
  rw [if_pos ⟨by rw [h.mo]; exact c1, c2⟩]
  have := (inv_come (F := F) hS k s1 (by omega)).2.2
  omega
theorem delv_cons {F : Flt} {s : List UInt8} {b : List (List UInt8)} (hb : F.bag = s :: b) : delvP F 0 = (gotP { F with bag := b } s, 0) := by
  have e : bagTake F.bag 0 = (s, b, true) := by rw [hb]; simp [bagTake]
  unfold delvP
  rw [e]
  rfl
theorem delv_nil {F : Flt} (hb : F.bag = []) : delvP F 0 = (F, 4) := by
  have e : (bagTake F.bag 0).2.2 = false := by rw [hb]; simp [bagTake]
  unfold delvP
  rw [e]
  rfl
theorem pend_step {F : Flt} (hS : Setup m ts n0) (h : Inv0 m ts n0 F) (hs : Settled m F) (hc : F.at_ < m.lays.length) (hP : Pend m ts F) {s : List UInt8} {b : List (List UInt8)} (hb : F.bag = s :: b) : F.at_ < (delvP F 0).1.at_ ∨ ((delvP F 0).1.at_ = F.at_ ∧ Pend m ts (delvP F 0).1) := by
  rw [delv_cons hb]
  have hfull := h.full
  rw [hb] at hfull
  simp only [List.length_cons] at hfull
  have h' : Inv0 m ts n0 { F with bag := b } := h.bagged (fun x hx => h.bag x (by rw [hb]; exact List.mem_cons_of_mem _ hx)) (by omega)
  obtain ⟨a, n, p, rfl, hw, hn, hp, hk⟩ := h.bag s (by rw [hb]; exact List.mem_cons_self)
  have hparts := h.parts hc
  obtain ⟨l1, l2⟩ := h.lens hc
  rw [hparts] at l1 l2
  simp only [gotP, take_put hw, ne_eq, not_true_eq_false, if_false]
  by_cases h0 : a.to = 0
  · rw [if_pos h0]
    have hk1 : a.kind ≠ 1 := by
      intro e
      rcases hk.2.2.2.2.2 with ⟨-, -, t, -⟩ | ⟨k, -⟩ | ⟨k, -⟩ <;> omega
    by_cases hA : goodA { F with bag := b } a ∧ 0 ≤ fidx (hitP a) F.parts ∧ F.answd.getD (fidx (hitP a) F.parts).toNat true = false
    · have eA : answerP { F with bag := b } a = comeP (setP { F with bag := b } (fidx (hitP a) F.parts).toNat a.vec) := by
        unfold answerP; rw [if_pos hA]
      obtain ⟨⟨g1, g2, g3, g4, g5⟩, c2, c3⟩ := hA
      simp only at g3 g5
      obtain rfl : n = F.at_ := by have := hk.2.1; omega
      obtain ⟨i, hi⟩ : ∃ i : Nat, fidx (hitP a) F.parts = i := ⟨(fidx (hitP a) F.parts).toNat, by omega⟩
      have i1 := (fidx_hit _ _ _ hi).1
      rw [hparts] at hi i1
      have hq : p = (ptsN m ts F.at_)[i] := by
        have := (fidx_hit _ _ _ hi).2
        simp only [hitP, Bool.and_eq_true, decide_eq_true_eq] at this
        exact pts_uniq hp (List.getElem_mem _) (by rw [← hk.2.2.1]; exact this.1.1.symm) (by rw [← hk.2.2.2.1]; exact this.1.2.symm)
      have eI := (inv_got hS h' hs (s := putB a) ⟨a, F.at_, p, rfl, hw, hn, hp, hk⟩)
      have e1 : (fidx (hitP a) F.parts).toNat = i := by rw [hparts, hi]; rfl
      rw [eA, e1]
      have hI : Inv0 m ts n0 (setP { F with bag := b } i a.vec) := by
        have := inv_set hS h' hn hp hk ⟨⟨g1, g2, g3, g4, g5⟩, c2, c3⟩
        rw [← e1]; exact this
      rcases comeP_cases (setP { F with bag := b } i a.vec) with e | ⟨q1, q2⟩
      · right
        rw [e]
        refine ⟨rfl, fun j hj hjd => ?_⟩
        simp only [setP] at hj hjd ⊢
        have hij : i ≠ j := by
          rintro rfl
          rw [List.getD_eq_getElem?_getD, List.getElem?_set_self (by omega)] at hjd
          simp at hjd
        rw [List.getD_eq_getElem?_getD, List.getElem?_set_ne hij, ← List.getD_eq_getElem?_getD] at hjd
        obtain ⟨s', hs', a', e', w', k', c'⟩ := hP j hj hjd
        rw [hb] at hs'
        rcases List.mem_cons.1 hs' with rfl | hs'
        · exfalso
          have := put_inj hw w' e'
          subst this
          have := (kin_part hk k' hp (List.getElem_mem _)).2
          rw [hq] at this
          exact hij (pts_idx i1 hj this)
        · exact ⟨s', hs', a', e', w', k', c'⟩
      · left
        exact come_on hS hI hc q2
    · have eA : answerP { F with bag := b } a = { F with bag := b } := by
        unfold answerP; rw [if_neg hA]
      rw [eA]
      right
      refine ⟨rfl, fun j hj hjd => ?_⟩
      simp only at hj hjd
      obtain ⟨s', hs', a', e', w', k', c'⟩ := hP j hj hjd
      rw [hb] at hs'
      rcases List.mem_cons.1 hs' with rfl | hs'
      · exfalso
        have := put_inj hw w' e'
        subst this
        have hk2 : a.kind = 2 := by
          rcases c' with c' | ⟨c', -⟩
          · exact c'
          · exact absurd c' hk1
        refine hA ⟨⟨hk2, k'.1, k'.2.1, ?_, by simp only [h.mo]; exact hc⟩, ?_, ?_⟩
        · have hv : a.vec = ansN m ts F.at_ (ptsN m ts F.at_)[j] := by
            rcases k'.2.2.2.2.2 with ⟨k, -⟩ | ⟨-, -, k⟩ | ⟨k, -⟩
            · omega
            · exact k
            · omega
          rw [hv, h.mo]
          exact (hS.ans hc (List.getElem_mem hj)).1
        · rw [hparts, hit_idx hj k']; omega
        · rw [hparts, hit_idx hj k', Int.toNat_natCast]; exact hjd
      · exact ⟨s', hs', a', e', w', k', c'⟩
  · rw [if_neg h0]
    have hk1 : a.kind = 1 ∧ a.to ≤ 4 ∧ 0 ≤ a.to := by
      rcases hk.2.2.2.2.2 with ⟨k, f, t, -⟩ | ⟨-, k, -⟩ | ⟨-, k⟩
      · exact ⟨k, t.2, by omega⟩
      · exact absurd k h0
      · exact absurd k h0
    rw [if_pos hk1.2.1]
    right
    refine ⟨rfl, fun j hj hjd => ?_⟩
    have ebag : (workF { F with bag := b } a).bag = if (nodeP { F with bag := b } a).2.2 then sendB b (nodeP { F with bag := b } a).2.1 else b := rfl
    change j < (ptsN m ts F.at_).length at hj
    change F.answd.getD j true = false at hjd
    show ∃ s ∈ (workF { F with bag := b } a).bag, Cur m ts F.at_ F.pe F.ph (ptsN m ts F.at_)[j] s
    obtain ⟨s', hs', a', e', w', k', c'⟩ := hP j hj hjd
    rw [hb] at hs'
    rcases List.mem_cons.1 hs' with rfl | hs'
    · have := put_inj hw w' e'
      subst this
      rcases c' with c' | ⟨c1, c2, c3⟩
      · omega
      · have hN := node_answers hS h' hw hc (List.getElem_mem hj) k' c1 c2 c3
        rw [hN] at ebag
        simp only [if_true] at ebag
        rw [ebag]
        have hr := answer_right hS h' hw hc (List.getElem_mem hj) ⟨hk1.2.2, hk1.2.1⟩
        refine ⟨_, new_sendB hr (by omega), _, rfl, hr, ⟨k'.1, k'.2.1, k'.2.2.1, k'.2.2.2.1, k'.2.2.2.2.1, .inr (.inl ⟨rfl, ?_, rfl⟩)⟩, .inl rfl⟩
        rcases k'.2.2.2.2.2 with ⟨-, f, -⟩ | ⟨k, -⟩ | ⟨k, -⟩
        · exact f
        · omega
        · omega
    · refine ⟨s', ?_, a', e', w', k', c'⟩
      rw [ebag]
      split
      · exact mem_sendB hs'
      · exact hs'
end
section
variable {m : Mod} {ts : List (List Int)} {n0 : Nat}
def wtS (s : List UInt8) : Nat := if (takeP s).1.kind = 1 then 2 else 1
def wtB (b : List (List UInt8)) : Nat := (b.map wtS).sum
def mu (m : Mod) (F : Flt) : Nat := wtB F.bag + 64 * (m.lays.length - F.at_)
theorem wtS_in (s : List UInt8) : 1 ≤ wtS s ∧ wtS s ≤ 2 := by unfold wtS; split <;> omega
theorem wtB_cons (s : List UInt8) (b : List (List UInt8)) : wtB (s :: b) = wtS s + wtB b := by simp [wtB]
theorem wtB_app (a b : List (List UInt8)) : wtB (a ++ b) = wtB a + wtB b := by simp [wtB]
theorem wtB_le : ∀ b : List (List UInt8), wtB b ≤ 2 * b.length
  | [] => by simp [wtB]
  | s :: b => by
    have := wtB_le b
    have := wtS_in s
    rw [wtB_cons, List.length_cons]; omega
theorem wt_send {b : List (List UInt8)} {a : Msg} (k : a.kind ≠ 1) : wtB (sendB b a) ≤ wtB b + 1 := by
  rcases sendB_is (b := b) (a := a) with e | ⟨e1, -, e⟩
  · rw [e]; omega
  · rw [e, wtB_app]
    have : wtB [putB a] = 1 := by
      rw [wtB_cons]
      unfold wtS
      rw [take_put e1, if_neg k]
      rfl
    omega
theorem wt_send2 {b : List (List UInt8)} {a : Msg} : wtB (sendB b a) ≤ wtB b + 2 := by
  rcases sendB_is (b := b) (a := a) with e | ⟨e1, -, e⟩
  · rw [e]; omega
  · rw [e, wtB_app]
    have := wtB_le [putB a]
    simp at this
    omega
theorem wt_askL (F : Flt) : ∀ (l : List (Pt × Bool)) (b : List (List UInt8)), wtB (askL F l b) ≤ wtB b + 2 * l.length
  | [], b => by simp [askL]
  | x :: r, b => by
    unfold askL
    rw [List.length_cons]
    split
    · have := wt_askL F r b; omega
    · have := wt_askL F r (sendB b (askM F x.1))
      have := wt_send2 (b := b) (a := askM F x.1)
      omega
theorem mu_step {F : Flt} (hS : Setup m ts n0) (h : Inv0 m ts n0 F) (hc : F.at_ < m.lays.length) (hf : ¬ false ∈ F.answd) : mu m (stepP F) ≤ mu m F := by
  obtain ⟨i1, -, i3⟩ := inv_step hS h hc hf
  unfold mu
  rw [i3]
  have hb : wtB (stepP F).bag ≤ wtB F.bag + 64 := by
    unfold stepP beginP
    split
    · rename_i c
      have e : (newP (onP F)).toks = tokN m ts (F.at_ + 1) := by
        have h1 := i1.toks
        rw [i3] at h1
        rw [← h1]
        unfold stepP beginP
        rw [if_pos c]
        exact (askP_m _).2.2.2.2.1.symm
      have c2 : F.at_ + 1 < m.lays.length := by simp only [onP, h.mo] at c; exact c
      have ep : (newP (onP F)).parts.length ≤ 32 := by
        have h2 : (newP (onP F)).parts = partsP (layAt m (F.at_ + 1 : Nat)) (newP (onP F)).toks := by simp only [newP, onP, h.mo]
        rw [h2, e]
        exact (hS.few c2).2
      unfold askP
      split
      · have := wt_askL (newP (onP F)) ((newP (onP F)).parts.zip (newP (onP F)).answd) (newP (onP F)).bag
        have hz : ((newP (onP F)).parts.zip (newP (onP F)).answd).length ≤ 32 := by rw [List.length_zip]; omega
        have eb : (newP (onP F)).bag = F.bag := rfl
        rw [eb] at this
        simp only
        rw [eb]
        omega
      · have eb : (newP (onP F)).bag = F.bag := rfl
        rw [eb]; omega
    · have eb : (onP F).bag = F.bag := rfl
      rw [eb]; omega
  omega
theorem mu_come (hS : Setup m ts n0) : ∀ (k : Nat) {F : Flt}, Inv0 m ts n0 F → mu m (comeN k F) ≤ mu m F
  | 0, F, h => Nat.le_refl _
  | k + 1, F, h => by
    unfold comeN
    by_cases c : F.at_ < F.m.lays.length ∧ ¬ false ∈ F.answd
    · rw [if_pos c]
      obtain ⟨c1, c2⟩ := c
      rw [h.mo] at c1
      have := mu_step hS h c1 c2
      have := mu_come hS k (inv_step hS h c1 c2).1
      omega
    · rw [if_neg c]; exact Nat.le_refl _
theorem node_kind (F : Flt) (a : Msg) (h : (nodeP F a).2.2 = true) : (nodeP F a).2.1.kind ≠ 1 := by
  unfold nodeP workP at h ⊢
  split
  · rename_i c; rw [if_pos c] at h; cases h
  · split
    · simp [staleOf]
    · simp [answerOf]
theorem mu_delv {F : Flt} (hS : Setup m ts n0) (h : Inv0 m ts n0 F) (hs : Settled m F) {s : List UInt8} {b : List (List UInt8)} (hb : F.bag = s :: b) : mu m (delvP F 0).1 < mu m F := by
  rw [delv_cons hb]
  have hfull := h.full
  rw [hb] at hfull
  simp only [List.length_cons] at hfull
  have h' : Inv0 m ts n0 { F with bag := b } := h.bagged (fun x hx => h.bag x (by rw [hb]; exact List.mem_cons_of_mem _ hx)) (by omega)
  obtain ⟨a, n, p, rfl, hw, hn, hp, hk⟩ := h.bag s (by rw [hb]; exact List.mem_cons_self)
  have hmu : mu m F = wtS (putB a) + wtB b + 64 * (m.lays.length - F.at_) := by unfold mu; rw [hb, wtB_cons]
  have hw1 := wtS_in (putB a)
  simp only [gotP, take_put hw, ne_eq, not_true_eq_false, if_false]
  by_cases h0 : a.to = 0
  · rw [if_pos h0]
    have hle : mu m (answerP { F with bag := b } a) ≤ wtB b + 64 * (m.lays.length - F.at_) := by
      by_cases hA : goodA { F with bag := b } a ∧ 0 ≤ fidx (hitP a) F.parts ∧ F.answd.getD (fidx (hitP a) F.parts).toNat true = false
      · have eA : answerP { F with bag := b } a = comeP (setP { F with bag := b } (fidx (hitP a) F.parts).toNat a.vec) := by
          unfold answerP; rw [if_pos hA]
        obtain ⟨i1, i2, i3⟩ := inv_answer hS h' hs hn hp hk
        rw [eA]
        -- the state that comes on
        have hI : Inv0 m ts n0 (setP { F with bag := b } (fidx (hitP a) F.parts).toNat a.vec) := inv_set hS h' hn hp hk hA
        exact mu_come hS _ hI
      · have eA : answerP { F with bag := b } a = { F with bag := b } := by
          unfold answerP; rw [if_neg hA]
        rw [eA]
        exact Nat.le_refl _
    omega
  · rw [if_neg h0]
    have hk1 : a.kind = 1 ∧ a.to ≤ 4 := by
      rcases hk.2.2.2.2.2 with ⟨k, f, t, -⟩ | ⟨-, k, -⟩ | ⟨-, k⟩
      · exact ⟨k, t.2⟩
      · exact absurd k h0
      · exact absurd k h0
    rw [if_pos hk1.2]
    have hw2 : wtS (putB a) = 2 := by unfold wtS; rw [take_put hw, if_pos hk1.1]
    have ebag : (workF { F with bag := b } a).bag = if (nodeP { F with bag := b } a).2.2 then sendB b (nodeP { F with bag := b } a).2.1 else b := rfl
    have hle : wtB (workF { F with bag := b } a).bag ≤ wtB b + 1 := by
      rw [ebag]
      split
      · rename_i c; exact wt_send (node_kind _ _ c)
      · omega
    have : mu m (workF { F with bag := b } a) = wtB (workF { F with bag := b } a).bag + 64 * (m.lays.length - F.at_) := rfl
    omega
def drn : Nat → Flt → Flt
  | 0, F => F
  | k + 1, F => if F.bag = [] then F else drn k (delvP F 0).1
theorem pend_none {F : Flt} (h : Inv m ts n0 F) (hc : F.at_ < m.lays.length) (hP : Pend m ts F) (hb : F.bag = []) : False := by
  have hf := h.2 hc
  obtain ⟨i, hi, e⟩ := List.mem_iff_getElem.1 hf
  have hl := (h.1.lens hc).2
  rw [h.1.parts hc] at hl
  obtain ⟨s, hs, -⟩ := hP i (by omega) (by rw [List.getD_eq_getElem?_getD, List.getElem?_eq_getElem hi, e]; rfl)
  rw [hb] at hs
  cases hs
theorem drn_pend (hS : Setup m ts n0) (a0 : Nat) (ha : a0 < m.lays.length) : ∀ (k : Nat) (F : Flt), Inv m ts n0 F → (a0 < F.at_ ∨ (F.at_ = a0 ∧ Pend m ts F)) → (drn k F).bag = [] → a0 < (drn k F).at_
  | 0, F, h, hp, hb => by
    rcases hp with hp | ⟨e, hp⟩
    · exact hp
    · exact (pend_none h (by omega) hp hb).elim
  | k + 1, F, h, hp, hb => by
    unfold drn at hb ⊢
    by_cases hb0 : F.bag = []
    · rw [if_pos hb0] at hb ⊢
      rcases hp with hp | ⟨e, hp⟩
      · exact hp
      · exact (pend_none h (by omega) hp hb).elim
    · rw [if_neg hb0] at hb ⊢
      obtain ⟨s, b, e⟩ := List.exists_cons_of_ne_nil hb0
      have h1 := inv_delv hS h.1 h.2 0
      refine drn_pend hS a0 ha k (delvP F 0).1 ⟨h1.1, h1.2.1⟩ ?_ hb
      rcases hp with hp | ⟨e2, hp⟩
      · left; omega
      · rcases pend_step hS h.1 h.2 (by omega) hp e with q | ⟨q1, q2⟩
        · left; omega
        · right; exact ⟨by omega, q2⟩
theorem askL_in {F : Flt} : ∀ (l : List (Pt × Bool)) (b : List (List UInt8)), b.length + l.length ≤ 200 → (∀ x ∈ l, wrightM (askM F x.1) = true) → (∀ s ∈ b, s ∈ askL F l b) ∧ ∀ x ∈ l, x.2 = false → putB (askM F x.1) ∈ askL F l b
  | [], b, _, _ => ⟨fun s h => h, fun x h => by cases h⟩
  | y :: r, b, hl, hw => by
    unfold askL
    rw [List.length_cons] at hl
    have hwr : ∀ x ∈ r, wrightM (askM F x.1) = true := fun x hx => hw x (List.mem_cons_of_mem _ hx)
    by_cases hy : y.2 = true
    · rw [if_pos hy]
      obtain ⟨a1, a2⟩ := askL_in r b (by omega) hwr
      refine ⟨a1, fun x hx hf => ?_⟩
      rcases List.mem_cons.1 hx with rfl | hx
      · rw [hy] at hf; cases hf
      · exact a2 x hx hf
    · rw [if_neg hy]
      have hsl : (sendB b (askM F y.1)).length ≤ b.length + 1 := by
        rcases sendB_is (b := b) (a := askM F y.1) with e | ⟨-, -, e⟩
        · rw [e]; omega
        · rw [e]; simp
      obtain ⟨a1, a2⟩ := askL_in r (sendB b (askM F y.1)) (by omega) hwr
      refine ⟨fun s hs => a1 s (mem_sendB hs), fun x hx hf => ?_⟩
      rcases List.mem_cons.1 hx with rfl | hx
      · exact a1 _ (new_sendB (hw _ List.mem_cons_self) (by omega))
      · exact a2 x hx hf
theorem ask_pend {F : Flt} (hS : Setup m ts n0) (h : Inv0 m ts n0 F) (hb : F.bag = []) (hc : F.at_ < m.lays.length) : Pend m ts (askP F) := by
  obtain ⟨e1, e2, e3, e4, e5, e6, e7, e8, e9⟩ := askP_m F
  have hp := h.parts hc
  have hl := (h.lens hc).2
  have hfew := hS.few hc
  have ebag : (askP F).bag = askL F (F.parts.zip F.answd) F.bag := by
    unfold askP; rw [if_pos (by rw [h.mo]; exact hc)]
  have hz : (F.parts.zip F.answd).length = (ptsN m ts F.at_).length := by rw [List.length_zip, hl, hp, Nat.min_self]
  obtain ⟨a1, a2⟩ := askL_in (F := F) (F.parts.zip F.answd) F.bag (by rw [hb, hz]; simp; omega) (fun x hx => by
    have := (List.of_mem_zip (a := x.1) (b := x.2) hx).1
    rw [hp] at this
    exact (ask_kin hS h hc this).1)
  intro i hi hd
  rw [e2] at hi
  rw [e9] at hd
  have hia : i < F.answd.length := by rw [hl, hp]; exact hi
  have hif : F.answd[i] = false := by
    rw [List.getD_eq_getElem?_getD, List.getElem?_eq_getElem hia] at hd; exact hd
  have hm : ((ptsN m ts F.at_)[i], false) ∈ F.parts.zip F.answd := by
    rw [← hif]
    have hzi : i < (F.parts.zip F.answd).length := by omega
    have : (F.parts.zip F.answd)[i] = ((ptsN m ts F.at_)[i], F.answd[i]) := by
      rw [List.getElem_zip]
      simp only [hp]
    rw [← this]
    exact List.getElem_mem hzi
  have hin := a2 _ hm rfl
  obtain ⟨k1, k2, k3, k4, k5⟩ := ask_kin hS h hc (List.getElem_mem hi)
  refine ⟨_, by rw [ebag]; exact hin, askM F (ptsN m ts F.at_)[i], rfl, k1, ?_, .inr ⟨k4, by rw [e3]; exact k5, ?_⟩⟩
  · have : (askP F).at_ = F.at_ := e2
    simp only [this]; exact k2
  · have : (askP F).at_ = F.at_ := e2
    rw [e4]; simp only [this]; exact k3
def allKeys (L T : Nat) : List LKey := (List.range L).flatMap fun (n : Nat) => (List.range T).flatMap fun (t : Nat) => [⟨1, (n : Int), (t : Int), 0⟩, ⟨1, (n : Int), (t : Int), 1⟩]
theorem allKeys_len (L T : Nat) : (allKeys L T).length = 2 * T * L := by
  simp [allKeys, List.length_flatMap, List.map_const', Nat.mul_comm, Nat.mul_left_comm]
theorem led_len (hS : Setup m ts n0) {l : List Ent} (h1 : ∀ e ∈ l, GoodE m ts e) (h2 : (l.map (·.key)).Nodup) : l.length ≤ 2 * ts.length * m.lays.length := by
  have hsub : l.map (·.key) ⊆ allKeys m.lays.length ts.length := by
    intro k hk
    obtain ⟨e, he, rfl⟩ := List.mem_map.1 hk
    obtain ⟨n, p, hn, hp, ek, -⟩ := h1 e he
    obtain ⟨⟨p1, p2⟩, ⟨p3, p4⟩, -⟩ := hS.pts hn hp
    rw [ek]
    unfold allKeys
    refine List.mem_flatMap.2 ⟨n, List.mem_range.2 hn, List.mem_flatMap.2 ⟨p.token.toNat, List.mem_range.2 (by omega), ?_⟩⟩
    have ht : ((p.token.toNat : Nat) : Int) = p.token := by omega
    rw [ht]
    have : p.rank = 0 ∨ p.rank = 1 := by omega
    rcases this with e | e <;> rw [e] <;> simp
  have := List.Nodup.length_le_of_subset h2 hsub
  rw [List.length_map, allKeys_len] at this
  exact this
theorem worked_le {F : Flt} (hS : Setup m ts n0) (h : Inv0 m ts n0 F) : workedP F ≤ 8 * ts.length * m.lays.length := by
  obtain ⟨h5, h0⟩ := h.led0
  have hall := h.led
  unfold workedP
  match hl : F.led, h5 with
  | [a, b, c, d, e], _ =>
    rw [hl] at h0 hall
    have hx : ∀ l ∈ [a, b, c, d, e], l.length ≤ 2 * ts.length * m.lays.length := fun l hl => led_len hS (hall l hl).1 (hall l hl).2
    have ha : a = [] := h0
    have hb := hx b (by simp)
    have hc := hx c (by simp)
    have hd := hx d (by simp)
    have he := hx e (by simp)
    subst ha
    have e8 : 8 * ts.length * m.lays.length = 4 * (2 * ts.length * m.lays.length) := by
      rw [Nat.mul_assoc, Nat.mul_assoc, ← Nat.mul_assoc 4]
    rw [e8]
    simp only [List.map_cons, List.map_nil, List.sum_cons, List.sum_nil, List.length_nil]
    omega
end
def awS : List UInt8 := [98, 97, 103, 10, 100, 111, 110, 101, 10, 100, 114, 111, 112, 32, 57, 10, 119, 104, 97, 116, 10, 114, 101, 116, 105, 114, 101, 32, 48, 32, 49, 10, 114, 101, 116, 105, 114, 101, 32, 48, 32, 50]
def awW : List UInt8 := [111, 107, 32, 52, 32, 48, 10, 111, 107, 10, 101, 114, 114, 111, 114, 32, 52, 10, 101, 114, 114, 111, 114, 32, 50, 10, 111, 107, 10, 101, 114, 114, 111, 114, 32, 55, 10]
theorem aw_lines : spl 10 (Lib.trimSuffix awS [10]) = [wBag, wDone, [100, 114, 111, 112, 32, 57], [119, 104, 97, 116], [114, 101, 116, 105, 114, 101, 32, 48, 32, 49], [114, 101, 116, 105, 114, 101, 32, 48, 32, 50]] := by decide +kernel
theorem line_bag (F : Flt) : lineP F wBag = (F, toldP 0 [(F.bag.length : Int), (workedP F : Int)]) := rfl
theorem line_done (F : Flt) : lineP F wDone = (F, toldP 0 (doneP F).1.flatten) := rfl
theorem line_drop9 (F : Flt) : lineP F [100, 114, 111, 112, 32, 57] = ((dropP F 9).1, toldP (dropP F 9).2 []) := rfl
theorem line_what (F : Flt) : lineP F [119, 104, 97, 116] = (F, toldP 2 []) := rfl
theorem line_ret1 (F : Flt) : lineP F [114, 101, 116, 105, 114, 101, 32, 48, 32, 49] = ((retP F 0 1).1, toldP (retP F 0 1).2 []) := rfl
theorem line_ret2 (F : Flt) : lineP F [114, 101, 116, 105, 114, 101, 32, 48, 32, 50] = ((retP F 0 2).1, toldP (retP F 0 2).2 []) := rfl
theorem dig1 (d : Nat) (h : d < 10) : Lib.itoa (d : Int) = [UInt8.ofNat (48 + d)] := by rw [itoa_pos (by omega), Int.toNat_natCast, Lib.decDigits_one h]
theorem told_e (d : Nat) (h : d < 10) (h0 : 0 < d) : toldP (d : Int) [] = errB ++ [UInt8.ofNat (48 + d)] := by
  unfold toldP
  rw [if_neg (by omega), dig1 d h]
theorem aw_told0 : toldP 0 [((4 : Nat) : Int), ((0 : Nat) : Int)] = [111, 107, 32, 52, 32, 48] := by
  unfold toldP nsB
  rw [if_pos rfl]
  simp only [List.flatMap_cons, List.flatMap_nil, dig1 4 (by decide), dig1 0 (by decide)]
  rfl
theorem aw_f1 : shF.bag.length = 4 ∧ workedP shF = 0 ∧ (doneP shF).1 = [] ∧ (dropP shF 9).2 = 4 ∧ (retP (dropP shF 9).1 0 1).2 = 0 ∧ (retP (retP (dropP shF 9).1 0 1).1 0 2).2 = 7 := by decide +kernel
theorem aw_tell : shellP awS = awW := by
  obtain ⟨a1, a2, a3, a4, a5, a6⟩ := aw_f1
  unfold shellP
  rw [if_neg (by decide), aw_lines]
  simp only [scrP, line_bag, line_done, line_drop9, line_what, line_ret1, line_ret2, a1, a2, a3, a4, a5, a6, aw_told0]
  have t4 : toldP 4 [] = errB ++ [52] := told_e 4 (by decide) (by decide)
  have t2 : toldP 2 [] = errB ++ [50] := told_e 2 (by decide) (by decide)
  have t7 : toldP 7 [] = errB ++ [55] := told_e 7 (by decide) (by decide)
  have t0 : toldP 0 [] = okB := by unfold toldP nsB; rw [if_pos rfl]; rfl
  simp only [List.flatten_nil, t4, t2, t7, t0]
  rfl
theorem gd_cnt (F : Flt) (h : Gd F) : F.bag.length ≤ 1000000 ∧ workedP F ≤ 1000000 := by
  have h1 := worked_le sh_setup h.1
  have h2 : 8 * shT.length * shM.lays.length = 24 := rfl
  have h3 := h.1.full
  exact ⟨by omega, by omega⟩
theorem srun (s : List UInt8) (hs : s.length ≤ 9000) : RetT cfg 14 [.t (.s s)] (.t (.s (shellP s))) := srun_ret gd_held gd_cnt gd_start s hs
theorem awake20_ret : RetT cfg 10 [] (bv true) := by
  have q := fun s k => callEv_tr (C := cfg) (srun awS (by decide)) rfl rfl rfl s k
  rw [aw_tell] at q
  refine RetT.of ?_
  rw [runL_pf (fn := f10) rfl rfl]
  simp only [awS, awW] at q
  simp [q]
theorem scr_len : ∀ (ls : List (List UInt8)) {F : Flt}, Gd F → (scrP F ls).2.length ≤ 3001 * ls.length
  | [], F, h => by simp [scrP]
  | s :: r, F, h => by
    have h1 := line_len gd_held gd_cnt F s h
    have h2 := scr_len r (gd_step F s h)
    simp only [scrP, List.length_append, List.length_cons]
    omega
theorem shell_len (s : List UInt8) (hs : s.length ≤ 9000) : (shellP s).length ≤ 30000000 := by
  unfold shellP
  split
  · simp
  · have h1 := scr_len (spl 10 (Lib.trimSuffix s [10])) gd_start
    have h2 := spl_le (c := 10) (s := Lib.trimSuffix s [10])
    have h3 := trim_le s [10]
    omega
section
set_option maxRecDepth 100000
noncomputable abbrev PP : Program := Go.Proofs.Tryz.prog
theorem u_str : PP.underlying 9 = some .string := by kernel_rfl
theorem a_str {k : Nat} {x : V} (h : ArgFit PP (k + 1) 9 x) : ∃ s : List UInt8, x = .t (.s s) := by
  obtain ⟨s, rfl, _⟩ := argFit_string u_str h
  exact ⟨s, rfl⟩
theorem ret_bv {f : Nat} {xs : List V} (h : RetT cfg f xs (bv true)) : ∃ hp c, runL cfg f xs [] 0 = some (bv true, hp, c) := by
  obtain ⟨r, hh, c, h1, h2⟩ := h
  refine ⟨hh, c, ?_⟩
  rw [h1]
  cases r <;> simp only [resOf, resOf1] at h2
  all_goals first | (cases h2; rfl) | (revert h2; split <;> intro h2 <;> cases h2) | (revert h2; intro h2; cases h2) | skip
  all_goals (obtain ⟨y, e1, e2⟩ := Option.map_eq_some_iff.1 h2; cases e2; simp only [treeOf] at e1; (repeat' split at e1) <;> cases e1)
end
def rep (rs : List (List UInt8)) : List UInt8 := rs.flatMap fun r => r ++ [10]
structure GoodL (r : List UInt8) : Prop where
  hd : okB <+: r ∨ errB <+: r
  no : ∀ b ∈ r, b ≠ 10
theorem rep_cons (r : List UInt8) (rs : List (List UInt8)) : rep (r :: rs) = r ++ 10 :: rep rs := by simp [rep]
def wDel0 : List UInt8 := [100, 101, 108, 105, 118, 101, 114, 32, 48]
theorem scr_del : ∀ (k : Nat) (F : Flt), (scrP F (List.replicate k wDel0)).1 = drn k F
  | 0, F => rfl
  | k + 1, F => by
    rw [List.replicate_succ]
    show (scrP (delvP F 0).1 (List.replicate k wDel0)).1 = _
    rw [scr_del k]
    have e : drn (k + 1) F = if F.bag = [] then F else drn k (delvP F 0).1 := rfl
    rw [e]
    by_cases hb : F.bag = []
    · rw [if_pos hb, delv_nil hb]
      cases k with
      | zero => rfl
      | succ k => simp only [drn, if_pos hb]
    · rw [if_neg hb]
theorem shM_lays : shM.lays.length = 1 := rfl
theorem pts4 : (ptsN shM shT 0).length = 4 := by decide +kernel
theorem tok1 : tokN shM shT 1 = [[200], [100], [7]] := by decide +kernel
theorem come_bag1 {F : Flt} (hm : F.m.lays.length = 1) : (comeP F).bag = F.bag := by
  unfold comeP
  rw [hm]
  rcases Nat.eq_zero_or_pos F.at_ with h0 | h0
  · rw [h0]
    show (if F.at_ < F.m.lays.length ∧ ¬ false ∈ F.answd then comeN 0 (stepP F) else F).bag = F.bag
    split
    · show (stepP F).bag = F.bag
      unfold stepP beginP
      rw [if_neg]
      · rfl
      · show ¬ F.at_ + 1 < F.m.lays.length
        omega
    · rfl
  · rw [show 1 - F.at_ = 0 by omega]
    rfl
theorem ans_bag1 {F : Flt} (hm : F.m.lays.length = 1) (a : Msg) : (answerP F a).bag = F.bag := by
  unfold answerP
  split
  · rw [come_bag1 (by exact hm)]; rfl
  · rfl
theorem wt_delv {F : Flt} (h : Gd F) {s : List UInt8} {b : List (List UInt8)} (hb : F.bag = s :: b) : wtB (delvP F 0).1.bag < wtB F.bag := by
  have hmu := mu_delv sh_setup h.1 h.2 hb
  have hc := delv_cons hb
  have hw := wtS_in s
  have hmo : F.m.lays.length = 1 := by rw [h.1.mo]; rfl
  have key : (delvP F 0).1.bag = b ∨ (delvP F 0).1.at_ = F.at_ := by
    rw [hc]
    simp only
    unfold gotP
    split
    · exact .inl rfl
    · split
      · exact .inl (ans_bag1 (F := { F with bag := b }) hmo _)
      · split
        · exact .inr rfl
        · exact .inl rfl
  rcases key with k | k
  · rw [k, hb, wtB_cons]; omega
  · unfold mu at hmu
    rw [k] at hmu
    omega
theorem drn_wt : ∀ (k : Nat) (F : Flt), Gd F → wtB F.bag ≤ k → Gd (drn k F) ∧ F.at_ ≤ (drn k F).at_ ∧ (drn k F).bag = []
  | 0, F, h, hk => ⟨h, Nat.le_refl _, by
    show F.bag = []
    cases hb : F.bag with
    | nil => rfl
    | cons s b =>
      have := wtS_in s
      rw [hb, wtB_cons] at hk
      omega⟩
  | k + 1, F, h, hk => by
    unfold drn
    by_cases hb : F.bag = []
    · rw [if_pos hb]; exact ⟨h, Nat.le_refl _, hb⟩
    · rw [if_neg hb]
      obtain ⟨s, b, e⟩ := List.exists_cons_of_ne_nil hb
      have h1 := inv_delv sh_setup h.1 h.2 0
      have h2 := wt_delv h e
      obtain ⟨q1, q2, q3⟩ := drn_wt k (delvP F 0).1 ⟨h1.1, h1.2.1⟩ (by omega)
      exact ⟨q1, by omega, q3⟩
theorem gd_at {F : Flt} (h : Gd F) : F.at_ ≤ 1 := by have := h.1.at_; simpa [shM_lays] using this
theorem round1 {F : Flt} (h : Gd F) (hb : F.bag = []) {k : Nat} (hk : 8 ≤ k) : Gd (drn k (askP F)) ∧ (drn k (askP F)).bag = [] ∧ (drn k (askP F)).at_ = 1 := by
  have hG : Gd (askP F) := ⟨inv_ask sh_setup h.1, settled_ask h.2⟩
  have hat := gd_at h
  have hm := askP_m F
  by_cases c : F.at_ < shM.lays.length
  · have hp := ask_pend sh_setup h.1 hb c
    have h0 : F.at_ = 0 := by rw [shM_lays] at c; omega
    have hw : wtB (askP F).bag ≤ 8 := by
      unfold askP
      rw [if_pos (by rw [h.1.mo]; exact c)]
      have := wt_askL F (F.parts.zip F.answd) F.bag
      have hl : (F.parts.zip F.answd).length ≤ 4 := by
        rw [List.length_zip, h.1.parts c, h0]
        have : (partsP (layAt shM ((0 : Nat) : Int)) (tokN shM shT 0)).length = 4 := pts4
        have e2 : (ptsN shM shT 0).length = 4 := pts4
        omega
      rw [hb] at this ⊢
      have e0 : wtB [] = 0 := rfl
      simp only
      omega
    obtain ⟨q1, q2, q3⟩ := drn_wt k (askP F) hG (by omega)
    have q4 := drn_pend sh_setup 0 (by decide) k (askP F) hG (.inr ⟨by rw [hm.2.1]; exact h0, hp⟩) q3
    have q5 := gd_at q1
    exact ⟨q1, q3, by omega⟩
  · have h1 : F.at_ = 1 := by rw [shM_lays] at c; omega
    have e : askP F = F := by unfold askP; rw [if_neg (by rw [h.1.mo]; exact c)]
    rw [e]
    have : drn k F = F := by
      cases k with
      | zero => rfl
      | succ k => simp only [drn, if_pos hb]
    rw [this]
    exact ⟨h, hb, h1⟩
theorem done1 {F : Flt} (h : Gd F) (h1 : F.at_ = 1) : (doneP F).1.flatten = [200, 100, 7] := by
  rw [inv_done h, if_neg (by rw [shM_lays]; omega)]
  have : tokN shM shT shM.lays.length = [[200], [100], [7]] := tok1
  rw [this]
  rfl
def okEnd : List UInt8 := toldP 0 [200, 100, 7]
theorem scr_gd : ∀ (ls : List (List UInt8)) {F : Flt}, Gd F → Gd (scrP F ls).1
  | [], F, h => h
  | s :: r, F, h => scr_gd r (gd_step F s h)
theorem scr_nl : ∀ (F : Flt) (ls : List (List UInt8)), ls ≠ [] → ∃ X, (scrP F ls).2 = X ++ [10]
  | F, [], h => absurd rfl h
  | F, [s], h => ⟨(lineP F s).2, by simp [scrP]⟩
  | F, s :: t :: r, h => by
    obtain ⟨X, hX⟩ := scr_nl (lineP F s).1 (t :: r) (by simp)
    exact ⟨(lineP F s).2 ++ 10 :: X, by rw [scrP]; simp only; rw [hX]; simp⟩
theorem spl_rep (ls : List (List UInt8)) (t : List UInt8) (h : ∀ l ∈ ls, ∀ b ∈ l, b ≠ 10) : spl 10 (rep ls ++ t) = ls ++ spl 10 t := by
  induction ls with
  | nil => rfl
  | cons l ls ih =>
    have hs : ∀ w : List UInt8, (∀ b ∈ w, b ≠ 10) → spl 10 w = [w] := by
      intro w
      induction w with
      | nil => intro _; rfl
      | cons b r ih =>
        intro h
        rw [spl_cons_ne (h b List.mem_cons_self), ih (fun x hx => h x (List.mem_cons_of_mem _ hx))]
        rfl
    rw [rep_cons, List.append_assoc, List.cons_append, spl_app, ih (fun x hx => h x (List.mem_cons_of_mem _ hx)), hs l (h l List.mem_cons_self)]
    rfl
theorem trim_e (s : List UInt8) (x : UInt8) (hx : x ≠ 10) : Lib.trimSuffix (s ++ [x]) [10] = s ++ [x] := by
  rcases trim_cases (s ++ [x]) with ⟨q, h1, _⟩ | ⟨_, h⟩
  · exfalso
    have := (List.append_inj' h1 rfl).2
    simp at this
    exact hx this
  · exact h
theorem run_e (s : List UInt8) (x : UInt8) (hx : x ≠ 10) : shellP (s ++ [x]) = (scrP shF (spl 10 (s ++ [x]))).2 := by
  unfold shellP
  rw [if_neg (by simp), trim_e s x hx]
theorem rep_app (a b : List (List UInt8)) : rep (a ++ b) = rep a ++ rep b := by simp [rep]
theorem told_end (F : Flt) (a : List (List UInt8)) : (scrP F (a ++ [wDone])).2 = (scrP F a).2 ++ (toldP 0 (doneP (scrP F a).1).1.flatten ++ [10]) := by
  rw [scr_app]
  simp [scrP, line_done]
theorem ends_pure (s : List UInt8) (n1 n2 : Nat) (h1 : 400 ≤ n1) (h2 : 8 ≤ n2) : ∃ X, shellP (s ++ [10] ++ rep (List.replicate n1 wDel0) ++ rep [wAsk] ++ rep (List.replicate n2 wDel0) ++ wDone) = X ++ [10] ++ okEnd ++ [10] := by
  have hd : ∀ k, ∀ l ∈ List.replicate k wDel0, ∀ b ∈ l, b ≠ 10 := by
    intro k l hl
    rw [List.eq_of_mem_replicate hl]
    decide
  have ha : ∀ l ∈ [wAsk], ∀ b ∈ l, b ≠ 10 := by decide
  have d1 := hd n1
  have d2 := hd n2
  have e1 : ∀ F, (scrP F (List.replicate n1 wDel0)).1 = drn n1 F := scr_del n1
  have e2 : ∀ F, (scrP F (List.replicate n2 wDel0)).1 = drn n2 F := scr_del n2
  generalize List.replicate n1 wDel0 = D1 at *
  generalize List.replicate n2 wDel0 = D2 at *
  have e : s ++ [10] ++ rep D1 ++ rep [wAsk] ++ rep D2 ++ wDone = (s ++ [10] ++ rep D1 ++ rep [wAsk] ++ rep D2 ++ [100, 111, 110]) ++ [101] := by simp [wDone]
  have hsp : spl 10 (s ++ [10] ++ rep D1 ++ rep [wAsk] ++ rep D2 ++ wDone) = spl 10 s ++ (D1 ++ ([wAsk] ++ (D2 ++ [wDone]))) := by
    have e3 : s ++ [10] ++ rep D1 ++ rep [wAsk] ++ rep D2 ++ wDone = s ++ 10 :: (rep D1 ++ (rep [wAsk] ++ (rep D2 ++ wDone))) := by simp
    rw [e3, spl_app, spl_rep _ _ d1, spl_rep _ _ ha, spl_rep _ _ d2]
    rfl
  have hr : shellP (s ++ [10] ++ rep D1 ++ rep [wAsk] ++ rep D2 ++ wDone) = (scrP shF (spl 10 s ++ (D1 ++ ([wAsk] ++ (D2 ++ [wDone]))))).2 := by
    rw [← hsp, e]
    exact run_e _ 101 (by decide)
  rw [hr]
  have assoc : spl 10 s ++ (D1 ++ ([wAsk] ++ (D2 ++ [wDone]))) = (spl 10 s ++ (D1 ++ ([wAsk] ++ D2))) ++ [wDone] := by simp
  rw [assoc, told_end]
  have g0 := scr_gd (spl 10 s) gd_start
  obtain ⟨q1, q2, q3⟩ := drn_wt n1 _ g0 (by have := wtB_le (scrP shF (spl 10 s)).1.bag; have := g0.1.full; omega)
  obtain ⟨r1, r2, r3⟩ := round1 q1 q3 (k := n2) (by omega)
  have hst : (scrP shF (spl 10 s ++ (D1 ++ ([wAsk] ++ D2)))).1 = drn n2 (askP (drn n1 (scrP shF (spl 10 s)).1)) := by
    rw [scr_app]
    simp only
    rw [scr_app]
    simp only
    rw [e1, List.singleton_append]
    show (scrP (askP _) D2).1 = _
    rw [e2]
  rw [hst, done1 r1 r3]
  obtain ⟨X, hX⟩ := scr_nl shF (spl 10 s ++ (D1 ++ ([wAsk] ++ D2))) (by simp)
  exact ⟨X, by rw [hX]; simp [okEnd]⟩
structure PL (F : Flt) : Prop where
  gd : Gd F
  len : F.bag.length ≤ 4
  at0 : F.at_ = 0
  wk : workedP F = 0
def TV (ts : List (List Int)) (v1 : V) (h1 : HP) (c0 : Nat) : Prop := (∀ p ∈ h1, p.1.s = 8) ∧ (v1 = .t (gl ts) ∨ ∃ c o fz, v1 = .ow ⟨8, c, o⟩ 1 0 ts.length ∧ c < c0 ∧ h1.get ⟨8, c, o⟩ = some (.row 31 1 (ts.map fun r => [il r]) fz))
theorem filt_8 {h : HP} (hh : ∀ p ∈ h, p.1.s = 8) {f : Key × Ob → Bool} (hf : ∀ p : Key × Ob, p.1.s = 8 → f p = true) : List.filter f h = h := List.filter_eq_self.2 fun p hp => hf p (hh p hp)
def lbox (l : Lay) : Ob := .box 37 [.t (gl l.gate), .t (.l (l.exps.map exT)), iv l.cap]
def fwS (L : T) (n i : Nat) (l : Lay) (P : List Pt) (v1 : V) (h1 : HP) (c6 o6 c8 o8 : Nat) (els : List (List T)) (t : Nat) (v : List Int) (k ck : Nat) : St := ⟨[(1, v1), (6, .pt ⟨6, c6, o6⟩ 3 0 0), (7, .t (ptl P)), (8, .ow ⟨8, c8, o8⟩ 1 0 t), (9, iv (t : Int)), (10, .t (il v)), (14, .t L), (15, iv n), (16, iv (i : Int)), (33, .t (ptl P)), (34, iv P.length), (35, iv (k : Int))], (⟨8, c8, o8⟩, .row 31 1 els false) :: (⟨6, c6, o6⟩, lbox l) :: h1, ck⟩
def fw0Q (ck0 : Nat) (L : T) (n i : Nat) (l : Lay) (P : List Pt) (v1 : V) (h1 : HP) (c6 o6 c8 o8 : Nat) (els : List (List T)) (t : Nat) (v : List Int) (E : Option (Ex × St)) : Prop := ∃ ck e, ck0 ≤ ck ∧ E = some (.exit 4, ⟨(1, v1) :: (6, .pt ⟨6, c6, o6⟩ 3 0 0) :: (7, .t (ptl P)) :: (8, .ow ⟨8, c8, o8⟩ 1 0 t) :: (9, iv (t : Int)) :: (10, .t (il v)) :: (14, .t L) :: (15, iv n) :: (16, iv (i : Int)) :: e, (⟨8, c8, o8⟩, .row 31 1 els false) :: (⟨6, c6, o6⟩, lbox l) :: h1, ck⟩)
def fw0I (ck0 : Nat) (L : T) (n i : Nat) (l : Lay) (ts : List (List Int)) (d : Int) (P : List Pt) (v1 : V) (h1 : HP) (c6 o6 c8 o8 : Nat) (els : List (List T)) (t : Nat) (v : List Int) (k : Nat) (s : St) : Prop := ∃ w ck, ck0 ≤ ck ∧ fwdT l ts t (P.drop k) w = fwdT l ts t P v ∧ (w.length : Int) = d ∧ s = fwS L n i l P v1 h1 c6 o6 c8 o8 els t w k ck
theorem fw0_loop {L : T} {n i : Nat} {l : Lay} {d : Int} {ts : List (List Int)} {P : List Pt} {v1 : V} {h1 : HP} {c0 : Nat} (hV : TV ts v1 h1 c0) (hl : layRight l d = true) (hx : FewL l) (hd : 1 ≤ d ∧ d ≤ 8) (hw : Wide d ts) (hP : ∀ p ∈ P, (0 ≤ p.token ∧ p.token < ts.length) ∧ 0 ≤ p.expert ∧ p.expert < l.exps.length) (hn : P.length ≤ 100000) (c6 o6 c8 o8 : Nat) (h8 : c0 ≤ c8) (els : List (List T)) (t : Nat) (ht : t < ts.length) (ht2 : ts.length ≤ 10000) (v : List Int) (hv : (v.length : Int) = d) (ck : Nat) :
    fw0Q ck L n i l P v1 h1 c6 o6 c8 o8 els t (fwdT l ts t P v) (evL cfg (.loop f15l0) (fwS L n i l P v1 h1 c6 o6 c8 o8 els t v 0 ck)) := by
  obtain ⟨hs, hV⟩ := hV
  have hf12 : List.filter (fun p => !decide (p.1.s = 12)) h1 = h1 := filt_8 hs (by intro p h; simp [h])
  refine loop_q P.length (fw0I ck L n i l ts d P v1 h1 c6 o6 c8 o8 els t v) ?_ ?_ _ ⟨v, ck, Nat.le_refl _, rfl, hv, rfl⟩
  · rintro k s hk ⟨w, ck, e0, e1, e2, rfl⟩
    have hwk : IntKind.i64.wrap ((k : Int) + 1) = (k : Int) + 1 := wrap_id (by omega) (by omega)
    rw [fwdT_drop hk] at e1
    obtain ⟨⟨p1, p2⟩, p3, p4⟩ := hP _ (List.getElem_mem hk)
    generalize hp : P[k] = p at *
    obtain ⟨pt, pr, px, pw⟩ := p
    simp only at p1 p2 p3 p4 e1
    obtain ⟨x, rfl⟩ : ∃ x : Nat, px = x := ⟨px.toNat, by omega⟩
    have hxl : x < l.exps.length := by omega
    have gt : ts.getD t [] = ts[t] := by simp [List.getD_eq_getElem?_getD, ht]
    have ge : expAt l (x : Int) = l.exps[x] := by simp [expAt, List.getD_eq_getElem?_getD, hxl]
    have hxr := layR_exp hl p3 p4
    obtain ⟨r1, r2⟩ := exR_run hxr (wide_get hw ht).1
    rw [gt, ge] at e1 r1 r2
    have htl := (wide_get hw ht).1
    rw [gt] at htl
    rw [← r1] at r2
    have h1' := fun hp => callQ_tr (C := cfg) (rrun_ret l.exps[x] ts[t] (hx.2.2 _ (List.getElem_mem hxl)) (by omega)) rfl hp
    generalize runD l.exps[x] ts[t] = R at *
    have h2' := fun hp => callQ_tr (C := cfg) (rscale_ret R pw (by omega)) rfl hp
    have h3' := fun hp => callQ_tr (C := cfg) (radd_ret w (scaleR R pw) (by simp only [scaleR, List.length_map]; omega) (by omega)) rfl hp
    have hal : ((addR w (scaleR R pw)).length : Int) = d := by simp only [addR, scaleR, List.length_zipWith, List.length_map]; omega
    generalize addR w (scaleR R pw) = A at *
    generalize scaleR R pw = B at *
    simp only [exV, gl, il, iv] at h1' h2' h3'
    by_cases c : pt = t
    · subst c
      rw [if_pos rfl] at e1
      rcases hV with rfl | ⟨c1, o1, fz, rfl, hc1, hg1⟩
      · simp [f15l0e, fwS, ptl, ptT, gl, il, lbox, exT, hk, hp, ht, hxl, hwk, over, hf12, filt_t, h1', h2', h3']
        exact ⟨A, _, by omega, e1, hal, rfl⟩
      · simp [f15l0e, fwS, ptl, ptT, gl, il, lbox, exT, hk, hp, ht, hxl, hwk, over, hf12, filt_t, h1', h2', h3', hg1, show ¬ c8 = c1 by omega]
        exact ⟨A, _, by omega, e1, hal, rfl⟩
    · rw [if_neg c] at e1
      have cb : (pt == (t : Int)) = false := beq_eq_false_iff_ne.2 c
      rcases hV with rfl | ⟨c1, o1, fz, rfl, hc1, hg1⟩
      · simp [f15l0e, fwS, ptl, ptT, gl, il, lbox, exT, hk, hp, ht, hxl, hwk, over, hf12, filt_t, cb]
        exact ⟨w, _, by omega, e1, e2, rfl⟩
      · simp [f15l0e, fwS, ptl, ptT, gl, il, lbox, exT, hk, hp, ht, hxl, hwk, over, hf12, filt_t, cb, hg1, show ¬ c8 = c1 by omega]
        exact ⟨w, _, by omega, e1, e2, rfl⟩
  · rintro s ⟨w, ck, e0, e1, e2, rfl⟩
    rw [List.drop_eq_nil_of_le (Nat.le_refl _)] at e1
    simp only [fwdT] at e1
    subst e1
    rcases hV with rfl | ⟨c1, o1, fz, rfl, hc1, hg1⟩
    · simp [f15l0e, fwS, ptl, lbox, filt_t]
      exact ⟨_, _, by omega, rfl⟩
    · simp [f15l0e, fwS, ptl, lbox, filt_t, hg1, show ¬ c8 = c1 by omega]
      exact ⟨_, _, by omega, rfl⟩
def fw1S (L : T) (n i : Nat) (l : Lay) (P : List Pt) (v1 : V) (h1 : HP) (c6 o6 c8 o8 : Nat) (els : List (List T)) (t ck : Nat) : St := ⟨[(1, v1), (6, .pt ⟨6, c6, o6⟩ 3 0 0), (7, .t (ptl P)), (8, .ow ⟨8, c8, o8⟩ 1 0 t), (9, iv (t : Int)), (14, .t L), (15, iv n), (16, iv (i : Int))], (⟨8, c8, o8⟩, .row 31 1 els false) :: (⟨6, c6, o6⟩, lbox l) :: h1, ck⟩
def rws (ts : List (List Int)) : List (List T) := ts.map fun r => [il r]
def fw1I (L : T) (n i : Nat) (l : Lay) (ts : List (List Int)) (v1 : V) (h1 : HP) (c0 c6 o6 : Nat) (t : Nat) (s : St) : Prop := ∃ c8 o8 els ck, c0 ≤ c8 ∧ c8 < ck ∧ els = rws ((fwd1 l ts).take t) ∧ s = fw1S L n i l (partsP l ts) v1 h1 c6 o6 c8 o8 els t ck
def fw1Q (L : T) (n i : Nat) (l : Lay) (ts : List (List Int)) (v1 : V) (h1 : HP) (c0 c6 o6 : Nat) (E : Option (Ex × St)) : Prop := ∃ c8 o8 ck e, c0 ≤ c8 ∧ c8 < ck ∧ E = some (.exit 2, ⟨(1, v1) :: (6, .pt ⟨6, c6, o6⟩ 3 0 0) :: (7, .t (ptl (partsP l ts))) :: (8, .ow ⟨8, c8, o8⟩ 1 0 ts.length) :: (9, iv ts.length) :: (14, .t L) :: (15, iv n) :: (16, iv (i : Int)) :: e, (⟨8, c8, o8⟩, .row 31 1 (rws (fwd1 l ts)) false) :: (⟨6, c6, o6⟩, lbox l) :: h1, ck⟩)
theorem fw1_loop {L : T} {n i : Nat} {l : Lay} {d : Int} {ts : List (List Int)} {v1 : V} {h1 : HP} {c0 : Nat} (hV : TV ts v1 h1 c0) (hl : layRight l d = true) (hx : FewL l) (hd : 1 ≤ d ∧ d ≤ 8) (hw : Wide d ts) (ht2 : ts.length ≤ 10000) (c6 o6 c8 o8 : Nat) (h8 : c0 ≤ c8) (ck : Nat) (h9 : c8 < ck) :
    fw1Q L n i l ts v1 h1 c0 c6 o6 (evL cfg (.loop f15l1) (fw1S L n i l (partsP l ts) v1 h1 c6 o6 c8 o8 [] 0 ck)) := by
  have hfl : (fwd1 l ts).length = ts.length := by simp [fwd1]
  have hpl := partsP_len l ts
  have hP : ∀ p ∈ partsP l ts, (0 ≤ p.token ∧ p.token < ts.length) ∧ 0 ≤ p.expert ∧ p.expert < l.exps.length := fun p hp => ⟨⟨(partsP_in p hp).1, (partsP_in p hp).2.1⟩, partsP_exp p hp⟩
  refine loop_q ts.length (fw1I L n i l ts v1 h1 c0 c6 o6) ?_ ?_ _ ⟨c8, o8, [], ck, h8, h9, by simp [rws], rfl⟩
  · rintro t s ht ⟨c8, o8, els, ck, h8, h9, he, rfl⟩
    have hwk : IntKind.i64.wrap ((t : Int) + 1) = (t : Int) + 1 := wrap_id (by omega) (by omega)
    have gt : ts.getD t [] = ts[t] := by simp [List.getD_eq_getElem?_getD, ht]
    have hvl := (wide_get hw ht).1
    rw [gt] at hvl
    obtain ⟨ck2, e2, hc2, hE⟩ := fw0_loop (L := L) (n := n) (i := i) hV hl hx hd hw hP (by omega) c6 o6 c8 o8 h8 els t ht ht2 ts[t] hvl (ck + 1 + 1 + 1)
    have hs : rws ((fwd1 l ts).take (t + 1)) = els ++ [[il (fwdT l ts t (partsP l ts) ts[t])]] := by
      rw [List.take_succ_eq_append_getElem (by omega), he]
      simp [rws, fwd1, List.getElem?_eq_getElem ht]
    have hlen : els.length = t := by rw [he]; simp [rws]; omega
    have hb : (t + 1) * 24 ≤ 140737488355328 := by omega
    generalize fwdT l ts t (partsP l ts) ts[t] = w at *
    obtain ⟨hss, hV⟩ := hV
    rcases hV with rfl | ⟨c1, o1, fz, rfl, hc1, hg1⟩
    · simp only [fwS, ptl, gl, il, iv, lbox, Int.natCast_zero] at hE
      simp [f15l1e, fw1S, ptl, gl, il, lbox, ht, hwk, filt_t, hE, rowsOf, keysOfs, treesC, treesOf, treeOf, freezeAll, app, elsOf, over, hb, hlen]
      exact ⟨_, _, _, _, by omega, by omega, hs.symm, rfl⟩
    · simp only [fwS, ptl, gl, il, iv, lbox, Int.natCast_zero] at hE
      simp [f15l1e, fw1S, ptl, gl, il, lbox, ht, hwk, filt_t, hE, rowsOf, keysOfs, treesC, treesOf, treeOf, freezeAll, app, elsOf, over, hb, hlen, hg1, show ¬ c8 = c1 by omega]
      exact ⟨_, _, _, _, by omega, by omega, hs.symm, rfl⟩
  · rintro s ⟨c8, o8, els, ck, h8, h9, he, rfl⟩
    rw [List.take_of_length_le (by omega)] at he
    subst he
    obtain ⟨hss, hV⟩ := hV
    rcases hV with rfl | ⟨c1, o1, fz, rfl, hc1, hg1⟩
    · simp [f15l1e, fw1S, ptl, gl, filt_t]
      exact ⟨_, _, _, _, h8, by omega, rfl⟩
    · simp [f15l1e, fw1S, ptl, gl, filt_t]
      exact ⟨_, _, _, _, h8, by omega, rfl⟩
theorem freeze_get {h : HP} {k : Key} {ty sz : Nat} {els : List (List T)} {fz : Bool} (hg : h.get k = some (.row ty sz els fz)) : (freezeAll h [k]).get k = some (.row ty sz els true) := by
  simp only [freezeAll, freeze1, hg]
  rw [hp_get_put, if_pos rfl, hg]; rfl
theorem put_sites {h : HP} {k : Key} {o : Ob} {n : Nat} (hk : k.s = n) (hs : ∀ p ∈ h, p.1.s = n) : ∀ p ∈ h.put k k o, p.1.s = n := by
  induction h with
  | nil => intro p hp; simp [HP.put] at hp
  | cons q h ih =>
    obtain ⟨q, x⟩ := q
    intro p hp
    simp only [HP.put] at hp
    split at hp
    · rcases List.mem_cons.1 hp with rfl | hp
      · exact hk
      · exact hs p (by simp [hp])
    · rcases List.mem_cons.1 hp with rfl | hp
      · exact hs (q, x) (by simp)
      · exact ih (fun r hr => hs r (by simp [hr])) p hp
theorem freeze_sites {h : HP} {k : Key} {n : Nat} (hk : k.s = n) (hs : ∀ p ∈ h, p.1.s = n) : ∀ p ∈ freezeAll h [k], p.1.s = n := by
  simp only [freezeAll, freeze1]
  split
  · exact put_sites hk hs
  · exact hs
theorem fparts_call {l : Lay} {ts : List (List Int)} {v1 : V} {h1 : HP} {c0 : Nat} (hV : TV ts v1 h1 c0) (hg : Few l.gate) (hl : ts.length ≤ 10000) (ht : ∀ r ∈ ts, r.length ≤ 1000000) (hc : 0 ≤ l.cap) (c6 o6 : Nat) : ∃ h2, TV ts v1 h2 c0 ∧ ∀ e k ck, callEv cfg (runL cfg) 35 [layV l, v1] ⟨e, (⟨6, c6, o6⟩, lbox l) :: h1, ck⟩ k = some (.t (ptl (partsP l ts)), (⟨6, c6, o6⟩, lbox l) :: h2, ck) := by
  have hr := rparts_ret l ts hg hl ht hc
  obtain ⟨hs, hV⟩ := hV
  rcases hV with rfl | ⟨c, o, fz, rfl, h2, h3⟩
  · exact ⟨h1, ⟨hs, .inl rfl⟩, fun e k ck => callEv_tr (C := cfg) hr rfl rfl rfl ⟨e, _, ck⟩ k⟩
  · refine ⟨freezeAll h1 [⟨8, c, o⟩], ⟨freeze_sites rfl hs, .inr ⟨c, o, true, rfl, h2, freeze_get h3⟩⟩, fun e k ck => ?_⟩
    have := callEv_k (C := cfg) (f := 35) (args := [layV l, .ow ⟨8, c, o⟩ 1 0 ts.length]) (s := ⟨e, (⟨6, c6, o6⟩, lbox l) :: h1, ck⟩) (k := k) rfl rfl (ps := [layV l, .t (gl ts)]) (by
      simp [puresOf, pureOf, treeOf, layV, treesOf, h3, gl, il]
      exact List.take_of_length_le (by simp)) hr rfl
    rw [this]
    simp [keysOf, keysOf1, layV, freezeAll, freeze1, h3]
def fw2I (m : Mod) (ts : List (List Int)) (i : Nat) (s : St) : Prop := ∃ v1 h1 c0, TV (tokN m ts i) v1 h1 c0 ∧ s = ⟨[(1, v1), (14, .t (laysT m)), (15, iv m.lays.length), (16, iv (i : Int))], h1, c0⟩
def fw2Q (m : Mod) (ts : List (List Int)) (E : Option (Ex × St)) : Prop := ∃ v1 h1 c0 ck e, TV (tokN m ts m.lays.length) v1 h1 c0 ∧ E = some (.exit 0, ⟨(1, v1) :: e, h1, ck⟩)
theorem tv_new {ts : List (List Int)} {h1 : HP} {c o c0 c8 : Nat} {els : List (List T)} (hs : ∀ p ∈ h1, p.1.s = 8) (he : els = rws ts) (hc : c < c0) : TV ts (.ow ⟨8, c, o⟩ 1 0 ts.length) ((⟨8, c, o⟩, .row 31 1 els false) :: h1) c0 := by
  refine ⟨fun p hp => ?_, .inr ⟨c, o, false, rfl, hc, by rw [he]; simp [HP.get, rws]⟩⟩
  rcases List.mem_cons.1 hp with rfl | hp
  · rfl
  · exact hs p hp
theorem fw2_loop {m : Mod} {ts : List (List Int)} (hm : FewM m) (hr : ∀ l ∈ m.lays, layRight l m.dim = true) (hd : 1 ≤ m.dim ∧ m.dim ≤ 8) (hw : Wide m.dim ts) (ht : ts.length ≤ 10000) (ck : Nat) : fw2Q m ts (evL cfg (.loop f15l2) ⟨[(1, .t (gl ts)), (14, .t (laysT m)), (15, iv m.lays.length), (16, iv 0)], [], ck⟩) := by
  refine loop_q m.lays.length (fw2I m ts) ?_ ?_ _ ⟨_, [], ck, ⟨by simp, .inl rfl⟩, rfl⟩
  · rintro i s hi ⟨v1, h1, c0, hV, rfl⟩
    have hml := hm.1
    have hwk : IntKind.i64.wrap ((i : Int) + 1) = (i : Int) + 1 := wrap_id (by omega) (by omega)
    obtain ⟨k1, k2⟩ := tokN_ok hr hw i (by omega)
    have e : layAt m i = m.lays[i] := by simp [layAt, List.getD_eq_getElem?_getD, hi]
    have hl := hr _ (List.getElem_mem hi)
    have hx := hm.2 _ (List.getElem_mem hi)
    have hn : tokN m ts (i + 1) = fwd1 m.lays[i] (tokN m ts i) := by
      simp only [tokN, e]; exact (next_ok hl k2).2.2.symm
    have hnl : (tokN m ts (i + 1)).length = (tokN m ts i).length := by rw [hn]; simp [fwd1]
    generalize hT : tokN m ts i = T0 at *
    have hcap : 0 ≤ m.lays[i].cap := by simp only [layRight, Bool.and_eq_true, decide_eq_true_eq] at hl; omega
    have hla : (laysT m) = .l (m.lays.map layT) := rfl
    generalize hL : m.lays[i] = l at *
    obtain ⟨h2, hV2, hp⟩ := fparts_call hV hx.1 (by omega) (fun r hr => by have := (k2 r hr).1; omega) hcap (c0 + 1) 2
    obtain ⟨c8, o8, ck8, e8, q1, q2, q3⟩ := fw1_loop (L := laysT m) (n := m.lays.length) (i := i) hV2 hl hx hd k2 (by omega) (c0 + 1) 2 (c0 + 1 + 1 + 1) 0 (by omega) (c0 + 1 + 1 + 1 + 1 + 1) (by omega)
    have hfin : fw2I m ts (i + 1) ⟨[(1, .ow ⟨8, c8, o8⟩ 1 0 T0.length), (14, .t (laysT m)), (15, iv m.lays.length), (16, iv ((i + 1 : Nat) : Int))], (⟨8, c8, o8⟩, .row 31 1 (rws (fwd1 l T0)) false) :: h2, ck8 + 1 + 1⟩ := by
      refine ⟨_, _, _, ?_, rfl⟩
      rw [← hnl]
      exact tv_new (c8 := 0) hV2.1 (by rw [hn]) (by omega)
    have hs := hV2.1
    have hf6 : List.filter (fun p => !decide (p.1.s = 6)) h2 = h2 := filt_8 hs (by intro p h; simp [h])
    have hla : layT l = [gl l.gate, .l (l.exps.map exT), .i .i64 l.cap] := rfl
    simp only [layV, lbox, fw1S, laysT, iv, ptl, gl, il, Int.natCast_zero] at hp q3 hfin hla
    simp [f15l2e, laysT, hi, hL, hla, hwk, filt_t, hf6, over, hp, q3]
    exact hfin
  · rintro s ⟨v1, h1, c0, hV, rfl⟩
    simp [f15l2e, laysT, filt_t]
    exact ⟨v1, h1, c0, _, _, hV, rfl⟩
theorem fwd_ret {m : Mod} {ts : List (List Int)} (hm : FewM m) (hr : ∀ l ∈ m.lays, layRight l m.dim = true) (hd : 1 ≤ m.dim ∧ m.dim ≤ 8) (hw : Wide m.dim ts) (ht : ts.length ≤ 10000) : RetT cfg 15 [modV m, .t (gl ts)] (.t (gl (tokN m ts m.lays.length))) := by
  obtain ⟨v1, h1, c0, ck, e, ⟨hs, hV⟩, hL⟩ := fw2_loop hm hr hd hw ht 2
  rw [retT_r, runL_pf (fn := f15) rfl rfl]
  have hf4 : List.filter (fun p => !decide (p.1.s = 4)) h1 = h1 := filt_8 hs (by intro p h; simp [h])
  generalize tokN m ts m.lays.length = R at *
  rcases hV with rfl | ⟨c1, o1, fz, rfl, hc1, hg1⟩
  · simp only [laysT, gl, il, iv] at hL
    simp [modV, laysT, gl, il, hL, filt_t, resOf]
    rfl
  · simp only [laysT, gl, il, iv] at hL
    simp [modV, laysT, gl, il, hL, filt_t, resOf, resOf1, treeOf, hg1, List.take_of_length_le]
theorem fwd20_ret : RetT cfg 15 [modV shM, .t (gl shT)] (.t (gl [[200], [100], [7]])) := by
  have h := fwd_ret (ts := shT) shM_few sh_setup.lays sh_setup.dim sh_setup.wide (by decide)
  have e : tokN shM shT shM.lays.length = [[200], [100], [7]] := tok1
  rwa [e] at h
theorem rep_rep_succ (k : Nat) (w : List UInt8) : rep (List.replicate (k + 1) w) = rep (List.replicate k w) ++ (w ++ [10]) := by
  rw [List.replicate_succ', rep_app]
  simp [rep]
theorem rep_rep_len (k : Nat) (w : List UInt8) : (rep (List.replicate k w)).length = k * (w.length + 1) := by
  induction k with
  | zero => simp [rep]
  | succ k ih => rw [rep_rep_succ, List.length_append, ih, Nat.succ_mul]; simp
def e0I (x0 : List UInt8) (i : Nat) (st : St) : Prop := ∃ ck x, x = x0 ++ rep (List.replicate i wDel0) ∧ st = ⟨[(3, .t (.s x)), (23, iv (i : Int))], [], ck⟩
def e0Q (x0 : List UInt8) (n : Nat) (E : Option (Ex × St)) : Prop := ∃ ck e, E = some (.exit 0, ⟨(3, .t (.s (x0 ++ rep (List.replicate n wDel0)))) :: e, [], ck⟩)
theorem e0_loop (x0 : List UInt8) (hx : x0.length ≤ 100000) (ck : Nat) : e0Q x0 450 (evL cfg (.loop f6l0) ⟨[(3, .t (.s x0)), (23, iv 0)], [], ck⟩) := by
  refine loop_q 450 (e0I x0) ?_ ?_ _ ⟨ck, x0, by simp [rep], rfl⟩
  · rintro i st hi ⟨ck, x, hx0, rfl⟩
    have hw : IntKind.i64.wrap ((i : Int) + 1) = (i : Int) + 1 := wrap_id (by omega) (by omega)
    have hlt : (i : Int) < 450 := by omega
    have hl := rep_rep_len i wDel0
    have hxl : x.length ≤ 110000 := by rw [hx0, List.length_append, hl]; simp [wDel0]; omega
    have hb : ¬ i64max < (x.length : Int) + 10 := by unfold i64max; omega
    have fin : x ++ [100, 101, 108, 105, 118, 101, 114, 32, 48, 10] = x0 ++ rep (List.replicate (i + 1) wDel0) := by
      rw [rep_rep_succ, hx0, List.append_assoc]; rfl
    simp [f6l0e, hlt, hw, hb]
    exact ⟨_, _, fin, rfl⟩
  · rintro st ⟨ck, x, rfl, rfl⟩
    generalize hz : x0 ++ rep (List.replicate 450 wDel0) = z
    simp [f6l0e]
    exact ⟨_, _, by rw [hz]⟩
def e1I (x0 : List UInt8) (i : Nat) (st : St) : Prop := ∃ ck x, x = x0 ++ rep (List.replicate i wDel0) ∧ st = ⟨[(3, .t (.s x)), (30, iv (i : Int))], [], ck⟩
def e1Q (x0 : List UInt8) (n : Nat) (E : Option (Ex × St)) : Prop := ∃ ck e, E = some (.exit 2, ⟨(3, .t (.s (x0 ++ rep (List.replicate n wDel0)))) :: e, [], ck⟩)
theorem e1_loop (x0 : List UInt8) (hx : x0.length ≤ 200000) (ck : Nat) : e1Q x0 20 (evL cfg (.loop f6l1) ⟨[(3, .t (.s x0)), (30, iv 0)], [], ck⟩) := by
  refine loop_q 20 (e1I x0) ?_ ?_ _ ⟨ck, x0, by simp [rep], rfl⟩
  · rintro i st hi ⟨ck, x, hx0, rfl⟩
    have hw : IntKind.i64.wrap ((i : Int) + 1) = (i : Int) + 1 := wrap_id (by omega) (by omega)
    have hlt : (i : Int) < 20 := by omega
    have hl := rep_rep_len i wDel0
    have hxl : x.length ≤ 210000 := by rw [hx0, List.length_append, hl]; simp [wDel0]; omega
    have hb : ¬ i64max < (x.length : Int) + 10 := by unfold i64max; omega
    have fin : x ++ [100, 101, 108, 105, 118, 101, 114, 32, 48, 10] = x0 ++ rep (List.replicate (i + 1) wDel0) := by
      rw [rep_rep_succ, hx0, List.append_assoc]; rfl
    simp [f6l1e, hlt, hw, hb]
    exact ⟨_, _, fin, rfl⟩
  · rintro st ⟨ck, x, rfl, rfl⟩
    generalize hz : x0 ++ rep (List.replicate 20 wDel0) = z
    simp [f6l1e]
    exact ⟨_, _, by rw [hz]⟩
def e2I (t : V) (ns : List Int) (i : Nat) (st : St) : Prop := ∃ ck x, x = 10 :: okB ++ nsB (ns.take i) ∧ st = ⟨[(4, t), (8, .t (.s x)), (60, .t (gl (ns.map fun n => [n]))), (61, iv ns.length), (62, iv (i : Int))], [], ck⟩
def e2Q (t : V) (ns : List Int) (E : Option (Ex × St)) : Prop := ∃ ck e, E = some (.exit 4, ⟨(4, t) :: (8, .t (.s (10 :: okB ++ nsB ns))) :: e, [], ck⟩)
theorem e2_loop (t : V) (ns : List Int) (hn : ∀ n ∈ ns, 0 ≤ n ∧ n ≤ 1000000) (hl : ns.length ≤ 100) (ck : Nat) : e2Q t ns (evL cfg (.loop f6l2) ⟨[(4, t), (8, .t (.s [10, 111, 107])), (60, .t (gl (ns.map fun n => [n]))), (61, iv ns.length), (62, iv 0)], [], ck⟩) := by
  refine loop_q ns.length (e2I t ns) ?_ ?_ _ ⟨ck, _, by simp [nsB, okB], rfl⟩
  · rintro i st hi ⟨ck, x, hx0, rfl⟩
    have hw : IntKind.i64.wrap ((i : Int) + 1) = (i : Int) + 1 := wrap_id (by omega) (by omega)
    have hm := hn _ (List.getElem_mem hi)
    have hxl : x.length ≤ 3000 := by
      rw [hx0, List.length_append]
      have := nsB_len (ns.take i) (fun m hm => by have := hn m (List.mem_of_mem_take hm); exact ⟨by omega, by omega⟩)
      rw [List.length_take] at this
      simp [okB]; omega
    have d := fun st kk => callEv_tr (C := cfg) (dig_ret ns[i] hm.1 (by omega)) rfl rfl rfl st kk
    have hlen := Lib.itoa_length_le ns[i] (by omega) (by omega)
    have hmx : ¬ ns[i] < 0 := by omega
    have hT := nsB_take hi
    simp only [iv] at d
    generalize Lib.itoa ns[i] = z at *
    have hb0 : ¬ i64max < 1 + (z.length : Int) := by unfold i64max; omega
    have hb1 : ¬ i64max < (x.length : Int) + ((z.length : Int) + 1) := by unfold i64max; omega
    have fin : x ++ 32 :: z = 10 :: okB ++ nsB (ns.take (i + 1)) := by rw [hT, hx0]; simp
    simp [f6l2e, gl, il, hi, hw, minmax, hmx, d, hb0, hb1, filt_tt]
    exact ⟨_, _, fin, by simp [gl, il]; rfl⟩
  · rintro st ⟨ck, x, h1, rfl⟩
    rw [List.take_length] at h1
    subst h1
    generalize hz : 10 :: okB ++ nsB ns = z at *
    simp [f6l2e, filt_tt]
    exact ⟨_, _, by rw [hz]⟩
theorem shellEnds_ret (s : List UInt8) : RetT cfg 6 [.t (.s s)] (bv true) := by
  have qa := fun st k => callEv_tr (C := cfg) awake20_ret rfl rfl rfl st k
  simp only [bv] at qa
  refine RetT.of ?_
  rw [runL_pf (fn := f6) rfl rfl]
  by_cases h1 : s.length ≤ 1000
  · have h1I : ¬ (1000 : Int) < s.length := by omega
    have h10 : ((10 : UInt8).toNat : Int) = 10 := rfl
    have qs := fun hp => callQ_tr (C := cfg) (rsplit_ret s 10 (by omega)) rfl hp
    have qs' := fun s' k => callEv_tr (C := cfg) (rsplit_ret s 10 (by omega)) rfl rfl rfl s' k
    rw [h10] at qs qs'
    simp only [sl, slc] at qs qs'
    by_cases h2 : (spl 10 s).length ≤ 60
    · have h2I : ¬ (60 : Int) < ((spl 10 s).length : Int) := by omega
      obtain ⟨X, hX⟩ := ends_pure s 450 20 (by omega) (by omega)
      obtain ⟨c0, e0, hE0⟩ := e0_loop (s ++ [10]) (by simp; omega) 4
      have l0 := rep_rep_len 450 wDel0
      have hz0 : (s ++ [10] ++ rep (List.replicate 450 wDel0)).length ≤ 6000 := by rw [List.length_append, l0]; simp [wDel0]; omega
      have e3 : rep [wAsk] = [97, 115, 107, 10] := rfl
      rw [e3] at hX
      generalize s ++ [10] ++ rep (List.replicate 450 wDel0) = Z0 at *
      have b0 : ¬ i64max < (Z0.length : Int) + 4 := by unfold i64max; omega
      obtain ⟨c1, e1, hE1⟩ := e1_loop (Z0 ++ [97, 115, 107, 10]) (by simp; omega) (c0 + 1 + 1)
      have l1 := rep_rep_len 20 wDel0
      have hz1 : (Z0 ++ [97, 115, 107, 10] ++ rep (List.replicate 20 wDel0)).length ≤ 7000 := by rw [List.length_append, l1]; simp [wDel0]; omega
      have bb : ¬ i64max < (s.length : Int) + 1 := by unfold i64max; omega
      generalize Z0 ++ [97, 115, 107, 10] ++ rep (List.replicate 20 wDel0) = Z1 at *
      have b1 : ¬ i64max < (Z1.length : Int) + 4 := by unfold i64max; omega
      have r1 := fun st k => callEv_tr (C := cfg) (srun (Z1 ++ wDone) (by simp [wDone]; omega)) rfl rfl rfl st k
      rw [hX] at r1
      have f1 := fun st k => callEv_tr (C := cfg) fwd20_ret rfl rfl rfl st k
      simp only [iv, sl, slc, wDone] at hE0 hE1 r1
      simp [modV, laysT, shM, layT, exT, gl, il, iv] at f1
      obtain ⟨c2, e2, hE2⟩ := e2_loop (.t (.s (X ++ 10 :: (okEnd ++ [10])))) [200, 100, 7] (by decide) (by decide) (c1 + 1 + 1 + 1 + 1 + 1)
      have hO : okEnd = okB ++ nsB [200, 100, 7] := by unfold okEnd toldP; rw [if_pos rfl]
      have hq := nsB_len [200, 100, 7] (by intro n hn; rcases List.mem_cons.1 hn with rfl | hn; exact ⟨by decide, by decide⟩; rcases List.mem_cons.1 hn with rfl | hn; exact ⟨by decide, by decide⟩; rcases List.mem_singleton.1 hn with rfl; exact ⟨by decide, by decide⟩)
      have hXl := shell_len (Z1 ++ wDone) (by simp [wDone]; omega)
      rw [hX] at hXl
      rw [hO] at hE2 r1 hXl
      generalize nsB [200, 100, 7] = q at *
      have w1 : IntKind.i64.wrap (X.length : Int) = X.length := wrap_id (by simp at hXl; omega) (by simp at hXl; omega)
      have tk : List.take (X.length + (q.length + 1 + 1 + 1 + 1)) (X ++ 10 :: 111 :: 107 :: (q ++ [10])) = X ++ 10 :: 111 :: 107 :: (q ++ [10]) := List.take_of_length_le (by simp)
      simp [gl, il, iv, okB] at hE2 r1 hXl
      have b4 : (q.length : Int) + 1 + 1 + 1 + 1 ≤ (X.length : Int) + ((q.length : Int) + 1 + 1 + 1 + 1) := by omega
      have b5 : (X.length : Int) ≤ (X.length : Int) + ((q.length : Int) + 1 + 1 + 1 + 1) := by omega
      have b3 : ¬ i64max < (q.length : Int) + 1 + 1 + 1 + 1 := by unfold i64max; simp at hq; omega
      simp [h1I, qs, qs', h2I, qa, bb, hE0, b0, hE1, b1, r1, buildV, cells, over, rowsOf, treesC, treesOf, treeOf, keysOfs, freezeAll, keysOf, keysOf1, filt_tt, f1, hE2, b3, w1, b4, b5, tk]
    · have h2I : (60 : Int) < ((spl 10 s).length : Int) := by omega
      simp [h1I, qs, qs', h2I, qa]
  · have h1I : (1000 : Int) < s.length := by omega
    simp [h1I, qa]
section
set_option maxRecDepth 100000
theorem shellEnds_ev (xs : List V) (h : ArgsFit PP 8 [9] xs) : ∃ hp c, runL cfg 6 xs [] 0 = some (bv true, hp, c) := by
  obtain ⟨x1, r, rfl, h1, h⟩ := argsFit_cons h
  cases argsFit_nil h
  obtain ⟨s, rfl⟩ := a_str h1
  exact ret_bv (shellEnds_ret s)
end
end Go.Proofs.YtlfjlpleodlkmaaGreatDoor.Pv
