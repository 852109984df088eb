/- Two ports and a net between them: how it ends. -/
import Derived.Test.YtccnadleegcobaaOnceP
set_option linter.unusedVariables false
set_option linter.unusedSimpArgs false
namespace Go.Proofs.Ytccnadleegcobaa.Pv
open Go Go.Pev

theorem aP_inj {a b : Int} (ha : 0 ≤ a ∧ a ≤ 2147483647) (hb : 0 ≤ b ∧ b ≤ 2147483647) (h : aP a = aP b) : a = b := by
  have h1 : packOk 65 a [] := ⟨.inr ⟨rfl, rfl⟩, ha.1, ha.2⟩
  have h2 : packOk 65 b [] := ⟨.inr ⟨rfl, rfl⟩, hb.1, hb.2⟩
  unfold aP at h
  rw [packR_ok h1, packR_ok h2] at h
  have e1 := unpack_pack h1
  rw [h, unpack_pack h2] at e1
  exact (Prod.mk.inj (Prod.mk.inj e1).2).1.symm
theorem dP_inj {a b : Int} (ha : 0 ≤ a ∧ a ≤ 2147483647) (hb : 0 ≤ b ∧ b ≤ 2147483647) (h : dP a = dP b) : a = b := by
  have h1 : packOk 68 a (txt a) := ⟨.inl rfl, ha.1, ha.2⟩
  have h2 : packOk 68 b (txt b) := ⟨.inl rfl, hb.1, hb.2⟩
  unfold dP at h
  rw [packR_ok h1, packR_ok h2] at h
  have e1 := unpack_pack h1
  rw [h, unpack_pack h2] at e1
  exact (Prod.mk.inj (Prod.mk.inj e1).2).1.symm
def tellAll : Nat → Net → Net
  | 0, w => w
  | k + 1, w => if w.back = [] then w else tellAll k (tellN w 0)
def delAll : Nat → Net → Net
  | 0, w => w
  | k + 1, w => if w.there = [] then w else delAll k (delivN w 0 false)
theorem place0 (l : List (List UInt8)) : placeN l 0 = 0 := Nat.zero_mod _
theorem tellAll_ok : ∀ (k : Nat) (w : Net), NI w → w.back.length ≤ k → NI (tellAll k w) ∧ (tellAll k w).back = [] ∧ (tellAll k w).sent = w.sent ∧ (tellAll k w).there = w.there ∧ ((∀ f ∈ w.a.q, aP f.1 ∈ w.back) → (tellAll k w).a.q = [])
  | 0, w, h, hk => by
    have hb : w.back = [] := List.length_eq_zero_iff.1 (by omega)
    refine ⟨h, hb, rfl, rfl, fun hq => ?_⟩
    show w.a.q = []
    cases hqq : w.a.q with
    | nil => rfl
    | cons f r =>
      have := hq f (by rw [hqq]; exact List.mem_cons_self)
      rw [hb] at this; cases this
  | k + 1, w, h, hk => by
    unfold tellAll
    by_cases hb : w.back = []
    · rw [if_pos hb]
      refine ⟨h, hb, rfl, rfl, fun hq => ?_⟩
      cases hqq : w.a.q with
      | nil => rfl
      | cons f r =>
        have := hq f (by rw [hqq]; exact List.mem_cons_self)
        rw [hb] at this; cases this
    · rw [if_neg hb]
      obtain ⟨h1, h2, h3, h4, h5, h6⟩ := ni_tell h 0
      obtain ⟨n, e1, ⟨n0, n1⟩, e2, e3⟩ := h6 hb
      rw [place0] at e1 e3
      obtain ⟨s, b, e⟩ := List.exists_cons_of_ne_nil hb
      have hlen : (tellN w 0).back.length ≤ k := by
        rw [e3, e]
        rw [e, List.length_cons] at hk
        simpa using hk
      obtain ⟨q1, q2, q3, q4, q5⟩ := tellAll_ok k (tellN w 0) h1 hlen
      refine ⟨q1, q2, by rw [q3, h3], by rw [q4, h5], fun hq => q5 fun f hf => ?_⟩
      rw [e2] at hf
      obtain ⟨hf1, hf2⟩ := List.mem_filter.1 hf
      have hm := h.many
      obtain ⟨-, f0, f1, -⟩ := h.q f hf1
      have := hq f hf1
      rw [e] at this e1
      rw [e3, e]
      simp only [List.getD_cons_zero] at e1
      rcases List.mem_cons.1 this with q | q
      · rw [e1] at q
        have := aP_inj ⟨f0, by omega⟩ ⟨n0, by omega⟩ q
        simp [keepF, this] at hf2
      · exact q
theorem delAll_ok : ∀ (k : Nat) (w : Net), NI w → w.there.length ≤ k → w.back.length + w.there.length ≤ 300 → (∀ f ∈ w.a.q, dP f.1 ∈ w.there ∨ (Came w f.1 ∧ aP f.1 ∈ w.back)) → NI (delAll k w) ∧ (delAll k w).there = [] ∧ (delAll k w).a = w.a ∧ (delAll k w).sent = w.sent ∧ ∀ f ∈ w.a.q, Came (delAll k w) f.1 ∧ aP f.1 ∈ (delAll k w).back
  | 0, w, h, hk, hl, hq => by
    have hb : w.there = [] := List.length_eq_zero_iff.1 (by omega)
    refine ⟨h, hb, rfl, rfl, fun f hf => ?_⟩
    rcases hq f hf with q | q
    · rw [hb] at q; cases q
    · exact q
  | k + 1, w, h, hk, hl, hq => by
    unfold delAll
    by_cases hb : w.there = []
    · rw [if_pos hb]
      refine ⟨h, hb, rfl, rfl, fun f hf => ?_⟩
      rcases hq f hf with q | q
      · rw [hb] at q; cases q
      · exact q
    · rw [if_neg hb]
      obtain ⟨h1, h2, h3, h4, h5⟩ := ni_deliv h 0 false
      obtain ⟨n, n0, n1, e1, e2, e3⟩ := h5 hb
      rw [place0] at e1
      obtain ⟨s, b, e⟩ := List.exists_cons_of_ne_nil hb
      have hth : (delivN w 0 false).there = b := by
        unfold delivN
        rw [if_neg hb]
        simp only [Bool.false_eq_true, if_false, place0]
        rw [e]; rfl
      rw [e, List.length_cons] at hl hk
      rw [if_pos (by omega)] at e3
      have hm := h.many
      obtain ⟨q1, q2, q3, q4, q5⟩ := delAll_ok k (delivN w 0 false) h1 (by rw [hth]; omega) (by rw [hth, e3, List.length_append, List.length_cons, List.length_nil]; omega) (fun f hf => by
        rw [h2] at hf
        rw [hth, e3]
        obtain ⟨-, f0, f1, -⟩ := h.q f hf
        rcases hq f hf with q | ⟨q, q'⟩
        · rw [e] at q e1
          simp only [List.getD_cons_zero] at e1
          rcases List.mem_cons.1 q with q | q
          · rw [e1] at q
            have := dP_inj ⟨f0, by omega⟩ ⟨n0, by omega⟩ q
            rw [this]
            exact .inr ⟨e2, by simp⟩
          · exact .inl q
        · exact .inr ⟨h4 _ q, List.mem_append_left _ q'⟩)
      exact ⟨q1, q2, by rw [q3, h2], by rw [q4, h3], fun f hf => q5 f (by rw [h2]; exact hf)⟩
/-- All sent again, come through, and told of. -/
theorem once_ends {w : Net} (h : NI w) : ∃ v, v = tellAll 800 (delAll 400 { tellAll 800 w with there := againP (tellAll 800 w).a }) ∧ NI v ∧ v.a.q = [] ∧ v.there = [] ∧ ∀ n : Nat, n < v.sent → v.got.getD n 0 = 1 := by
  have hbl := h.blen
  obtain ⟨a1, a2, a3, a4, -⟩ := tellAll_ok 800 w h (by omega)
  generalize tellAll 800 w = x at *
  have hq := q_len a1
  have hag := again_mem a1
  have a5 : NI { x with there := againP x.a } := by
    refine ni_same a1 rfl rfl rfl rfl (fun s hs => ?_) (fun s hs => hs) ?_ a1.blen
    · simp only at hs
      rw [hag] at hs
      obtain ⟨f, hf, rfl⟩ := List.mem_map.1 hs
      exact .inr ⟨f.1, (a1.q f hf).2.1, (a1.q f hf).2.2.1, rfl⟩
    · simp only; rw [hag, List.length_map]; omega
  have hlen : (againP x.a).length ≤ 32 := by rw [hag, List.length_map]; exact hq
  obtain ⟨b1, b2, b3, b4, b5⟩ := delAll_ok 400 { x with there := againP x.a } a5 (by simp only; omega) (by simp only; rw [a2]; simp; omega) (fun f hf => by
    left
    simp only
    rw [hag]
    exact List.mem_map.2 ⟨f, hf, rfl⟩)
  generalize delAll 400 { x with there := againP x.a } = y at *
  have hyl := b1.blen
  obtain ⟨c1, c2, c3, c4, c5⟩ := tellAll_ok 800 y b1 (by omega)
  have hqn := c5 (fun f hf => (b5 f (by rw [← b3]; exact hf)).2)
  refine ⟨_, rfl, c1, hqn, by rw [c4]; exact b2, fun n hn => ?_⟩
  have hm := c1.many
  rw [c1.got n (by omega), if_pos]
  exact c1.pend n (by omega) (by omega) (by rw [hqn]; simp)
end Go.Proofs.Ytccnadleegcobaa.Pv
