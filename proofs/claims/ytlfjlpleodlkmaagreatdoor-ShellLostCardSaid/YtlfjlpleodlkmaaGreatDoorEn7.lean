/- What this law leans on, of the framework and of the functions (by claimset.py). -/
import Derived.Test.YtlfjlpleodlkmaaGreatDoorEn6
import Derived.Test.YtlfjlpleodlkmaaGreatDoorEn3
set_option linter.unusedVariables false
set_option linter.unusedSimpArgs false
namespace Go.Proofs.YtlfjlpleodlkmaaGreatDoor.Pv
open Go Go.Pev
section
variable {m : Mod} {ts : List (List Int)} {n0 : Nat}
def wtS (s : List UInt8) : Nat := if (takeP s).1.kind = 1 then 2 else 1
def wtB (b : List (List UInt8)) : Nat := (b.map wtS).sum
def mu (m : Mod) (F : Flt) : Nat := wtB F.bag + 64 * (m.lays.length - F.at_)
theorem wtS_in (s : List UInt8) : 1 ≤ wtS s ∧ wtS s ≤ 2 := by unfold wtS; split <;> omega
theorem wtB_cons (s : List UInt8) (b : List (List UInt8)) : wtB (s :: b) = wtS s + wtB b := by simp [wtB]
theorem wtB_app (a b : List (List UInt8)) : wtB (a ++ b) = wtB a + wtB b := by simp [wtB]
theorem wtB_le : ∀ b : List (List UInt8), wtB b ≤ 2 * b.length
  | [] => by simp [wtB]
  | s :: b => by
    have := wtB_le b
    have := wtS_in s
    rw [wtB_cons, List.length_cons]; omega
theorem wt_send {b : List (List UInt8)} {a : Msg} (k : a.kind ≠ 1) : wtB (sendB b a) ≤ wtB b + 1 := by
  rcases sendB_is (b := b) (a := a) with e | ⟨e1, -, e⟩
  · rw [e]; omega
  · rw [e, wtB_app]
    have : wtB [putB a] = 1 := by
      rw [wtB_cons]
      unfold wtS
      rw [take_put e1, if_neg k]
      rfl
    omega
theorem wt_send2 {b : List (List UInt8)} {a : Msg} : wtB (sendB b a) ≤ wtB b + 2 := by
  rcases sendB_is (b := b) (a := a) with e | ⟨e1, -, e⟩
  · rw [e]; omega
  · rw [e, wtB_app]
    have := wtB_le [putB a]
    simp at this
    omega
theorem wt_askL (F : Flt) : ∀ (l : List (Pt × Bool)) (b : List (List UInt8)), wtB (askL F l b) ≤ wtB b + 2 * l.length
  | [], b => by simp [askL]
  | x :: r, b => by
    unfold askL
    rw [List.length_cons]
    split
    · have := wt_askL F r b; omega
    · have := wt_askL F r (sendB b (askM F x.1))
      have := wt_send2 (b := b) (a := askM F x.1)
      omega
theorem mu_step {F : Flt} (hS : Setup m ts n0) (h : Inv0 m ts n0 F) (hc : F.at_ < m.lays.length) (hf : ¬ false ∈ F.answd) : mu m (stepP F) ≤ mu m F := by
  obtain ⟨i1, -, i3⟩ := inv_step hS h hc hf
  unfold mu
  rw [i3]
  have hb : wtB (stepP F).bag ≤ wtB F.bag + 64 := by
    unfold stepP beginP
    split
    · rename_i c
      have e : (newP (onP F)).toks = tokN m ts (F.at_ + 1) := by
        have h1 := i1.toks
        rw [i3] at h1
        rw [← h1]
        unfold stepP beginP
        rw [if_pos c]
        exact (askP_m _).2.2.2.2.1.symm
      have c2 : F.at_ + 1 < m.lays.length := by simp only [onP, h.mo] at c; exact c
      have ep : (newP (onP F)).parts.length ≤ 32 := by
        have h2 : (newP (onP F)).parts = partsP (layAt m (F.at_ + 1 : Nat)) (newP (onP F)).toks := by simp only [newP, onP, h.mo]
        rw [h2, e]
        exact (hS.few c2).2
      unfold askP
      split
      · have := wt_askL (newP (onP F)) ((newP (onP F)).parts.zip (newP (onP F)).answd) (newP (onP F)).bag
        have hz : ((newP (onP F)).parts.zip (newP (onP F)).answd).length ≤ 32 := by rw [List.length_zip]; omega
        have eb : (newP (onP F)).bag = F.bag := rfl
        rw [eb] at this
        simp only
        rw [eb]
        omega
      · have eb : (newP (onP F)).bag = F.bag := rfl
        rw [eb]; omega
    · have eb : (onP F).bag = F.bag := rfl
      rw [eb]; omega
  omega
theorem mu_come (hS : Setup m ts n0) : ∀ (k : Nat) {F : Flt}, Inv0 m ts n0 F → mu m (comeN k F) ≤ mu m F
  | 0, F, h => Nat.le_refl _
  | k + 1, F, h => by
    unfold comeN
    by_cases c : F.at_ < F.m.lays.length ∧ ¬ false ∈ F.answd
    · rw [if_pos c]
      obtain ⟨c1, c2⟩ := c
      rw [h.mo] at c1
      have := mu_step hS h c1 c2
      have := mu_come hS k (inv_step hS h c1 c2).1
      omega
    · rw [if_neg c]; exact Nat.le_refl _
theorem node_kind (F : Flt) (a : Msg) (h : (nodeP F a).2.2 = true) : (nodeP F a).2.1.kind ≠ 1 := by
  unfold nodeP workP at h ⊢
  split
  · rename_i c; rw [if_pos c] at h; cases h
  · split
    · simp [staleOf]
    · simp [answerOf]
theorem mu_delv {F : Flt} (hS : Setup m ts n0) (h : Inv0 m ts n0 F) (hs : Settled m F) {s : List UInt8} {b : List (List UInt8)} (hb : F.bag = s :: b) : mu m (delvP F 0).1 < mu m F := by
  rw [delv_cons hb]
  have hfull := h.full
  rw [hb] at hfull
  simp only [List.length_cons] at hfull
  have h' : Inv0 m ts n0 { F with bag := b } := h.bagged (fun x hx => h.bag x (by rw [hb]; exact List.mem_cons_of_mem _ hx)) (by omega)
  obtain ⟨a, n, p, rfl, hw, hn, hp, hk⟩ := h.bag s (by rw [hb]; exact List.mem_cons_self)
  have hmu : mu m F = wtS (putB a) + wtB b + 64 * (m.lays.length - F.at_) := by unfold mu; rw [hb, wtB_cons]
  have hw1 := wtS_in (putB a)
  simp only [gotP, take_put hw, ne_eq, not_true_eq_false, if_false]
  by_cases h0 : a.to = 0
  · rw [if_pos h0]
    have hle : mu m (answerP { F with bag := b } a) ≤ wtB b + 64 * (m.lays.length - F.at_) := by
      by_cases hA : goodA { F with bag := b } a ∧ 0 ≤ fidx (hitP a) F.parts ∧ F.answd.getD (fidx (hitP a) F.parts).toNat true = false
      · have eA : answerP { F with bag := b } a = comeP (setP { F with bag := b } (fidx (hitP a) F.parts).toNat a.vec) := by
          unfold answerP; rw [if_pos hA]
        obtain ⟨i1, i2, i3⟩ := inv_answer hS h' hs hn hp hk
        rw [eA]
        -- the state that comes on
        have hI : Inv0 m ts n0 (setP { F with bag := b } (fidx (hitP a) F.parts).toNat a.vec) := inv_set hS h' hn hp hk hA
        exact mu_come hS _ hI
      · have eA : answerP { F with bag := b } a = { F with bag := b } := by
          unfold answerP; rw [if_neg hA]
        rw [eA]
        exact Nat.le_refl _
    omega
  · rw [if_neg h0]
    have hk1 : a.kind = 1 ∧ a.to ≤ 4 := by
      rcases hk.2.2.2.2.2 with ⟨k, f, t, -⟩ | ⟨-, k, -⟩ | ⟨-, k⟩
      · exact ⟨k, t.2⟩
      · exact absurd k h0
      · exact absurd k h0
    rw [if_pos hk1.2]
    have hw2 : wtS (putB a) = 2 := by unfold wtS; rw [take_put hw, if_pos hk1.1]
    have ebag : (workF { F with bag := b } a).bag = if (nodeP { F with bag := b } a).2.2 then sendB b (nodeP { F with bag := b } a).2.1 else b := rfl
    have hle : wtB (workF { F with bag := b } a).bag ≤ wtB b + 1 := by
      rw [ebag]
      split
      · rename_i c; exact wt_send (node_kind _ _ c)
      · omega
    have : mu m (workF { F with bag := b } a) = wtB (workF { F with bag := b } a).bag + 64 * (m.lays.length - F.at_) := rfl
    omega
def drn : Nat → Flt → Flt
  | 0, F => F
  | k + 1, F => if F.bag = [] then F else drn k (delvP F 0).1
theorem pend_none {F : Flt} (h : Inv m ts n0 F) (hc : F.at_ < m.lays.length) (hP : Pend m ts F) (hb : F.bag = []) : False := by
  have hf := h.2 hc
  obtain ⟨i, hi, e⟩ := List.mem_iff_getElem.1 hf
  have hl := (h.1.lens hc).2
  rw [h.1.parts hc] at hl
  obtain ⟨s, hs, -⟩ := hP i (by omega) (by rw [List.getD_eq_getElem?_getD, List.getElem?_eq_getElem hi, e]; rfl)
  rw [hb] at hs
  cases hs
theorem drn_pend (hS : Setup m ts n0) (a0 : Nat) (ha : a0 < m.lays.length) : ∀ (k : Nat) (F : Flt), Inv m ts n0 F → (a0 < F.at_ ∨ (F.at_ = a0 ∧ Pend m ts F)) → (drn k F).bag = [] → a0 < (drn k F).at_
  | 0, F, h, hp, hb => by
    rcases hp with hp | ⟨e, hp⟩
    · exact hp
    · exact (pend_none h (by omega) hp hb).elim
  | k + 1, F, h, hp, hb => by
    unfold drn at hb ⊢
    by_cases hb0 : F.bag = []
    · rw [if_pos hb0] at hb ⊢
      rcases hp with hp | ⟨e, hp⟩
      · exact hp
      · exact (pend_none h (by omega) hp hb).elim
    · rw [if_neg hb0] at hb ⊢
      obtain ⟨s, b, e⟩ := List.exists_cons_of_ne_nil hb0
      have h1 := inv_delv hS h.1 h.2 0
      refine drn_pend hS a0 ha k (delvP F 0).1 ⟨h1.1, h1.2.1⟩ ?_ hb
      rcases hp with hp | ⟨e2, hp⟩
      · left; omega
      · rcases pend_step hS h.1 h.2 (by omega) hp e with q | ⟨q1, q2⟩
        · left; omega
        · right; exact ⟨by omega, q2⟩
theorem askL_in {F : Flt} : ∀ (l : List (Pt × Bool)) (b : List (List UInt8)), b.length + l.length ≤ 200 → (∀ x ∈ l, wrightM (askM F x.1) = true) → (∀ s ∈ b, s ∈ askL F l b) ∧ ∀ x ∈ l, x.2 = false → putB (askM F x.1) ∈ askL F l b
  | [], b, _, _ => ⟨fun s h => h, fun x h => by cases h⟩
  | y :: r, b, hl, hw => by
    unfold askL
    rw [List.length_cons] at hl
    have hwr : ∀ x ∈ r, wrightM (askM F x.1) = true := fun x hx => hw x (List.mem_cons_of_mem _ hx)
    by_cases hy : y.2 = true
    · rw [if_pos hy]
      obtain ⟨a1, a2⟩ := askL_in r b (by omega) hwr
      refine ⟨a1, fun x hx hf => ?_⟩
      rcases List.mem_cons.1 hx with rfl | hx
      · rw [hy] at hf; cases hf
      · exact a2 x hx hf
    · rw [if_neg hy]
      have hsl : (sendB b (askM F y.1)).length ≤ b.length + 1 := by
        rcases sendB_is (b := b) (a := askM F y.1) with e | ⟨-, -, e⟩
        · rw [e]; omega
        · rw [e]; simp
      obtain ⟨a1, a2⟩ := askL_in r (sendB b (askM F y.1)) (by omega) hwr
      refine ⟨fun s hs => a1 s (mem_sendB hs), fun x hx hf => ?_⟩
      rcases List.mem_cons.1 hx with rfl | hx
      · exact a1 _ (new_sendB (hw _ List.mem_cons_self) (by omega))
      · exact a2 x hx hf
theorem ask_pend {F : Flt} (hS : Setup m ts n0) (h : Inv0 m ts n0 F) (hb : F.bag = []) (hc : F.at_ < m.lays.length) : Pend m ts (askP F) := by
  obtain ⟨e1, e2, e3, e4, e5, e6, e7, e8, e9⟩ := askP_m F
  have hp := h.parts hc
  have hl := (h.lens hc).2
  have hfew := hS.few hc
  have ebag : (askP F).bag = askL F (F.parts.zip F.answd) F.bag := by
    unfold askP; rw [if_pos (by rw [h.mo]; exact hc)]
  have hz : (F.parts.zip F.answd).length = (ptsN m ts F.at_).length := by rw [List.length_zip, hl, hp, Nat.min_self]
  obtain ⟨a1, a2⟩ := askL_in (F := F) (F.parts.zip F.answd) F.bag (by rw [hb, hz]; simp; omega) (fun x hx => by
    have := (List.of_mem_zip (a := x.1) (b := x.2) hx).1
    rw [hp] at this
    exact (ask_kin hS h hc this).1)
  intro i hi hd
  rw [e2] at hi
  rw [e9] at hd
  have hia : i < F.answd.length := by rw [hl, hp]; exact hi
  have hif : F.answd[i] = false := by
    rw [List.getD_eq_getElem?_getD, List.getElem?_eq_getElem hia] at hd; exact hd
  have hm : ((ptsN m ts F.at_)[i], false) ∈ F.parts.zip F.answd := by
    rw [← hif]
    have hzi : i < (F.parts.zip F.answd).length := by omega
    have : (F.parts.zip F.answd)[i] = ((ptsN m ts F.at_)[i], F.answd[i]) := by
      rw [List.getElem_zip]
      simp only [hp]
    rw [← this]
    exact List.getElem_mem hzi
  have hin := a2 _ hm rfl
  obtain ⟨k1, k2, k3, k4, k5⟩ := ask_kin hS h hc (List.getElem_mem hi)
  refine ⟨_, by rw [ebag]; exact hin, askM F (ptsN m ts F.at_)[i], rfl, k1, ?_, .inr ⟨k4, by rw [e3]; exact k5, ?_⟩⟩
  · have : (askP F).at_ = F.at_ := e2
    simp only [this]; exact k2
  · have : (askP F).at_ = F.at_ := e2
    rw [e4]; simp only [this]; exact k3
def allKeys (L T : Nat) : List LKey := (List.range L).flatMap fun (n : Nat) => (List.range T).flatMap fun (t : Nat) => [⟨1, (n : Int), (t : Int), 0⟩, ⟨1, (n : Int), (t : Int), 1⟩]
theorem allKeys_len (L T : Nat) : (allKeys L T).length = 2 * T * L := by
  simp [allKeys, List.length_flatMap, List.map_const', Nat.mul_comm, Nat.mul_left_comm]
theorem led_len (hS : Setup m ts n0) {l : List Ent} (h1 : ∀ e ∈ l, GoodE m ts e) (h2 : (l.map (·.key)).Nodup) : l.length ≤ 2 * ts.length * m.lays.length := by
  have hsub : l.map (·.key) ⊆ allKeys m.lays.length ts.length := by
    intro k hk
    obtain ⟨e, he, rfl⟩ := List.mem_map.1 hk
    obtain ⟨n, p, hn, hp, ek, -⟩ := h1 e he
    obtain ⟨⟨p1, p2⟩, ⟨p3, p4⟩, -⟩ := hS.pts hn hp
    rw [ek]
    unfold allKeys
    refine List.mem_flatMap.2 ⟨n, List.mem_range.2 hn, List.mem_flatMap.2 ⟨p.token.toNat, List.mem_range.2 (by omega), ?_⟩⟩
    have ht : ((p.token.toNat : Nat) : Int) = p.token := by omega
    rw [ht]
    have : p.rank = 0 ∨ p.rank = 1 := by omega
    rcases this with e | e <;> rw [e] <;> simp
  have := List.Nodup.length_le_of_subset h2 hsub
  rw [List.length_map, allKeys_len] at this
  exact this
theorem worked_le {F : Flt} (hS : Setup m ts n0) (h : Inv0 m ts n0 F) : workedP F ≤ 8 * ts.length * m.lays.length := by
  obtain ⟨h5, h0⟩ := h.led0
  have hall := h.led
  unfold workedP
  match hl : F.led, h5 with
  | [a, b, c, d, e], _ =>
    rw [hl] at h0 hall
    have hx : ∀ l ∈ [a, b, c, d, e], l.length ≤ 2 * ts.length * m.lays.length := fun l hl => led_len hS (hall l hl).1 (hall l hl).2
    have ha : a = [] := h0
    have hb := hx b (by simp)
    have hc := hx c (by simp)
    have hd := hx d (by simp)
    have he := hx e (by simp)
    subst ha
    have e8 : 8 * ts.length * m.lays.length = 4 * (2 * ts.length * m.lays.length) := by
      rw [Nat.mul_assoc, Nat.mul_assoc, ← Nat.mul_assoc 4]
    rw [e8]
    simp only [List.map_cons, List.map_nil, List.sum_cons, List.sum_nil, List.length_nil]
    omega
end
def awS : List UInt8 := [98, 97, 103, 10, 100, 111, 110, 101, 10, 100, 114, 111, 112, 32, 57, 10, 119, 104, 97, 116, 10, 114, 101, 116, 105, 114, 101, 32, 48, 32, 49, 10, 114, 101, 116, 105, 114, 101, 32, 48, 32, 50]
def awW : List UInt8 := [111, 107, 32, 52, 32, 48, 10, 111, 107, 10, 101, 114, 114, 111, 114, 32, 52, 10, 101, 114, 114, 111, 114, 32, 50, 10, 111, 107, 10, 101, 114, 114, 111, 114, 32, 55, 10]
theorem aw_lines : spl 10 (Lib.trimSuffix awS [10]) = [wBag, wDone, [100, 114, 111, 112, 32, 57], [119, 104, 97, 116], [114, 101, 116, 105, 114, 101, 32, 48, 32, 49], [114, 101, 116, 105, 114, 101, 32, 48, 32, 50]] := by decide +kernel
theorem line_bag (F : Flt) : lineP F wBag = (F, toldP 0 [(F.bag.length : Int), (workedP F : Int)]) := rfl
theorem line_done (F : Flt) : lineP F wDone = (F, toldP 0 (doneP F).1.flatten) := rfl
theorem line_drop9 (F : Flt) : lineP F [100, 114, 111, 112, 32, 57] = ((dropP F 9).1, toldP (dropP F 9).2 []) := rfl
theorem line_what (F : Flt) : lineP F [119, 104, 97, 116] = (F, toldP 2 []) := rfl
theorem line_ret1 (F : Flt) : lineP F [114, 101, 116, 105, 114, 101, 32, 48, 32, 49] = ((retP F 0 1).1, toldP (retP F 0 1).2 []) := rfl
theorem line_ret2 (F : Flt) : lineP F [114, 101, 116, 105, 114, 101, 32, 48, 32, 50] = ((retP F 0 2).1, toldP (retP F 0 2).2 []) := rfl
theorem dig1 (d : Nat) (h : d < 10) : Lib.itoa (d : Int) = [UInt8.ofNat (48 + d)] := by rw [itoa_pos (by omega), Int.toNat_natCast, Lib.decDigits_one h]
theorem told_e (d : Nat) (h : d < 10) (h0 : 0 < d) : toldP (d : Int) [] = errB ++ [UInt8.ofNat (48 + d)] := by
  unfold toldP
  rw [if_neg (by omega), dig1 d h]
theorem aw_told0 : toldP 0 [((4 : Nat) : Int), ((0 : Nat) : Int)] = [111, 107, 32, 52, 32, 48] := by
  unfold toldP nsB
  rw [if_pos rfl]
  simp only [List.flatMap_cons, List.flatMap_nil, dig1 4 (by decide), dig1 0 (by decide)]
  rfl
theorem aw_f1 : shF.bag.length = 4 ∧ workedP shF = 0 ∧ (doneP shF).1 = [] ∧ (dropP shF 9).2 = 4 ∧ (retP (dropP shF 9).1 0 1).2 = 0 ∧ (retP (retP (dropP shF 9).1 0 1).1 0 2).2 = 7 := by decide +kernel
theorem aw_tell : shellP awS = awW := by
  obtain ⟨a1, a2, a3, a4, a5, a6⟩ := aw_f1
  unfold shellP
  rw [if_neg (by decide), aw_lines]
  simp only [scrP, line_bag, line_done, line_drop9, line_what, line_ret1, line_ret2, a1, a2, a3, a4, a5, a6, aw_told0]
  have t4 : toldP 4 [] = errB ++ [52] := told_e 4 (by decide) (by decide)
  have t2 : toldP 2 [] = errB ++ [50] := told_e 2 (by decide) (by decide)
  have t7 : toldP 7 [] = errB ++ [55] := told_e 7 (by decide) (by decide)
  have t0 : toldP 0 [] = okB := by unfold toldP nsB; rw [if_pos rfl]; rfl
  simp only [List.flatten_nil, t4, t2, t7, t0]
  rfl
theorem gd_cnt (F : Flt) (h : Gd F) : F.bag.length ≤ 1000000 ∧ workedP F ≤ 1000000 := by
  have h1 := worked_le sh_setup h.1
  have h2 : 8 * shT.length * shM.lays.length = 24 := rfl
  have h3 := h.1.full
  exact ⟨by omega, by omega⟩
theorem srun (s : List UInt8) (hs : s.length ≤ 9000) : RetT cfg 14 [.t (.s s)] (.t (.s (shellP s))) := srun_ret gd_held gd_cnt gd_start s hs
theorem awake20_ret : RetT cfg 10 [] (bv true) := by
  have q := fun s k => callEv_tr (C := cfg) (srun awS (by decide)) rfl rfl rfl s k
  rw [aw_tell] at q
  refine RetT.of ?_
  rw [runL_pf (fn := f10) rfl rfl]
  simp only [awS, awW] at q
  simp [q]
theorem scr_len : ∀ (ls : List (List UInt8)) {F : Flt}, Gd F → (scrP F ls).2.length ≤ 3001 * ls.length
  | [], F, h => by simp [scrP]
  | s :: r, F, h => by
    have h1 := line_len gd_held gd_cnt F s h
    have h2 := scr_len r (gd_step F s h)
    simp only [scrP, List.length_append, List.length_cons]
    omega
theorem shell_len (s : List UInt8) (hs : s.length ≤ 9000) : (shellP s).length ≤ 30000000 := by
  unfold shellP
  split
  · simp
  · have h1 := scr_len (spl 10 (Lib.trimSuffix s [10])) gd_start
    have h2 := spl_le (c := 10) (s := Lib.trimSuffix s [10])
    have h3 := trim_le s [10]
    omega
section
set_option maxRecDepth 100000
noncomputable abbrev PP : Program := Go.Proofs.Tryz.prog
theorem u_u8 : PP.underlying 5 = some (.int .u8) := by kernel_rfl
theorem a_u8 {k : Nat} {x : V} (h : ArgFit PP (k + 1) 5 x) : ∃ m : Nat, x = .t (.i .u8 m) ∧ m ≤ 255 := by
  obtain ⟨m, rfl, hw⟩ := argFit_int u_u8 h
  simp only [Lit.wf, Bool.and_eq_true, decide_eq_true_eq] at hw
  have h1 : IntKind.u8.min = 0 := by decide
  have h2 : IntKind.u8.max = 255 := by decide
  exact ⟨m.toNat, by rw [Int.toNat_of_nonneg (by omega)], by omega⟩
theorem ret_bv {f : Nat} {xs : List V} (h : RetT cfg f xs (bv true)) : ∃ hp c, runL cfg f xs [] 0 = some (bv true, hp, c) := by
  obtain ⟨r, hh, c, h1, h2⟩ := h
  refine ⟨hh, c, ?_⟩
  rw [h1]
  cases r <;> simp only [resOf, resOf1] at h2
  all_goals first | (cases h2; rfl) | (revert h2; split <;> intro h2 <;> cases h2) | (revert h2; intro h2; cases h2) | skip
  all_goals (obtain ⟨y, e1, e2⟩ := Option.map_eq_some_iff.1 h2; cases e2; simp only [treeOf] at e1; (repeat' split at e1) <;> cases e1)
end
def rep (rs : List (List UInt8)) : List UInt8 := rs.flatMap fun r => r ++ [10]
structure GoodL (r : List UInt8) : Prop where
  hd : okB <+: r ∨ errB <+: r
  no : ∀ b ∈ r, b ≠ 10
theorem rep_cons (r : List UInt8) (rs : List (List UInt8)) : rep (r :: rs) = r ++ 10 :: rep rs := by simp [rep]
def wDel0 : List UInt8 := [100, 101, 108, 105, 118, 101, 114, 32, 48]
def wDrop0 : List UInt8 := [100, 114, 111, 112, 32, 48]
theorem scr_del : ∀ (k : Nat) (F : Flt), (scrP F (List.replicate k wDel0)).1 = drn k F
  | 0, F => rfl
  | k + 1, F => by
    rw [List.replicate_succ]
    show (scrP (delvP F 0).1 (List.replicate k wDel0)).1 = _
    rw [scr_del k]
    have e : drn (k + 1) F = if F.bag = [] then F else drn k (delvP F 0).1 := rfl
    rw [e]
    by_cases hb : F.bag = []
    · rw [if_pos hb, delv_nil hb]
      cases k with
      | zero => rfl
      | succ k => simp only [drn, if_pos hb]
    · rw [if_neg hb]
theorem shM_lays : shM.lays.length = 1 := rfl
theorem pts4 : (ptsN shM shT 0).length = 4 := by decide +kernel
theorem tok1 : tokN shM shT 1 = [[200], [100], [7]] := by decide +kernel
theorem come_bag1 {F : Flt} (hm : F.m.lays.length = 1) : (comeP F).bag = F.bag := by
  unfold comeP
  rw [hm]
  rcases Nat.eq_zero_or_pos F.at_ with h0 | h0
  · rw [h0]
    show (if F.at_ < F.m.lays.length ∧ ¬ false ∈ F.answd then comeN 0 (stepP F) else F).bag = F.bag
    split
    · show (stepP F).bag = F.bag
      unfold stepP beginP
      rw [if_neg]
      · rfl
      · show ¬ F.at_ + 1 < F.m.lays.length
        omega
    · rfl
  · rw [show 1 - F.at_ = 0 by omega]
    rfl
theorem ans_bag1 {F : Flt} (hm : F.m.lays.length = 1) (a : Msg) : (answerP F a).bag = F.bag := by
  unfold answerP
  split
  · rw [come_bag1 (by exact hm)]; rfl
  · rfl
theorem wt_delv {F : Flt} (h : Gd F) {s : List UInt8} {b : List (List UInt8)} (hb : F.bag = s :: b) : wtB (delvP F 0).1.bag < wtB F.bag := by
  have hmu := mu_delv sh_setup h.1 h.2 hb
  have hc := delv_cons hb
  have hw := wtS_in s
  have hmo : F.m.lays.length = 1 := by rw [h.1.mo]; rfl
  have key : (delvP F 0).1.bag = b ∨ (delvP F 0).1.at_ = F.at_ := by
    rw [hc]
    simp only
    unfold gotP
    split
    · exact .inl rfl
    · split
      · exact .inl (ans_bag1 (F := { F with bag := b }) hmo _)
      · split
        · exact .inr rfl
        · exact .inl rfl
  rcases key with k | k
  · rw [k, hb, wtB_cons]; omega
  · unfold mu at hmu
    rw [k] at hmu
    omega
theorem drn_wt : ∀ (k : Nat) (F : Flt), Gd F → wtB F.bag ≤ k → Gd (drn k F) ∧ F.at_ ≤ (drn k F).at_ ∧ (drn k F).bag = []
  | 0, F, h, hk => ⟨h, Nat.le_refl _, by
    show F.bag = []
    cases hb : F.bag with
    | nil => rfl
    | cons s b =>
      have := wtS_in s
      rw [hb, wtB_cons] at hk
      omega⟩
  | k + 1, F, h, hk => by
    unfold drn
    by_cases hb : F.bag = []
    · rw [if_pos hb]; exact ⟨h, Nat.le_refl _, hb⟩
    · rw [if_neg hb]
      obtain ⟨s, b, e⟩ := List.exists_cons_of_ne_nil hb
      have h1 := inv_delv sh_setup h.1 h.2 0
      have h2 := wt_delv h e
      obtain ⟨q1, q2, q3⟩ := drn_wt k (delvP F 0).1 ⟨h1.1, h1.2.1⟩ (by omega)
      exact ⟨q1, by omega, q3⟩
theorem gd_at {F : Flt} (h : Gd F) : F.at_ ≤ 1 := by have := h.1.at_; simpa [shM_lays] using this
theorem round1 {F : Flt} (h : Gd F) (hb : F.bag = []) {k : Nat} (hk : 8 ≤ k) : Gd (drn k (askP F)) ∧ (drn k (askP F)).bag = [] ∧ (drn k (askP F)).at_ = 1 := by
  have hG : Gd (askP F) := ⟨inv_ask sh_setup h.1, settled_ask h.2⟩
  have hat := gd_at h
  have hm := askP_m F
  by_cases c : F.at_ < shM.lays.length
  · have hp := ask_pend sh_setup h.1 hb c
    have h0 : F.at_ = 0 := by rw [shM_lays] at c; omega
    have hw : wtB (askP F).bag ≤ 8 := by
      unfold askP
      rw [if_pos (by rw [h.1.mo]; exact c)]
      have := wt_askL F (F.parts.zip F.answd) F.bag
      have hl : (F.parts.zip F.answd).length ≤ 4 := by
        rw [List.length_zip, h.1.parts c, h0]
        have : (partsP (layAt shM ((0 : Nat) : Int)) (tokN shM shT 0)).length = 4 := pts4
        have e2 : (ptsN shM shT 0).length = 4 := pts4
        omega
      rw [hb] at this ⊢
      have e0 : wtB [] = 0 := rfl
      simp only
      omega
    obtain ⟨q1, q2, q3⟩ := drn_wt k (askP F) hG (by omega)
    have q4 := drn_pend sh_setup 0 (by decide) k (askP F) hG (.inr ⟨by rw [hm.2.1]; exact h0, hp⟩) q3
    have q5 := gd_at q1
    exact ⟨q1, q3, by omega⟩
  · have h1 : F.at_ = 1 := by rw [shM_lays] at c; omega
    have e : askP F = F := by unfold askP; rw [if_neg (by rw [h.1.mo]; exact c)]
    rw [e]
    have : drn k F = F := by
      cases k with
      | zero => rfl
      | succ k => simp only [drn, if_pos hb]
    rw [this]
    exact ⟨h, hb, h1⟩
theorem done1 {F : Flt} (h : Gd F) (h1 : F.at_ = 1) : (doneP F).1.flatten = [200, 100, 7] := by
  rw [inv_done h, if_neg (by rw [shM_lays]; omega)]
  have : tokN shM shT shM.lays.length = [[200], [100], [7]] := tok1
  rw [this]
  rfl
def okEnd : List UInt8 := toldP 0 [200, 100, 7]
theorem scr_nl : ∀ (F : Flt) (ls : List (List UInt8)), ls ≠ [] → ∃ X, (scrP F ls).2 = X ++ [10]
  | F, [], h => absurd rfl h
  | F, [s], h => ⟨(lineP F s).2, by simp [scrP]⟩
  | F, s :: t :: r, h => by
    obtain ⟨X, hX⟩ := scr_nl (lineP F s).1 (t :: r) (by simp)
    exact ⟨(lineP F s).2 ++ 10 :: X, by rw [scrP]; simp only; rw [hX]; simp⟩
theorem spl_rep (ls : List (List UInt8)) (t : List UInt8) (h : ∀ l ∈ ls, ∀ b ∈ l, b ≠ 10) : spl 10 (rep ls ++ t) = ls ++ spl 10 t := by
  induction ls with
  | nil => rfl
  | cons l ls ih =>
    have hs : ∀ w : List UInt8, (∀ b ∈ w, b ≠ 10) → spl 10 w = [w] := by
      intro w
      induction w with
      | nil => intro _; rfl
      | cons b r ih =>
        intro h
        rw [spl_cons_ne (h b List.mem_cons_self), ih (fun x hx => h x (List.mem_cons_of_mem _ hx))]
        rfl
    rw [rep_cons, List.append_assoc, List.cons_append, spl_app, ih (fun x hx => h x (List.mem_cons_of_mem _ hx)), hs l (h l List.mem_cons_self)]
    rfl
theorem trim_e (s : List UInt8) (x : UInt8) (hx : x ≠ 10) : Lib.trimSuffix (s ++ [x]) [10] = s ++ [x] := by
  rcases trim_cases (s ++ [x]) with ⟨q, h1, _⟩ | ⟨_, h⟩
  · exfalso
    have := (List.append_inj' h1 rfl).2
    simp at this
    exact hx this
  · exact h
theorem run_e (s : List UInt8) (x : UInt8) (hx : x ≠ 10) : shellP (s ++ [x]) = (scrP shF (spl 10 (s ++ [x]))).2 := by
  unfold shellP
  rw [if_neg (by simp), trim_e s x hx]
theorem rep_app (a b : List (List UInt8)) : rep (a ++ b) = rep a ++ rep b := by simp [rep]
theorem told_end (F : Flt) (a : List (List UInt8)) : (scrP F (a ++ [wDone])).2 = (scrP F a).2 ++ (toldP 0 (doneP (scrP F a).1).1.flatten ++ [10]) := by
  rw [scr_app]
  simp [scrP, line_done]
structure PL (F : Flt) : Prop where
  gd : Gd F
  len : F.bag.length ≤ 4
  at0 : F.at_ = 0
  wk : workedP F = 0
theorem pl_start : PL shF := ⟨gd_start, by decide +kernel, by decide +kernel, by decide +kernel⟩
theorem drop_tail (F : Flt) : (dropP F 0).1 = { F with bag := F.bag.tail } := by
  unfold dropP bagTake
  cases hb : F.bag with
  | nil => simp [hb]
  | cons s b => simp [hb]
theorem pl_drop {F : Flt} (h : PL F) : PL (dropP F 0).1 ∧ (dropP F 0).1.bag.length = F.bag.length - 1 := by
  have e := drop_tail F
  have hi : Gd (dropP F 0).1 := ⟨inv_drop h.gd.1 0, h.gd.2⟩
  rw [e] at hi ⊢
  refine ⟨⟨hi, ?_, h.at0, h.wk⟩, by simp⟩
  have := h.len
  simp; omega
theorem askL_len4 (F : Flt) : ∀ (l : List (Pt × Bool)) (b : List (List UInt8)), (askL F l b).length ≤ b.length + l.length
  | [], b => Nat.le_refl _
  | x :: r, b => by
    unfold askL
    have h1 := askL_len4 F r (if x.2 then b else sendB b (askM F x.1))
    have h2 : (if x.2 then b else sendB b (askM F x.1)).length ≤ b.length + 1 := by
      split
      · omega
      · unfold sendB bagPut
        split
        · split <;> simp
        · omega
    rw [List.length_cons]
    omega
theorem pl_ask {F : Flt} (h : PL F) (hb : F.bag = []) : PL (askP F) := by
  have hm := askP_m F
  have c : F.at_ < shM.lays.length := by rw [h.at0, shM_lays]; omega
  refine ⟨⟨inv_ask sh_setup h.gd.1, settled_ask h.gd.2⟩, ?_, by rw [hm.2.1]; exact h.at0, ?_⟩
  · unfold askP
    rw [if_pos (by rw [h.gd.1.mo]; exact c)]
    have h1 := askL_len4 F (F.parts.zip F.answd) F.bag
    have hl : (F.parts.zip F.answd).length ≤ 4 := by
      rw [List.length_zip, h.gd.1.parts c, h.at0]
      have e2 : (ptsN shM shT 0).length = 4 := pts4
      omega
    rw [hb] at h1 ⊢
    simp only [List.length_nil] at h1
    simp only
    omega
  · have e : workedP (askP F) = workedP F := by unfold workedP; rw [hm.2.2.2.2.2.1]
    rw [e]; exact h.wk
theorem pl_drops : ∀ (k : Nat) {F : Flt}, PL F → PL (scrP F (List.replicate k wDrop0)).1 ∧ (scrP F (List.replicate k wDrop0)).1.bag.length = F.bag.length - k
  | 0, F, h => ⟨h, rfl⟩
  | k + 1, F, h => by
    obtain ⟨a, b⟩ := pl_drop h
    rw [List.replicate_succ]
    obtain ⟨c, d⟩ := pl_drops k a
    exact ⟨c, by show (scrP (dropP F 0).1 (List.replicate k wDrop0)).1.bag.length = _; omega⟩
theorem pl_dropsE {k : Nat} (hk : 4 ≤ k) {F : Flt} (h : PL F) : PL (scrP F (List.replicate k wDrop0)).1 ∧ (scrP F (List.replicate k wDrop0)).1.bag = [] := by
  obtain ⟨a, b⟩ := pl_drops k h
  have := h.len
  exact ⟨a, List.length_eq_zero_iff.1 (by omega)⟩
def drops4 : List (List UInt8) := List.replicate 4 wDrop0
theorem pl_drops4 {F : Flt} (h : PL F) : PL (scrP F drops4).1 ∧ (scrP F drops4).1.bag = [] := pl_dropsE (Nat.le_refl 4) h
theorem ask1_scr (F : Flt) : (scrP F [wAsk]).1 = askP F := rfl
def chunkL (n i : Nat) : List (List UInt8) := if n / 2 ^ i % 2 = 0 then [wDrop0] else drops4 ++ [wAsk]
def bitsL (n : Nat) : Nat → List (List UInt8)
  | 0 => []
  | i + 1 => bitsL n i ++ chunkL n i
theorem pl_chunk {F : Flt} (h : PL F) (n i : Nat) : PL (scrP F (chunkL n i)).1 := by
  unfold chunkL
  split
  · exact (pl_drop h).1
  · rw [scr_app]
    obtain ⟨a, b⟩ := pl_drops4 h
    simp only
    rw [ask1_scr]
    exact pl_ask a b
theorem pl_bits (n : Nat) : ∀ i, PL (scrP shF (bitsL n i)).1
  | 0 => pl_start
  | i + 1 => by
    unfold bitsL
    rw [scr_app]
    exact pl_chunk (pl_bits n i) n i
def lostL (n : Nat) : List (List UInt8) := bitsL n 8 ++ drops4
theorem pl_lost (n : Nat) : PL (scrP shF (lostL n)).1 ∧ (scrP shF (lostL n)).1.bag = [] := by
  have h := pl_drops4 (pl_bits n 8)
  unfold lostL
  rw [scr_app]
  simp only
  exact h
def roundL : List (List UInt8) := wAsk :: List.replicate 30 wDel0
def roundsL : Nat → List (List UInt8)
  | 0 => []
  | k + 1 => roundsL k ++ roundL
theorem round_scr' (k : Nat) (F : Flt) : (scrP F (wAsk :: List.replicate k wDel0)).1 = drn k (askP F) := by
  show (scrP (askP F) (List.replicate k wDel0)).1 = _
  rw [scr_del]
theorem round_scr (F : Flt) : (scrP F roundL).1 = drn 30 (askP F) := round_scr' 30 F
theorem rounds_gd {F : Flt} (h : Gd F) (hb : F.bag = []) : ∀ k, Gd (scrP F (roundsL k)).1 ∧ (scrP F (roundsL k)).1.bag = [] ∧ (0 < k → (scrP F (roundsL k)).1.at_ = 1)
  | 0 => ⟨h, hb, by omega⟩
  | k + 1 => by
    obtain ⟨a, b, c⟩ := rounds_gd h hb k
    unfold roundsL
    rw [scr_app]
    simp only
    rw [round_scr]
    obtain ⟨d, e, f⟩ := round1 a b (k := 30) (by omega)
    exact ⟨d, e, fun _ => f⟩
theorem no10 : (∀ b ∈ wDrop0, b ≠ 10) ∧ (∀ b ∈ wDel0, b ≠ 10) ∧ (∀ b ∈ wAsk, b ≠ 10) ∧ (∀ b ∈ wBag, b ≠ 10) := by decide
theorem bits_no10 (n : Nat) : ∀ i, ∀ l ∈ bitsL n i, ∀ b ∈ l, b ≠ 10
  | 0, l, h => by cases h
  | i + 1, l, h => by
    unfold bitsL at h
    rcases List.mem_append.1 h with h | h
    · exact bits_no10 n i l h
    · unfold chunkL at h
      split at h
      · rcases List.mem_singleton.1 h with rfl; exact no10.1
      · rcases List.mem_append.1 h with h | h
        · rw [List.eq_of_mem_replicate h]; exact no10.1
        · rcases List.mem_singleton.1 h with rfl; exact no10.2.2.1
theorem lost_no10 (n : Nat) : ∀ l ∈ lostL n, ∀ b ∈ l, b ≠ 10 := by
  intro l h
  rcases List.mem_append.1 h with h | h
  · exact bits_no10 n 8 l h
  · rw [List.eq_of_mem_replicate h]; exact no10.1
theorem rounds_no10 : ∀ k, ∀ l ∈ roundsL k, ∀ b ∈ l, b ≠ 10
  | 0, l, h => by cases h
  | k + 1, l, h => by
    unfold roundsL at h
    rcases List.mem_append.1 h with h | h
    · exact rounds_no10 k l h
    · rcases List.mem_cons.1 h with rfl | h
      · exact no10.2.2.1
      · rw [List.eq_of_mem_replicate h]; exact no10.2.1
def noneB : List UInt8 := [111, 107, 32, 48, 32, 48, 10, 111, 107, 10]
theorem lost_pure (n : Nat) : ∃ X, shellP (rep (lostL n) ++ [98, 97, 103, 10, 100, 111, 110, 101]) = X ++ noneB := by
  have e : rep (lostL n) ++ [98, 97, 103, 10, 100, 111, 110, 101] = (rep (lostL n) ++ [98, 97, 103, 10, 100, 111, 110]) ++ [101] := by simp
  have hsp : spl 10 (rep (lostL n) ++ [98, 97, 103, 10, 100, 111, 110, 101]) = lostL n ++ [wBag, wDone] := by
    rw [spl_rep _ _ (lost_no10 n)]
    rfl
  have hr : shellP (rep (lostL n) ++ [98, 97, 103, 10, 100, 111, 110, 101]) = (scrP shF (lostL n ++ [wBag, wDone])).2 := by
    rw [← hsp, e]
    exact run_e _ 101 (by decide)
  obtain ⟨h1, h2⟩ := pl_lost n
  have hd : doneP (scrP shF (lostL n)).1 = ([], false) := by rw [inv_done h1.gd, if_pos (by rw [h1.at0, shM_lays]; omega)]
  rw [hr, scr_app]
  refine ⟨(scrP shF (lostL n)).2, ?_⟩
  simp only [scrP, line_bag, line_done, hd, h2, h1.wk]
  have t1 : toldP 0 [((([] : List (List UInt8)).length : Nat) : Int), ((0 : Nat) : Int)] = [111, 107, 32, 48, 32, 48] := by
    unfold toldP nsB
    rw [if_pos rfl]
    simp only [List.flatMap_cons, List.flatMap_nil, List.length_nil, dig1 0 (by decide)]
    rfl
  rw [t1]
  rfl
theorem lost2_pure (n k : Nat) (hk : 0 < k) : ∃ X, shellP (rep (lostL n) ++ rep (roundsL k) ++ wDone) = X ++ [10] ++ okEnd ++ [10] := by
  have e : rep (lostL n) ++ rep (roundsL k) ++ wDone = (rep (lostL n) ++ rep (roundsL k) ++ [100, 111, 110]) ++ [101] := by simp [wDone]
  have hsp : spl 10 (rep (lostL n) ++ rep (roundsL k) ++ wDone) = (lostL n ++ roundsL k) ++ [wDone] := by
    rw [List.append_assoc, spl_rep _ _ (lost_no10 n), spl_rep _ _ (rounds_no10 k)]
    simp
    rfl
  have hr : shellP (rep (lostL n) ++ rep (roundsL k) ++ wDone) = (scrP shF ((lostL n ++ roundsL k) ++ [wDone])).2 := by
    rw [← hsp, e]
    exact run_e _ 101 (by decide)
  obtain ⟨h1, h2⟩ := pl_lost n
  obtain ⟨r1, r2, r3⟩ := rounds_gd h1.gd h2 k
  rw [hr, told_end]
  have hst : (scrP shF (lostL n ++ roundsL k)).1 = (scrP (scrP shF (lostL n)).1 (roundsL k)).1 := by rw [scr_app]
  rw [hst, done1 r1 (r3 hk)]
  obtain ⟨X, hX⟩ := scr_nl shF (lostL n ++ roundsL k) (by
    intro h
    have := congrArg List.length h
    unfold lostL drops4 at this
    simp at this)
  exact ⟨X, by rw [hX]; simp [okEnd]⟩
def TV (ts : List (List Int)) (v1 : V) (h1 : HP) (c0 : Nat) : Prop := (∀ p ∈ h1, p.1.s = 8) ∧ (v1 = .t (gl ts) ∨ ∃ c o fz, v1 = .ow ⟨8, c, o⟩ 1 0 ts.length ∧ c < c0 ∧ h1.get ⟨8, c, o⟩ = some (.row 31 1 (ts.map fun r => [il r]) fz))
theorem filt_8 {h : HP} (hh : ∀ p ∈ h, p.1.s = 8) {f : Key × Ob → Bool} (hf : ∀ p : Key × Ob, p.1.s = 8 → f p = true) : List.filter f h = h := List.filter_eq_self.2 fun p hp => hf p (hh p hp)
def lbox (l : Lay) : Ob := .box 37 [.t (gl l.gate), .t (.l (l.exps.map exT)), iv l.cap]
def fwS (L : T) (n i : Nat) (l : Lay) (P : List Pt) (v1 : V) (h1 : HP) (c6 o6 c8 o8 : Nat) (els : List (List T)) (t : Nat) (v : List Int) (k ck : Nat) : St := ⟨[(1, v1), (6, .pt ⟨6, c6, o6⟩ 3 0 0), (7, .t (ptl P)), (8, .ow ⟨8, c8, o8⟩ 1 0 t), (9, iv (t : Int)), (10, .t (il v)), (14, .t L), (15, iv n), (16, iv (i : Int)), (33, .t (ptl P)), (34, iv P.length), (35, iv (k : Int))], (⟨8, c8, o8⟩, .row 31 1 els false) :: (⟨6, c6, o6⟩, lbox l) :: h1, ck⟩
def fw0Q (ck0 : Nat) (L : T) (n i : Nat) (l : Lay) (P : List Pt) (v1 : V) (h1 : HP) (c6 o6 c8 o8 : Nat) (els : List (List T)) (t : Nat) (v : List Int) (E : Option (Ex × St)) : Prop := ∃ ck e, ck0 ≤ ck ∧ E = some (.exit 4, ⟨(1, v1) :: (6, .pt ⟨6, c6, o6⟩ 3 0 0) :: (7, .t (ptl P)) :: (8, .ow ⟨8, c8, o8⟩ 1 0 t) :: (9, iv (t : Int)) :: (10, .t (il v)) :: (14, .t L) :: (15, iv n) :: (16, iv (i : Int)) :: e, (⟨8, c8, o8⟩, .row 31 1 els false) :: (⟨6, c6, o6⟩, lbox l) :: h1, ck⟩)
def fw0I (ck0 : Nat) (L : T) (n i : Nat) (l : Lay) (ts : List (List Int)) (d : Int) (P : List Pt) (v1 : V) (h1 : HP) (c6 o6 c8 o8 : Nat) (els : List (List T)) (t : Nat) (v : List Int) (k : Nat) (s : St) : Prop := ∃ w ck, ck0 ≤ ck ∧ fwdT l ts t (P.drop k) w = fwdT l ts t P v ∧ (w.length : Int) = d ∧ s = fwS L n i l P v1 h1 c6 o6 c8 o8 els t w k ck
theorem fw0_loop {L : T} {n i : Nat} {l : Lay} {d : Int} {ts : List (List Int)} {P : List Pt} {v1 : V} {h1 : HP} {c0 : Nat} (hV : TV ts v1 h1 c0) (hl : layRight l d = true) (hx : FewL l) (hd : 1 ≤ d ∧ d ≤ 8) (hw : Wide d ts) (hP : ∀ p ∈ P, (0 ≤ p.token ∧ p.token < ts.length) ∧ 0 ≤ p.expert ∧ p.expert < l.exps.length) (hn : P.length ≤ 100000) (c6 o6 c8 o8 : Nat) (h8 : c0 ≤ c8) (els : List (List T)) (t : Nat) (ht : t < ts.length) (ht2 : ts.length ≤ 10000) (v : List Int) (hv : (v.length : Int) = d) (ck : Nat) :
    fw0Q ck L n i l P v1 h1 c6 o6 c8 o8 els t (fwdT l ts t P v) (evL cfg (.loop f15l0) (fwS L n i l P v1 h1 c6 o6 c8 o8 els t v 0 ck)) := by
  obtain ⟨hs, hV⟩ := hV
  have hf12 : List.filter (fun p => !decide (p.1.s = 12)) h1 = h1 := filt_8 hs (by intro p h; simp [h])
  refine loop_q P.length (fw0I ck L n i l ts d P v1 h1 c6 o6 c8 o8 els t v) ?_ ?_ _ ⟨v, ck, Nat.le_refl _, rfl, hv, rfl⟩
  · rintro k s hk ⟨w, ck, e0, e1, e2, rfl⟩
    have hwk : IntKind.i64.wrap ((k : Int) + 1) = (k : Int) + 1 := wrap_id (by omega) (by omega)
    rw [fwdT_drop hk] at e1
    obtain ⟨⟨p1, p2⟩, p3, p4⟩ := hP _ (List.getElem_mem hk)
    generalize hp : P[k] = p at *
    obtain ⟨pt, pr, px, pw⟩ := p
    simp only at p1 p2 p3 p4 e1
    obtain ⟨x, rfl⟩ : ∃ x : Nat, px = x := ⟨px.toNat, by omega⟩
    have hxl : x < l.exps.length := by omega
    have gt : ts.getD t [] = ts[t] := by simp [List.getD_eq_getElem?_getD, ht]
    have ge : expAt l (x : Int) = l.exps[x] := by simp [expAt, List.getD_eq_getElem?_getD, hxl]
    have hxr := layR_exp hl p3 p4
    obtain ⟨r1, r2⟩ := exR_run hxr (wide_get hw ht).1
    rw [gt, ge] at e1 r1 r2
    have htl := (wide_get hw ht).1
    rw [gt] at htl
    rw [← r1] at r2
    have h1' := fun hp => callQ_tr (C := cfg) (rrun_ret l.exps[x] ts[t] (hx.2.2 _ (List.getElem_mem hxl)) (by omega)) rfl hp
    generalize runD l.exps[x] ts[t] = R at *
    have h2' := fun hp => callQ_tr (C := cfg) (rscale_ret R pw (by omega)) rfl hp
    have h3' := fun hp => callQ_tr (C := cfg) (radd_ret w (scaleR R pw) (by simp only [scaleR, List.length_map]; omega) (by omega)) rfl hp
    have hal : ((addR w (scaleR R pw)).length : Int) = d := by simp only [addR, scaleR, List.length_zipWith, List.length_map]; omega
    generalize addR w (scaleR R pw) = A at *
    generalize scaleR R pw = B at *
    simp only [exV, gl, il, iv] at h1' h2' h3'
    by_cases c : pt = t
    · subst c
      rw [if_pos rfl] at e1
      rcases hV with rfl | ⟨c1, o1, fz, rfl, hc1, hg1⟩
      · simp [f15l0e, fwS, ptl, ptT, gl, il, lbox, exT, hk, hp, ht, hxl, hwk, over, hf12, filt_t, h1', h2', h3']
        exact ⟨A, _, by omega, e1, hal, rfl⟩
      · simp [f15l0e, fwS, ptl, ptT, gl, il, lbox, exT, hk, hp, ht, hxl, hwk, over, hf12, filt_t, h1', h2', h3', hg1, show ¬ c8 = c1 by omega]
        exact ⟨A, _, by omega, e1, hal, rfl⟩
    · rw [if_neg c] at e1
      have cb : (pt == (t : Int)) = false := beq_eq_false_iff_ne.2 c
      rcases hV with rfl | ⟨c1, o1, fz, rfl, hc1, hg1⟩
      · simp [f15l0e, fwS, ptl, ptT, gl, il, lbox, exT, hk, hp, ht, hxl, hwk, over, hf12, filt_t, cb]
        exact ⟨w, _, by omega, e1, e2, rfl⟩
      · simp [f15l0e, fwS, ptl, ptT, gl, il, lbox, exT, hk, hp, ht, hxl, hwk, over, hf12, filt_t, cb, hg1, show ¬ c8 = c1 by omega]
        exact ⟨w, _, by omega, e1, e2, rfl⟩
  · rintro s ⟨w, ck, e0, e1, e2, rfl⟩
    rw [List.drop_eq_nil_of_le (Nat.le_refl _)] at e1
    simp only [fwdT] at e1
    subst e1
    rcases hV with rfl | ⟨c1, o1, fz, rfl, hc1, hg1⟩
    · simp [f15l0e, fwS, ptl, lbox, filt_t]
      exact ⟨_, _, by omega, rfl⟩
    · simp [f15l0e, fwS, ptl, lbox, filt_t, hg1, show ¬ c8 = c1 by omega]
      exact ⟨_, _, by omega, rfl⟩
def fw1S (L : T) (n i : Nat) (l : Lay) (P : List Pt) (v1 : V) (h1 : HP) (c6 o6 c8 o8 : Nat) (els : List (List T)) (t ck : Nat) : St := ⟨[(1, v1), (6, .pt ⟨6, c6, o6⟩ 3 0 0), (7, .t (ptl P)), (8, .ow ⟨8, c8, o8⟩ 1 0 t), (9, iv (t : Int)), (14, .t L), (15, iv n), (16, iv (i : Int))], (⟨8, c8, o8⟩, .row 31 1 els false) :: (⟨6, c6, o6⟩, lbox l) :: h1, ck⟩
def rws (ts : List (List Int)) : List (List T) := ts.map fun r => [il r]
def fw1I (L : T) (n i : Nat) (l : Lay) (ts : List (List Int)) (v1 : V) (h1 : HP) (c0 c6 o6 : Nat) (t : Nat) (s : St) : Prop := ∃ c8 o8 els ck, c0 ≤ c8 ∧ c8 < ck ∧ els = rws ((fwd1 l ts).take t) ∧ s = fw1S L n i l (partsP l ts) v1 h1 c6 o6 c8 o8 els t ck
def fw1Q (L : T) (n i : Nat) (l : Lay) (ts : List (List Int)) (v1 : V) (h1 : HP) (c0 c6 o6 : Nat) (E : Option (Ex × St)) : Prop := ∃ c8 o8 ck e, c0 ≤ c8 ∧ c8 < ck ∧ E = some (.exit 2, ⟨(1, v1) :: (6, .pt ⟨6, c6, o6⟩ 3 0 0) :: (7, .t (ptl (partsP l ts))) :: (8, .ow ⟨8, c8, o8⟩ 1 0 ts.length) :: (9, iv ts.length) :: (14, .t L) :: (15, iv n) :: (16, iv (i : Int)) :: e, (⟨8, c8, o8⟩, .row 31 1 (rws (fwd1 l ts)) false) :: (⟨6, c6, o6⟩, lbox l) :: h1, ck⟩)
theorem fw1_loop {L : T} {n i : Nat} {l : Lay} {d : Int} {ts : List (List Int)} {v1 : V} {h1 : HP} {c0 : Nat} (hV : TV ts v1 h1 c0) (hl : layRight l d = true) (hx : FewL l) (hd : 1 ≤ d ∧ d ≤ 8) (hw : Wide d ts) (ht2 : ts.length ≤ 10000) (c6 o6 c8 o8 : Nat) (h8 : c0 ≤ c8) (ck : Nat) (h9 : c8 < ck) :
    fw1Q L n i l ts v1 h1 c0 c6 o6 (evL cfg (.loop f15l1) (fw1S L n i l (partsP l ts) v1 h1 c6 o6 c8 o8 [] 0 ck)) := by
  have hfl : (fwd1 l ts).length = ts.length := by simp [fwd1]
  have hpl := partsP_len l ts
  have hP : ∀ p ∈ partsP l ts, (0 ≤ p.token ∧ p.token < ts.length) ∧ 0 ≤ p.expert ∧ p.expert < l.exps.length := fun p hp => ⟨⟨(partsP_in p hp).1, (partsP_in p hp).2.1⟩, partsP_exp p hp⟩
  refine loop_q ts.length (fw1I L n i l ts v1 h1 c0 c6 o6) ?_ ?_ _ ⟨c8, o8, [], ck, h8, h9, by simp [rws], rfl⟩
  · rintro t s ht ⟨c8, o8, els, ck, h8, h9, he, rfl⟩
    have hwk : IntKind.i64.wrap ((t : Int) + 1) = (t : Int) + 1 := wrap_id (by omega) (by omega)
    have gt : ts.getD t [] = ts[t] := by simp [List.getD_eq_getElem?_getD, ht]
    have hvl := (wide_get hw ht).1
    rw [gt] at hvl
    obtain ⟨ck2, e2, hc2, hE⟩ := fw0_loop (L := L) (n := n) (i := i) hV hl hx hd hw hP (by omega) c6 o6 c8 o8 h8 els t ht ht2 ts[t] hvl (ck + 1 + 1 + 1)
    have hs : rws ((fwd1 l ts).take (t + 1)) = els ++ [[il (fwdT l ts t (partsP l ts) ts[t])]] := by
      rw [List.take_succ_eq_append_getElem (by omega), he]
      simp [rws, fwd1, List.getElem?_eq_getElem ht]
    have hlen : els.length = t := by rw [he]; simp [rws]; omega
    have hb : (t + 1) * 24 ≤ 140737488355328 := by omega
    generalize fwdT l ts t (partsP l ts) ts[t] = w at *
    obtain ⟨hss, hV⟩ := hV
    rcases hV with rfl | ⟨c1, o1, fz, rfl, hc1, hg1⟩
    · simp only [fwS, ptl, gl, il, iv, lbox, Int.natCast_zero] at hE
      simp [f15l1e, fw1S, ptl, gl, il, lbox, ht, hwk, filt_t, hE, rowsOf, keysOfs, treesC, treesOf, treeOf, freezeAll, app, elsOf, over, hb, hlen]
      exact ⟨_, _, _, _, by omega, by omega, hs.symm, rfl⟩
    · simp only [fwS, ptl, gl, il, iv, lbox, Int.natCast_zero] at hE
      simp [f15l1e, fw1S, ptl, gl, il, lbox, ht, hwk, filt_t, hE, rowsOf, keysOfs, treesC, treesOf, treeOf, freezeAll, app, elsOf, over, hb, hlen, hg1, show ¬ c8 = c1 by omega]
      exact ⟨_, _, _, _, by omega, by omega, hs.symm, rfl⟩
  · rintro s ⟨c8, o8, els, ck, h8, h9, he, rfl⟩
    rw [List.take_of_length_le (by omega)] at he
    subst he
    obtain ⟨hss, hV⟩ := hV
    rcases hV with rfl | ⟨c1, o1, fz, rfl, hc1, hg1⟩
    · simp [f15l1e, fw1S, ptl, gl, filt_t]
      exact ⟨_, _, _, _, h8, by omega, rfl⟩
    · simp [f15l1e, fw1S, ptl, gl, filt_t]
      exact ⟨_, _, _, _, h8, by omega, rfl⟩
theorem freeze_get {h : HP} {k : Key} {ty sz : Nat} {els : List (List T)} {fz : Bool} (hg : h.get k = some (.row ty sz els fz)) : (freezeAll h [k]).get k = some (.row ty sz els true) := by
  simp only [freezeAll, freeze1, hg]
  rw [hp_get_put, if_pos rfl, hg]; rfl
theorem put_sites {h : HP} {k : Key} {o : Ob} {n : Nat} (hk : k.s = n) (hs : ∀ p ∈ h, p.1.s = n) : ∀ p ∈ h.put k k o, p.1.s = n := by
  induction h with
  | nil => intro p hp; simp [HP.put] at hp
  | cons q h ih =>
    obtain ⟨q, x⟩ := q
    intro p hp
    simp only [HP.put] at hp
    split at hp
    · rcases List.mem_cons.1 hp with rfl | hp
      · exact hk
      · exact hs p (by simp [hp])
    · rcases List.mem_cons.1 hp with rfl | hp
      · exact hs (q, x) (by simp)
      · exact ih (fun r hr => hs r (by simp [hr])) p hp
theorem freeze_sites {h : HP} {k : Key} {n : Nat} (hk : k.s = n) (hs : ∀ p ∈ h, p.1.s = n) : ∀ p ∈ freezeAll h [k], p.1.s = n := by
  simp only [freezeAll, freeze1]
  split
  · exact put_sites hk hs
  · exact hs
theorem fparts_call {l : Lay} {ts : List (List Int)} {v1 : V} {h1 : HP} {c0 : Nat} (hV : TV ts v1 h1 c0) (hg : Few l.gate) (hl : ts.length ≤ 10000) (ht : ∀ r ∈ ts, r.length ≤ 1000000) (hc : 0 ≤ l.cap) (c6 o6 : Nat) : ∃ h2, TV ts v1 h2 c0 ∧ ∀ e k ck, callEv cfg (runL cfg) 35 [layV l, v1] ⟨e, (⟨6, c6, o6⟩, lbox l) :: h1, ck⟩ k = some (.t (ptl (partsP l ts)), (⟨6, c6, o6⟩, lbox l) :: h2, ck) := by
  have hr := rparts_ret l ts hg hl ht hc
  obtain ⟨hs, hV⟩ := hV
  rcases hV with rfl | ⟨c, o, fz, rfl, h2, h3⟩
  · exact ⟨h1, ⟨hs, .inl rfl⟩, fun e k ck => callEv_tr (C := cfg) hr rfl rfl rfl ⟨e, _, ck⟩ k⟩
  · refine ⟨freezeAll h1 [⟨8, c, o⟩], ⟨freeze_sites rfl hs, .inr ⟨c, o, true, rfl, h2, freeze_get h3⟩⟩, fun e k ck => ?_⟩
    have := callEv_k (C := cfg) (f := 35) (args := [layV l, .ow ⟨8, c, o⟩ 1 0 ts.length]) (s := ⟨e, (⟨6, c6, o6⟩, lbox l) :: h1, ck⟩) (k := k) rfl rfl (ps := [layV l, .t (gl ts)]) (by
      simp [puresOf, pureOf, treeOf, layV, treesOf, h3, gl, il]
      exact List.take_of_length_le (by simp)) hr rfl
    rw [this]
    simp [keysOf, keysOf1, layV, freezeAll, freeze1, h3]
def fw2I (m : Mod) (ts : List (List Int)) (i : Nat) (s : St) : Prop := ∃ v1 h1 c0, TV (tokN m ts i) v1 h1 c0 ∧ s = ⟨[(1, v1), (14, .t (laysT m)), (15, iv m.lays.length), (16, iv (i : Int))], h1, c0⟩
def fw2Q (m : Mod) (ts : List (List Int)) (E : Option (Ex × St)) : Prop := ∃ v1 h1 c0 ck e, TV (tokN m ts m.lays.length) v1 h1 c0 ∧ E = some (.exit 0, ⟨(1, v1) :: e, h1, ck⟩)
theorem tv_new {ts : List (List Int)} {h1 : HP} {c o c0 c8 : Nat} {els : List (List T)} (hs : ∀ p ∈ h1, p.1.s = 8) (he : els = rws ts) (hc : c < c0) : TV ts (.ow ⟨8, c, o⟩ 1 0 ts.length) ((⟨8, c, o⟩, .row 31 1 els false) :: h1) c0 := by
  refine ⟨fun p hp => ?_, .inr ⟨c, o, false, rfl, hc, by rw [he]; simp [HP.get, rws]⟩⟩
  rcases List.mem_cons.1 hp with rfl | hp
  · rfl
  · exact hs p hp
theorem fw2_loop {m : Mod} {ts : List (List Int)} (hm : FewM m) (hr : ∀ l ∈ m.lays, layRight l m.dim = true) (hd : 1 ≤ m.dim ∧ m.dim ≤ 8) (hw : Wide m.dim ts) (ht : ts.length ≤ 10000) (ck : Nat) : fw2Q m ts (evL cfg (.loop f15l2) ⟨[(1, .t (gl ts)), (14, .t (laysT m)), (15, iv m.lays.length), (16, iv 0)], [], ck⟩) := by
  refine loop_q m.lays.length (fw2I m ts) ?_ ?_ _ ⟨_, [], ck, ⟨by simp, .inl rfl⟩, rfl⟩
  · rintro i s hi ⟨v1, h1, c0, hV, rfl⟩
    have hml := hm.1
    have hwk : IntKind.i64.wrap ((i : Int) + 1) = (i : Int) + 1 := wrap_id (by omega) (by omega)
    obtain ⟨k1, k2⟩ := tokN_ok hr hw i (by omega)
    have e : layAt m i = m.lays[i] := by simp [layAt, List.getD_eq_getElem?_getD, hi]
    have hl := hr _ (List.getElem_mem hi)
    have hx := hm.2 _ (List.getElem_mem hi)
    have hn : tokN m ts (i + 1) = fwd1 m.lays[i] (tokN m ts i) := by
      simp only [tokN, e]; exact (next_ok hl k2).2.2.symm
    have hnl : (tokN m ts (i + 1)).length = (tokN m ts i).length := by rw [hn]; simp [fwd1]
    generalize hT : tokN m ts i = T0 at *
    have hcap : 0 ≤ m.lays[i].cap := by simp only [layRight, Bool.and_eq_true, decide_eq_true_eq] at hl; omega
    have hla : (laysT m) = .l (m.lays.map layT) := rfl
    generalize hL : m.lays[i] = l at *
    obtain ⟨h2, hV2, hp⟩ := fparts_call hV hx.1 (by omega) (fun r hr => by have := (k2 r hr).1; omega) hcap (c0 + 1) 2
    obtain ⟨c8, o8, ck8, e8, q1, q2, q3⟩ := fw1_loop (L := laysT m) (n := m.lays.length) (i := i) hV2 hl hx hd k2 (by omega) (c0 + 1) 2 (c0 + 1 + 1 + 1) 0 (by omega) (c0 + 1 + 1 + 1 + 1 + 1) (by omega)
    have hfin : fw2I m ts (i + 1) ⟨[(1, .ow ⟨8, c8, o8⟩ 1 0 T0.length), (14, .t (laysT m)), (15, iv m.lays.length), (16, iv ((i + 1 : Nat) : Int))], (⟨8, c8, o8⟩, .row 31 1 (rws (fwd1 l T0)) false) :: h2, ck8 + 1 + 1⟩ := by
      refine ⟨_, _, _, ?_, rfl⟩
      rw [← hnl]
      exact tv_new (c8 := 0) hV2.1 (by rw [hn]) (by omega)
    have hs := hV2.1
    have hf6 : List.filter (fun p => !decide (p.1.s = 6)) h2 = h2 := filt_8 hs (by intro p h; simp [h])
    have hla : layT l = [gl l.gate, .l (l.exps.map exT), .i .i64 l.cap] := rfl
    simp only [layV, lbox, fw1S, laysT, iv, ptl, gl, il, Int.natCast_zero] at hp q3 hfin hla
    simp [f15l2e, laysT, hi, hL, hla, hwk, filt_t, hf6, over, hp, q3]
    exact hfin
  · rintro s ⟨v1, h1, c0, hV, rfl⟩
    simp [f15l2e, laysT, filt_t]
    exact ⟨v1, h1, c0, _, _, hV, rfl⟩
theorem fwd_ret {m : Mod} {ts : List (List Int)} (hm : FewM m) (hr : ∀ l ∈ m.lays, layRight l m.dim = true) (hd : 1 ≤ m.dim ∧ m.dim ≤ 8) (hw : Wide m.dim ts) (ht : ts.length ≤ 10000) : RetT cfg 15 [modV m, .t (gl ts)] (.t (gl (tokN m ts m.lays.length))) := by
  obtain ⟨v1, h1, c0, ck, e, ⟨hs, hV⟩, hL⟩ := fw2_loop hm hr hd hw ht 2
  rw [retT_r, runL_pf (fn := f15) rfl rfl]
  have hf4 : List.filter (fun p => !decide (p.1.s = 4)) h1 = h1 := filt_8 hs (by intro p h; simp [h])
  generalize tokN m ts m.lays.length = R at *
  rcases hV with rfl | ⟨c1, o1, fz, rfl, hc1, hg1⟩
  · simp only [laysT, gl, il, iv] at hL
    simp [modV, laysT, gl, il, hL, filt_t, resOf]
    rfl
  · simp only [laysT, gl, il, iv] at hL
    simp [modV, laysT, gl, il, hL, filt_t, resOf, resOf1, treeOf, hg1, List.take_of_length_le]
theorem fwd20_ret : RetT cfg 15 [modV shM, .t (gl shT)] (.t (gl [[200], [100], [7]])) := by
  have h := fwd_ret (ts := shT) shM_few sh_setup.lays sh_setup.dim sh_setup.wide (by decide)
  have e : tokN shM shT shM.lays.length = [[200], [100], [7]] := tok1
  rwa [e] at h
theorem rep_rep_succ (k : Nat) (w : List UInt8) : rep (List.replicate (k + 1) w) = rep (List.replicate k w) ++ (w ++ [10]) := by
  rw [List.replicate_succ', rep_app]
  simp [rep]
theorem rep_rep_len (k : Nat) (w : List UInt8) : (rep (List.replicate k w)).length = k * (w.length + 1) := by
  induction k with
  | zero => simp [rep]
  | succ k ih => rw [rep_rep_succ, List.length_append, ih, Nat.succ_mul]; simp
theorem and1 : ∀ m : Nat, m < 256 → bin .and (.t (.i .u8 (m : Int))) (.t (.i .u8 1)) = some (.t (.i .u8 ((m % 2 : Nat) : Int))) := by
  have h : ∀ m : Nat, m < 256 → IntKind.u8.wrap (((BitVec.ofInt IntKind.u8.bits (m : Int) &&& BitVec.ofInt IntKind.u8.bits 1).toNat : Nat) : Int) = ((m % 2 : Nat) : Int) := by decide +kernel
  intro m hm
  have := h m hm
  simp only [bin, isShift, binI]
  rw [← this]
  rfl
theorem fdiv_nat (n k : Nat) : Int.fdiv (n : Int) (2 ^ k) = ((n / 2 ^ k : Nat) : Int) := by
  rw [Int.fdiv_eq_ediv_of_nonneg _ (by exact_mod_cast Nat.zero_le _)]
  norm_cast
def l0I (n : Nat) (i : Nat) (st : St) : Prop := ∃ ck x, x = rep (bitsL n i) ∧ st = ⟨[(0, .t (.i .u8 (n : Int))), (3, .t (.s x)), (14, iv (i : Int))], [], ck⟩
def l0Q (n : Nat) (E : Option (Ex × St)) : Prop := ∃ ck e, E = some (.exit 0, ⟨(0, .t (.i .u8 (n : Int))) :: (3, .t (.s (rep (bitsL n 8)))) :: e, [], ck⟩)
theorem bits_len (n : Nat) : ∀ i, (rep (bitsL n i)).length ≤ 40 * i
  | 0 => by simp [bitsL, rep]
  | i + 1 => by
    have h1 := bits_len n i
    unfold bitsL
    rw [rep_app, List.length_append]
    have h2 : (rep (chunkL n i)).length ≤ 40 := by
      unfold chunkL
      split
      · decide
      · decide
    omega
theorem l0_loop (n : Nat) (hn : n < 256) (ck : Nat) : l0Q n (evL cfg (.loop f8l0) ⟨[(0, .t (.i .u8 (n : Int))), (3, .t (.s [])), (14, iv 0)], [], ck⟩) := by
  refine loop_q 8 (l0I n) ?_ ?_ _ ⟨ck, [], rfl, rfl⟩
  · rintro i st hi ⟨ck, x, hx0, rfl⟩
    have hw : IntKind.i64.wrap ((i : Int) + 1) = (i : Int) + 1 := wrap_id (by omega) (by omega)
    have hlt : (i : Int) < 8 := by omega
    have h0 : ¬ (i : Int) < 0 := by omega
    have hm : min i 8 = i := by omega
    have hxl : x.length ≤ 400 := by have := bits_len n i; rw [hx0]; omega
    have hb1 : ¬ i64max < (x.length : Int) + 7 := by unfold i64max; omega
    have hb2 : ¬ i64max < (x.length : Int) + 32 := by unfold i64max; omega
    have hf := fdiv_nat n i
    have ha := and1 (n / 2 ^ i) (Nat.lt_of_le_of_lt (Nat.div_le_self _ _) hn)
    have hB : bitsL n (i + 1) = bitsL n i ++ chunkL n i := rfl
    unfold chunkL at hB
    by_cases hz : n / 2 ^ i % 2 = 0
    · rw [if_pos hz] at hB
      have fin : x ++ [100, 114, 111, 112, 32, 48, 10] = rep (bitsL n (i + 1)) := by rw [hB, rep_app, hx0]; rfl
      rw [hz] at ha
      generalize n / 2 ^ i = d at *
      simp [f8l0e, hlt, hw, hb1, shiftI, isShift, h0, hm, hf, IntKind.bits, ha]
      exact ⟨_, _, fin, rfl⟩
    · rw [if_neg hz] at hB
      have fin : x ++ [100, 114, 111, 112, 32, 48, 10, 100, 114, 111, 112, 32, 48, 10, 100, 114, 111, 112, 32, 48, 10, 100, 114, 111, 112, 32, 48, 10, 97, 115, 107, 10] = rep (bitsL n (i + 1)) := by rw [hB, rep_app, hx0]; rfl
      have h1 : n / 2 ^ i % 2 = 1 := by omega
      rw [h1] at ha
      generalize n / 2 ^ i = d at *
      simp [f8l0e, hlt, hw, hb2, shiftI, isShift, h0, hm, hf, IntKind.bits, ha]
      exact ⟨_, _, fin, rfl⟩
  · rintro st ⟨ck, x, rfl, rfl⟩
    generalize hz : rep (bitsL n 8) = z
    simp [f8l0e]
    exact ⟨_, _, by rw [hz]⟩
def l1I (t : V) (k : Int) (x0 : List UInt8) (i : Nat) (st : St) : Prop := ∃ ck x, x = x0 ++ rep (List.replicate i wDel0) ∧ st = ⟨[(3, .t (.s x)), (5, t), (32, iv k), (36, iv (i : Int))], [], ck⟩
def l1Q (t : V) (k : Int) (x0 : List UInt8) (n : Nat) (E : Option (Ex × St)) : Prop := ∃ ck e, E = some (.exit 4, ⟨(3, .t (.s (x0 ++ rep (List.replicate n wDel0)))) :: (5, t) :: (32, iv k) :: e, [], ck⟩)
theorem l1_loop (t : V) (k : Int) (x0 : List UInt8) (hx : x0.length ≤ 100000) (ck : Nat) : l1Q t k x0 30 (evL cfg (.loop f8l1) ⟨[(3, .t (.s x0)), (5, t), (32, iv k), (36, iv 0)], [], ck⟩) := by
  refine loop_q 30 (l1I t k x0) ?_ ?_ _ ⟨ck, x0, by simp [rep], rfl⟩
  · rintro i st hi ⟨ck, x, hx0, rfl⟩
    have hw : IntKind.i64.wrap ((i : Int) + 1) = (i : Int) + 1 := wrap_id (by omega) (by omega)
    have hlt : (i : Int) < 30 := by omega
    have hl := rep_rep_len i wDel0
    have hxl : x.length ≤ 110000 := by rw [hx0, List.length_append, hl]; simp [wDel0]; omega
    have hb : ¬ i64max < (x.length : Int) + 10 := by unfold i64max; omega
    have fin : x ++ [100, 101, 108, 105, 118, 101, 114, 32, 48, 10] = x0 ++ rep (List.replicate (i + 1) wDel0) := by
      rw [rep_rep_succ, hx0, List.append_assoc]; rfl
    simp [f8l1e, hlt, hw, hb]
    exact ⟨_, _, fin, rfl⟩
  · rintro st ⟨ck, x, rfl, rfl⟩
    generalize hz : x0 ++ rep (List.replicate 30 wDel0) = z
    simp [f8l1e]
    exact ⟨_, _, by rw [hz]; rfl⟩
def l2I (t : V) (x0 : List UInt8) (i : Nat) (st : St) : Prop := ∃ ck x, x = x0 ++ rep (roundsL i) ∧ st = ⟨[(3, .t (.s x)), (5, t), (32, iv (i : Int))], [], ck⟩
def l2Q (t : V) (x0 : List UInt8) (n : Nat) (E : Option (Ex × St)) : Prop := ∃ ck e, E = some (.exit 2, ⟨(3, .t (.s (x0 ++ rep (roundsL n)))) :: (5, t) :: e, [], ck⟩)
theorem round_rep : rep roundL = [97, 115, 107, 10] ++ rep (List.replicate 30 wDel0) := by
  unfold roundL
  rw [rep_cons]
  rfl
theorem round_len : (rep roundL).length = 304 := by rw [round_rep, List.length_append, rep_rep_len]; rfl
theorem rounds_len : ∀ i, (rep (roundsL i)).length = 304 * i
  | 0 => rfl
  | i + 1 => by
    have := rounds_len i
    unfold roundsL
    rw [rep_app, List.length_append, this, round_len]
    omega
theorem l2_loop (t : V) (x0 : List UInt8) (hx : x0.length ≤ 10000) (ck : Nat) : l2Q t x0 8 (evL cfg (.loop f8l2) ⟨[(3, .t (.s x0)), (5, t), (32, iv 0)], [], ck⟩) := by
  refine loop_q 8 (l2I t x0) ?_ ?_ _ ⟨ck, x0, by simp [rep, roundsL], rfl⟩
  · rintro i st hi ⟨ck, x, hx0, rfl⟩
    have hw : IntKind.i64.wrap ((i : Int) + 1) = (i : Int) + 1 := wrap_id (by omega) (by omega)
    have hlt : (i : Int) < 8 := by omega
    have hxl : x.length ≤ 20000 := by have := rounds_len i; rw [hx0, List.length_append]; omega
    have hb : ¬ i64max < (x.length : Int) + 4 := by unfold i64max; omega
    obtain ⟨c1, e1, hE⟩ := l1_loop t (i : Int) (x ++ [97, 115, 107, 10]) (by simp; omega) (ck + 1 + 1 + 1)
    have fin : x ++ [97, 115, 107, 10] ++ rep (List.replicate 30 wDel0) = x0 ++ rep (roundsL (i + 1)) := by
      have e : roundsL (i + 1) = roundsL i ++ roundL := rfl
      rw [e, rep_app, round_rep, hx0]
      simp
    generalize x ++ [97, 115, 107, 10] ++ rep (List.replicate 30 wDel0) = y at *
    simp only [iv] at hE
    simp [f8l2e, hlt, hw, hb, hE]
    exact ⟨_, _, fin, rfl⟩
  · rintro st ⟨ck, x, rfl, rfl⟩
    generalize hz : x0 ++ rep (roundsL 8) = z
    simp [f8l2e]
    exact ⟨_, _, by rw [hz]⟩
def l3I (t u v : V) (ns : List Int) (i : Nat) (st : St) : Prop := ∃ ck x, x = 10 :: okB ++ nsB (ns.take i) ∧ st = ⟨[(5, t), (6, u), (7, v), (11, .t (.s x)), (67, .t (gl (ns.map fun n => [n]))), (68, iv ns.length), (69, iv (i : Int))], [], ck⟩
def l3Q (t u v : V) (ns : List Int) (E : Option (Ex × St)) : Prop := ∃ ck e, E = some (.exit 6, ⟨(5, t) :: (6, u) :: (7, v) :: (11, .t (.s (10 :: okB ++ nsB ns))) :: e, [], ck⟩)
theorem l3_loop (t u v : V) (ns : List Int) (hn : ∀ n ∈ ns, 0 ≤ n ∧ n ≤ 1000000) (hl : ns.length ≤ 100) (ck : Nat) : l3Q t u v ns (evL cfg (.loop f8l3) ⟨[(5, t), (6, u), (7, v), (11, .t (.s [10, 111, 107])), (67, .t (gl (ns.map fun n => [n]))), (68, iv ns.length), (69, iv 0)], [], ck⟩) := by
  refine loop_q ns.length (l3I t u v ns) ?_ ?_ _ ⟨ck, _, by simp [nsB, okB], rfl⟩
  · rintro i st hi ⟨ck, x, hx0, rfl⟩
    have hw : IntKind.i64.wrap ((i : Int) + 1) = (i : Int) + 1 := wrap_id (by omega) (by omega)
    have hm := hn _ (List.getElem_mem hi)
    have hxl : x.length ≤ 3000 := by
      rw [hx0, List.length_append]
      have := nsB_len (ns.take i) (fun m hm => by have := hn m (List.mem_of_mem_take hm); exact ⟨by omega, by omega⟩)
      rw [List.length_take] at this
      simp [okB]; omega
    have d := fun st kk => callEv_tr (C := cfg) (dig_ret ns[i] hm.1 (by omega)) rfl rfl rfl st kk
    have hlen := Lib.itoa_length_le ns[i] (by omega) (by omega)
    have hmx : ¬ ns[i] < 0 := by omega
    have hT := nsB_take hi
    simp only [iv] at d
    generalize Lib.itoa ns[i] = z at *
    have hb0 : ¬ i64max < 1 + (z.length : Int) := by unfold i64max; omega
    have hb1 : ¬ i64max < (x.length : Int) + ((z.length : Int) + 1) := by unfold i64max; omega
    have fin : x ++ 32 :: z = 10 :: okB ++ nsB (ns.take (i + 1)) := by rw [hT, hx0]; simp
    simp [f8l3e, gl, il, hi, hw, minmax, hmx, d, hb0, hb1, filt_tt]
    exact ⟨_, _, fin, by simp [gl, il]; rfl⟩
  · rintro st ⟨ck, x, h1, rfl⟩
    rw [List.take_length] at h1
    subst h1
    generalize hz : 10 :: okB ++ nsB ns = z at *
    simp [f8l3e, filt_tt]
    exact ⟨_, _, by rw [hz]⟩
theorem shellLost_ret (n : Nat) (hn : n < 256) : RetT cfg 8 [.t (.i .u8 (n : Int))] (bv true) := by
  have qa := fun st k => callEv_tr (C := cfg) awake20_ret rfl rfl rfl st k
  simp only [bv] at qa
  refine RetT.of ?_
  rw [runL_pf (fn := f8) rfl rfl]
  obtain ⟨X1, hX1⟩ := lost_pure n
  obtain ⟨X2, hX2⟩ := lost2_pure n 8 (by omega)
  obtain ⟨c0, e0, hE0⟩ := l0_loop n hn 3
  have e3 : rep (lostL n) = rep (bitsL n 8) ++ [100, 114, 111, 112, 32, 48, 10, 100, 114, 111, 112, 32, 48, 10, 100, 114, 111, 112, 32, 48, 10, 100, 114, 111, 112, 32, 48, 10] := by
    unfold lostL
    rw [rep_app]; rfl
  have hbl := bits_len n 8
  generalize rep (bitsL n 8) = Z0 at *
  have b0 : ¬ i64max < (Z0.length : Int) + 28 := by unfold i64max; omega
  have hll : (rep (lostL n)).length ≤ 400 := by rw [e3]; simp; omega
  have b1 : ¬ i64max < (Z0.length : Int) + 28 + 8 := by unfold i64max; omega
  obtain ⟨c1, e1, hE1⟩ := l2_loop (.t (.s (X1 ++ noneB))) (rep (lostL n)) (by omega) (c0 + 1 + 1 + 1)
  have hrl := rounds_len 8
  have r1 := fun st k => callEv_tr (C := cfg) (srun (rep (lostL n) ++ [98, 97, 103, 10, 100, 111, 110, 101]) (by simp; omega)) rfl rfl rfl st k
  have r2 := fun st k => callEv_tr (C := cfg) (srun (rep (lostL n) ++ rep (roundsL 8) ++ wDone) (by simp [wDone]; omega)) rfl rfl rfl st k
  have hX1l := shell_len (rep (lostL n) ++ [98, 97, 103, 10, 100, 111, 110, 101]) (by simp; omega)
  have hX2l := shell_len (rep (lostL n) ++ rep (roundsL 8) ++ wDone) (by simp [wDone]; omega)
  rw [hX1] at r1 hX1l
  rw [hX2] at r2 hX2l
  have f1 := fun st k => callEv_tr (C := cfg) fwd20_ret rfl rfl rfl st k
  rw [e3] at r1 hE1
  have hY : (rep (lostL n) ++ rep (roundsL 8)).length ≤ 3000 := by simp; omega
  rw [← e3] at hE1
  generalize rep (lostL n) ++ rep (roundsL 8) = Y at *
  have b2 : ¬ i64max < (Y.length : Int) + 4 := by unfold i64max; omega
  obtain ⟨c2, e2, hE2⟩ := l3_loop (.t (.s (X1 ++ noneB))) (.t (.s (X2 ++ [10] ++ okEnd ++ [10]))) (.t (.s noneB)) [200, 100, 7] (by decide) (by decide) (c1 + 1 + 1 + 1 + 1 + 1 + 1)
  have hO : okEnd = okB ++ nsB [200, 100, 7] := by unfold okEnd toldP; rw [if_pos rfl]
  have hq := nsB_len [200, 100, 7] (by intro n hn; rcases List.mem_cons.1 hn with rfl | hn; exact ⟨by decide, by decide⟩; rcases List.mem_cons.1 hn with rfl | hn; exact ⟨by decide, by decide⟩; rcases List.mem_singleton.1 hn with rfl; exact ⟨by decide, by decide⟩)
  rw [hO] at hE2 r2 hX2l
  generalize nsB [200, 100, 7] = q at *
  simp only [iv, wDone, noneB] at hE0 hE1 r1 r2
  simp [modV, laysT, shM, layT, exT, gl, il, iv] at f1
  simp [e3] at hE1
  simp [gl, il, iv, okB, noneB] at hE2 r1 r2 hX2l hX1l
  have b3 : ¬ i64max < (q.length : Int) + 1 + 1 + 1 + 1 := by unfold i64max; simp at hq; omega
  have b4 : (q.length : Int) + 1 + 1 + 1 + 1 ≤ (X2.length : Int) + ((q.length : Int) + 1 + 1 + 1 + 1) := by omega
  have b5 : (X2.length : Int) ≤ (X2.length : Int) + ((q.length : Int) + 1 + 1 + 1 + 1) := by omega
  have w1 : IntKind.i64.wrap (X2.length : Int) = X2.length := wrap_id (by omega) (by omega)
  have tk : List.take (X2.length + (q.length + 1 + 1 + 1 + 1)) (X2 ++ 10 :: 111 :: 107 :: (q ++ [10])) = X2 ++ 10 :: 111 :: 107 :: (q ++ [10]) := List.take_of_length_le (by simp)
  have c4 : (10 : Int) ≤ (X1.length : Int) + 10 := by omega
  have c5 : (X1.length : Int) ≤ (X1.length : Int) + 10 := by omega
  have v1 : IntKind.i64.wrap (X1.length : Int) = X1.length := wrap_id (by omega) (by omega)
  have uk : List.take (X1.length + 10) (X1 ++ [111, 107, 32, 48, 32, 48, 10, 111, 107, 10]) = X1 ++ [111, 107, 32, 48, 32, 48, 10, 111, 107, 10] := List.take_of_length_le (by simp)
  simp [hE0, b0, e3, hE1, r1, r2, b1, b2, buildV, cells, over, rowsOf, treesC, treesOf, treeOf, keysOfs, freezeAll, keysOf, keysOf1, filt_tt, f1, hE2, b3, b4, b5, w1, tk, c4, c5, v1, uk, qa]
section
set_option maxRecDepth 100000
theorem shellLost_ev (xs : List V) (h : ArgsFit PP 8 [5] xs) : ∃ hp c, runL cfg 8 xs [] 0 = some (bv true, hp, c) := by
  obtain ⟨x1, r, rfl, h1, h⟩ := argsFit_cons h
  cases argsFit_nil h
  obtain ⟨n, rfl, hn⟩ := a_u8 h1
  exact ret_bv (shellLost_ret n (by omega))
end
end Go.Proofs.YtlfjlpleodlkmaaGreatDoor.Pv
