/- What link.Told tells (slices.IndexFunc, slices.DeleteFunc of frames). -/
import Derived.Test.YtccnadleegcobaaSLink
set_option linter.unusedVariables false
set_option linter.unusedSimpArgs false
namespace Go.Proofs.Ytccnadleegcobaa.Pv
open Go Go.Pev

theorem filt_true {α : Type} (l : List α) : List.filter (fun _ => true) l = l := List.filter_eq_self.2 fun _ _ => rfl
theorem get_put_self {k : Key} {o' : Ob} : ∀ {h : HP} {o : Ob}, h.get k = some o → (h.put k k o').get k = some o'
  | [], o, hg => by cases hg
  | (q, x) :: h, o, hg => by
    simp only [HP.get, HP.put] at hg ⊢
    by_cases e : q = k
    · rw [if_pos e]; simp only [HP.get, if_true]
    · rw [if_neg e] at hg ⊢
      simp only [HP.get, if_neg e]
      exact get_put_self hg
theorem get_put_ne {k q : Key} {o' : Ob} (hne : q ≠ k) : ∀ {h : HP}, (h.put k k o').get q = h.get q
  | [] => rfl
  | (p, x) :: h => by
    simp only [HP.put]
    by_cases e : p = k
    · subst e
      rw [if_pos rfl]
      simp only [HP.get, if_neg (Ne.symm hne)]
    · rw [if_neg e]
      simp only [HP.get]
      by_cases e2 : p = q
      · rw [if_pos e2, if_pos e2]
      · rw [if_neg e2, if_neg e2]; exact get_put_ne hne

theorem told1_pr (n seq : Int) (t : List UInt8) (s : St) (k : Key) : callEv cfg (runL cfg) 23 [.ag [.t (.i .i64 n), .t (.s t)], .pr [.i .i64 seq]] s k = some (.t (.b (n == seq)), (⟨2, s.ck + 1, 0⟩, .box 50 [.t (.i .i64 n), .t (.s t)]) :: s.hp, s.ck + 4) := by
  refine callEv_h (C := cfg) (c' := s.ck + 3) rfl ?_ k
  rw [runL_pf (fn := f23) rfl rfl]
  simp [filt_true]
theorem told1_pt (n seq : Int) (t : List UInt8) (q : Key) (bt : Nat) (s : St) (k : Key) (hq : s.hp.get q = some (.box bt [.t (.i .i64 seq)])) (hc : q.c < s.ck + 1) : callEv cfg (runL cfg) 23 [.ag [.t (.i .i64 n), .t (.s t)], .pt q 1 0 0] s k = some (.t (.b (n == seq)), (⟨2, s.ck + 1, 0⟩, .box 50 [.t (.i .i64 n), .t (.s t)]) :: s.hp, s.ck + 4) := by
  refine callEv_h (C := cfg) (c' := s.ck + 3) rfl ?_ k
  rw [runL_pf (fn := f23) rfl rfl]
  have hne : ¬ (⟨2, s.ck + 1, 0⟩ : Key) = q := fun e => by have h := congrArg Key.c e; simp only at h; omega
  simp [filt_true, hq, hne]

def idxF (fs : List Fr) (seq : Int) : Int := if fs.any (fun f => f.1 == seq) then fs.findIdx (fun f => f.1 == seq) else -1
theorem any_at {fs : List Fr} {i : Nat} (seq : Int) (h : i < fs.length) : (fs.drop i).any (fun f => f.1 == seq) = (fs[i].1 == seq || (fs.drop (i + 1)).any (fun f => f.1 == seq)) := by
  rw [List.drop_eq_getElem_cons h]; rfl

theorem ixF_loop (fs : List Fr) (seq : Int) (hl : fs.length ≤ 1000000) : ∀ (k i ck : Nat) (hp : HP), i + k = fs.length → (∀ j, (hj : j < fs.length) → j < i → (fs[j].1 == seq) = false) → ∃ c hp', evL cfg (.loop f28l0) ⟨[(0, .t (fl fs)), (1, .fn 23 [.pr [.i .i64 seq]]), (7, iv fs.length), (8, iv i)], hp, ck⟩ =
    some (if (fs.drop i).any (fun f => f.1 == seq) then (.ret, ⟨[(4, iv (idxF fs seq))], hp', c⟩) else (.exit 0, ⟨[(0, .t (fl fs)), (1, .fn 23 [.pr [.i .i64 seq]]), (7, iv fs.length), (8, iv fs.length), (9, bv false)], hp', c⟩)) := by
  intro k
  induction k with
  | zero =>
    intro i ck hp h _
    obtain rfl : i = fs.length := by omega
    refine ⟨ck + 1, hp, ?_⟩
    rw [evL_loop]
    simp [f28l0e, filt_true]
  | succ k ih =>
    intro i ck hp h hb
    have hi : i < fs.length := by omega
    have hw : IntKind.i64.wrap ((i : Int) + 1) = (i : Int) + 1 := wrap_id (by omega) (by omega)
    rw [any_at seq hi]
    by_cases hx : (fs[i].1 == seq) = true
    · have hid : idxF fs seq = i := by
        have h1 : fs.findIdx (fun f => f.1 == seq) = i := by
          rw [List.findIdx_eq hi]
          exact ⟨hx, fun j hj => by simpa using hb j (by omega) hj⟩
        have h2 : fs.any (fun f => f.1 == seq) = true := List.any_eq_true.2 ⟨fs[i], List.getElem_mem hi, hx⟩
        unfold idxF; rw [if_pos h2, h1]
      refine ⟨ck + 7 + 1, (⟨2, ck + 3, 0⟩, .box 50 [.t (.i .i64 fs[i].1), .t (.s fs[i].2)]) :: hp, ?_⟩
      rw [evL_loop, hx, hid]
      simp [f28l0e, fl, hi, hx, told1_pr, filt_true]
    · have hx : (fs[i].1 == seq) = false := by simpa using hx
      obtain ⟨c, hp', hc⟩ := ih (i + 1) (ck + 8) ((⟨2, ck + 3, 0⟩, .box 50 [.t (.i .i64 fs[i].1), .t (.s fs[i].2)]) :: hp) (by omega) (fun j hj hji => by
        rcases Nat.lt_succ_iff_lt_or_eq.1 hji with h | rfl
        · exact hb j hj h
        · exact hx)
      refine ⟨c, hp', ?_⟩
      rw [hx, Bool.false_or, ← hc, evL_loop_n]
      simp [f28l0e, fl, hi, hx, hw, told1_pr, filt_true]

theorem ixF_ret (fs : List Fr) (seq : Int) (hl : fs.length ≤ 1000000) : RetT cfg 28 [.t (fl fs), .fn 23 [.pr [.i .i64 seq]]] (iv (idxF fs seq)) := by
  obtain ⟨c, hp', hc⟩ := ixF_loop fs seq hl fs.length 0 2 [] (by omega) (by omega)
  refine RetT.of ?_
  rw [runL_pf (fn := f28) rfl rfl]
  rw [List.drop_zero] at hc
  simp only [fl, iv, bv, Int.natCast_zero] at hc
  by_cases hx : fs.any (fun f => f.1 == seq) = true
  · rw [if_pos hx] at hc
    simp [fl, hc]
  · rw [if_neg hx] at hc
    have : idxF fs seq = -1 := by unfold idxF; rw [if_neg hx]
    rw [this]
    simp [fl, hc, filt_true]
theorem ixF_call (fs : List Fr) (seq : Int) (hl : fs.length ≤ 1000000) (k q : Key) (ty bt : Nat) (s : St) (kk : Key) (hk : s.hp.get k = some (.row ty 2 (fcs fs) false)) (hq : s.hp.get q = some (.box bt [.t (.i .i64 seq)])) : callEv cfg (runL cfg) 28 [.ow k 2 0 fs.length, .fn 23 [.pt q 1 0 0]] s kk = some (.t (.i .i64 (idxF fs seq)), s.hp, s.ck) := by
  have h1 : treeOf s.hp (.ow k 2 0 fs.length) = some (fl fs) := treeOf_ow hk (by simp [fcs])
  refine callEv_t (C := cfg) rfl rfl (ps := [.t (fl fs), .fn 23 [.pr [.i .i64 seq]]]) ?_ (ixF_ret fs seq hl) (.inl rfl)
  simp only [puresOf, pureOf, h1]
  simp [capsOf, capOf, hq, treesOf, treeOf]

abbrev keepF (seq : Int) (f : Fr) : Bool := f.1 != seq
theorem delF_loop (seq : Int) (k q : Key) (ty bt : Nat) (hkq : ¬ k = q) : ∀ (m j w : Nat) (r : List Fr) (hp : HP) (ck : Nat), j + m = r.length → w ≤ j → r.length ≤ 1000000 → hp.get k = some (.row ty 2 (fcs r) false) → hp.get q = some (.box bt [.t (.i .i64 seq)]) → k.c < ck → q.c < ck →
    ∃ c r' hp', ck ≤ c ∧ r'.length = r.length ∧ r'.take (w + ((r.drop j).filter (keepF seq)).length) = r.take w ++ (r.drop j).filter (keepF seq) ∧ hp'.get k = some (.row ty 2 (fcs r') false) ∧ (∀ p : Key, p ≠ k → p.c < ck → hp'.get p = hp.get p) ∧
    evL cfg (.loop f22l0) ⟨[(0, .ow k 2 0 r.length), (1, .fn 23 [.pt q 1 0 0]), (5, iv w), (6, iv j)], hp, ck⟩ =
    some (.exit 0, ⟨[(0, .ow k 2 0 r.length), (1, .fn 23 [.pt q 1 0 0]), (5, iv ((w + ((r.drop j).filter (keepF seq)).length : Nat) : Int)), (6, iv r.length), (19, bv false)], hp', c⟩) := by
  intro m
  induction m with
  | zero =>
    intro j w r hp ck h hw hl hg hq _ _
    obtain rfl : j = r.length := by omega
    refine ⟨ck + 1, r, hp, by omega, rfl, by simp, hg, fun _ _ _ => rfl, ?_⟩
    rw [evL_loop]
    simp [f22l0e, filt_true]
  | succ m ih =>
    intro j w r hp ck h hwj hl hg hq hkc hqc
    have hj : j < r.length := by omega
    have hw6 : IntKind.i64.wrap ((j : Int) + 1) = (j : Int) + 1 := wrap_id (by omega) (by omega)
    have hw5 : IntKind.i64.wrap ((w : Int) + 1) = (w : Int) + 1 := wrap_id (by omega) (by omega)
    have hd : r.drop j = r[j] :: r.drop (j + 1) := List.drop_eq_getElem_cons hj
    have hwl : w < r.length := by omega
    have hnk : ∀ s d o : Nat, ¬ (⟨s, ck + d, o⟩ : Key) = k := fun s d o e => by have h := congrArg Key.c e; simp only at h; omega
    have hnq : ∀ s d o : Nat, ¬ (⟨s, ck + d, o⟩ : Key) = q := fun s d o e => by have h := congrArg Key.c e; simp only at h; omega
    have n1 := hnk 7 1 4
    have n2 := hnk 2 3 0
    have n3 := hnq 7 1 4
    have n4 := hnq 2 3 0
    have hr1 := fun (s : St) (kk : Key) hg hc => told1_pt r[j].1 seq r[j].2 q bt s kk hg hc
    have hgj : (fcs r)[j]? = some [.i .i64 r[j].1, .s r[j].2] := by simp [fcs, hj]
    have hgj' : ∀ h : j < (fcs r).length, (fcs r)[j] = [.i .i64 r[j].1, .s r[j].2] := fun h => by simp [fcs]
    have hwf' : ∀ h : w < (fcs r).length, (fcs r)[w] = [.i .i64 r[w].1, .s r[w].2] := fun h => by simp [fcs]
    have hlf : (fcs r).length = r.length := by simp [fcs]
    have hwf : (fcs r)[w]? = some [.i .i64 r[w].1, .s r[w].2] := by simp [fcs, hwl]
    have hqc' : q.c < ck + 1 + 1 + 1 := by omega
    by_cases hx : r[j].1 = seq
    · have hb : (r[j].1 == seq) = true := by simp [hx]
      have hf : (r.drop j).filter (keepF seq) = (r.drop (j + 1)).filter (keepF seq) := by rw [hd]; exact List.filter_cons_of_neg (by simp [keepF, hx])
      obtain ⟨c, r', hp', g0, g1, g2, g3, g4, g5⟩ := ih (j + 1) w r ((⟨2, ck + 3, 0⟩, .box 50 [.t (.i .i64 r[j].1), .t (.s r[j].2)]) :: (⟨7, ck + 1, 4⟩, .box 50 [.t (.i .i64 r[j].1), .t (.s r[j].2)]) :: hp) (ck + 8) (by omega) (by omega) hl (by simp only [HP.get, if_neg n1, if_neg n2]; exact hg) (by simp only [HP.get, if_neg n3, if_neg n4]; exact hq) (by omega) (by omega)
      refine ⟨c, r', hp', by omega, g1, by rw [hf]; exact g2, g3, fun p hpk hpc => ?_, ?_⟩
      · rw [g4 p hpk (by omega)]
        have m1 : ¬ (⟨2, ck + 3, 0⟩ : Key) = p := fun e => by have h := congrArg Key.c e; simp only at h; omega
        have m2 : ¬ (⟨7, ck + 1, 4⟩ : Key) = p := fun e => by have h := congrArg Key.c e; simp only at h; omega
        simp only [HP.get, if_neg m1, if_neg m2]
      · rw [hf, ← g5, evL_loop_n]
        simp only [hb] at hr1
        simp [f22l0e, hj, hb, hw6, hg, hq, hgj, hgj', hlf, hr1, n1, n2, n3, n4, hqc', hkq, filt_true, over, Nat.add_assoc]
    · have hb : (r[j].1 == seq) = false := by simp [hx]
      have hf : (r.drop j).filter (keepF seq) = r[j] :: (r.drop (j + 1)).filter (keepF seq) := by rw [hd]; exact List.filter_cons_of_pos (by simp [keepF, hx])
      have hset : (fcs r).set w [.i .i64 r[j].1, .s r[j].2] = fcs (r.set w r[j]) := by simp [fcs, List.map_set]
      obtain ⟨c, r', hp', g0, g1, g2, g3, g4, g5⟩ := ih (j + 1) (w + 1) (r.set w r[j]) ((⟨2, ck + 3, 0⟩, .box 50 [.t (.i .i64 r[j].1), .t (.s r[j].2)]) :: (⟨7, ck + 1, 4⟩, .box 50 [.t (.i .i64 r[j].1), .t (.s r[j].2)]) :: hp.put k k (.row ty 2 (fcs (r.set w r[j])) false)) (ck + 10) (by simp; omega) (by omega) (by simpa using hl) (by simp only [HP.get, if_neg n1, if_neg n2]; exact get_put_self hg) (by simp only [HP.get, if_neg n3, if_neg n4]; rw [get_put_ne (fun e => hkq e.symm)]; exact hq) (by omega) (by omega)
      have hdr : (r.set w r[j]).drop (j + 1) = r.drop (j + 1) := by
        rw [List.drop_set]; simp; omega
      rw [hdr] at g2 g5
      simp only [List.length_set] at g1 g2 g5
      have htk : (r.set w r[j]).take (w + 1) = r.take w ++ [r[j]] := by
        rw [List.take_succ_eq_append_getElem (by simpa using hwl)]
        simp [List.take_set_of_le]
      have hlen : w + ((r.drop j).filter (keepF seq)).length = w + 1 + ((r.drop (j + 1)).filter (keepF seq)).length := by rw [hf, List.length_cons]; omega
      refine ⟨c, r', hp', by omega, g1, ?_, g3, fun p hpk hpc => ?_, ?_⟩
      · rw [hlen, g2, htk, hf]; simp
      · rw [g4 p hpk (by omega)]
        have m1 : ¬ (⟨2, ck + 3, 0⟩ : Key) = p := fun e => by have h := congrArg Key.c e; simp only at h; omega
        have m2 : ¬ (⟨7, ck + 1, 4⟩ : Key) = p := fun e => by have h := congrArg Key.c e; simp only at h; omega
        simp only [HP.get, if_neg m1, if_neg m2]
        exact get_put_ne hpk
      · rw [hlen, ← g5, evL_loop_n]
        simp only [hb] at hr1
        simp [f22l0e, hj, hb, hw6, hw5, hg, hq, hgj, hgj', hwf, hwf', hlf, hr1, n1, n2, n3, n4, hqc', hkq, hwl, filt_true, over, treesC, treesOf, treeOf, keysOf, keysOf1, freezeAll, hset, Nat.add_assoc]
end Go.Proofs.Ytccnadleegcobaa.Pv
