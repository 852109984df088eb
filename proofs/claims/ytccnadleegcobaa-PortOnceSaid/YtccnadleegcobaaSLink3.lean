/- What link.Told tells: the whole. -/
import Derived.Test.YtccnadleegcobaaSLink2
set_option linter.unusedVariables false
set_option linter.unusedSimpArgs false
namespace Go.Proofs.Ytccnadleegcobaa.Pv
open Go Go.Pev

theorem delF_split (seq : Int) : ∀ fs : List Fr, fs.any (fun f => f.1 == seq) = true → fs.take (fs.findIdx (fun f => f.1 == seq)) ++ (fs.drop (fs.findIdx (fun f => f.1 == seq) + 1)).filter (keepF seq) = fs.filter (keepF seq)
  | [], h => by cases h
  | a :: fs, h => by
    by_cases e : (a.1 == seq) = true
    · rw [List.findIdx_cons, e]
      have : keepF seq a = false := by simp only [keepF, bne, e]; rfl
      simp [this]
    · have e' : (a.1 == seq) = false := by simpa using e
      have h' : fs.any (fun f => f.1 == seq) = true := by rw [List.any_cons, e'] at h; exact h
      have ih := delF_split seq fs h'
      have hk : keepF seq a = true := by simp only [keepF, bne, e']; rfl
      rw [List.findIdx_cons, e']
      simp only [cond_false, List.take_succ_cons, List.drop_succ_cons, List.cons_append, ih]
      rw [List.filter_cons_of_pos hk]

theorem delF_run (fs : List Fr) (seq : Int) (hl : fs.length ≤ 1000000) (k q : Key) (ty bt : Nat) (hkq : ¬ k = q) (hp : HP) (ck : Nat) (hg : hp.get k = some (.row ty 2 (fcs fs) false)) (hq : hp.get q = some (.box bt [.t (.i .i64 seq)])) (hkc : k.c < ck) (hqc : q.c < ck) :
    ∃ c hp', runL cfg 22 [.ow k 2 0 fs.length, .fn 23 [.pt q 1 0 0]] hp ck = some (.ow k 2 0 (fs.filter (keepF seq)).length, hp', c) ∧ hp'.get k = some (.row ty 2 (fcs (fs.filter (keepF seq))) false) ∧ ∀ p : Key, p ≠ k → p.c < ck → hp'.get p = hp.get p := by
  have n1 : ¬ (⟨4, ck, 0⟩ : Key) = k := fun e => by have h := congrArg Key.c e; simp only at h; omega
  have n2 : ¬ (⟨4, ck, 0⟩ : Key) = q := fun e => by have h := congrArg Key.c e; simp only at h; omega
  have hix := fun (s : St) (kk : Key) h1 h2 => ixF_call fs seq hl k q ty bt s kk h1 h2
  by_cases hx : fs.any (fun f => f.1 == seq) = true
  · have hidx : idxF fs seq = fs.findIdx (fun f => f.1 == seq) := by unfold idxF; rw [if_pos hx]
    have hil : fs.findIdx (fun f => f.1 == seq) < fs.length := by
      obtain ⟨f, hm, hf⟩ := List.any_eq_true.1 hx
      exact List.findIdx_lt_length_of_exists ⟨f, hm, hf⟩
    have hsp := delF_split seq fs hx
    generalize fs.findIdx (fun f => f.1 == seq) = i0 at *
    have hw : IntKind.i64.wrap ((i0 : Int) + 1) = (i0 : Int) + 1 := wrap_id (by omega) (by omega)
    obtain ⟨c, r', hp', g0, g1, g2, g3, g4, g5⟩ := delF_loop seq k q ty bt hkq (fs.length - (i0 + 1)) (i0 + 1) i0 fs ((⟨4, ck, 0⟩, .row 50 2 [] false) :: hp) (ck + 4) (by omega) (by omega) hl (by simp only [HP.get, if_neg n1]; exact hg) (by simp only [HP.get, if_neg n2]; exact hq) (by omega) (by omega)
    rw [hsp] at g2
    have hlen : i0 + ((fs.drop (i0 + 1)).filter (keepF seq)).length = (fs.filter (keepF seq)).length := by
      rw [← hsp, List.length_append, List.length_take, Nat.min_eq_left (by omega)]
    rw [hlen] at g2 g5
    have hn1 : ((i0 : Int) == -1) = false := by simp
    have hle : (fs.filter (keepF seq)).length ≤ fs.length := List.length_filter_le _ _
    have hclr : (fcs r').take (fs.filter (keepF seq)).length = fcs (fs.filter (keepF seq)) := by
      rw [← g2]; simp [fcs]
    have hlr : (fcs r').length = fs.length := by simp [fcs, g1]
    refine ⟨c + 2, hp'.put k k (.row ty 2 (fcs (fs.filter (keepF seq))) false), ?_, get_put_self g3, fun p hpk hpc => ?_⟩
    · rw [runL_pf (fn := f22) rfl rfl]
      simp only [iv, bv] at g5
      simp at g5
      simp [filt_true, hix, n1, n2, hg, hq, hidx, hn1, hw, g5, clr, g3, hle, hlr, hclr]
    · rw [get_put_ne hpk, g4 p hpk (by omega)]
      have m1 : ¬ (⟨4, ck, 0⟩ : Key) = p := fun e => by have h := congrArg Key.c e; simp only at h; omega
      simp only [HP.get, if_neg m1]
  · have hidx : idxF fs seq = -1 := by unfold idxF; rw [if_neg hx]
    have hfl : fs.filter (keepF seq) = fs := List.filter_eq_self.2 fun a ha => by
      have h0 : (a.1 == seq) = false := by
        rw [Bool.eq_false_iff]; intro h; exact hx (List.any_eq_true.2 ⟨a, ha, h⟩)
      simp only [keepF, bne, h0]; rfl
    rw [hfl]
    refine ⟨ck + 4, (⟨4, ck, 0⟩, .row 50 2 [] false) :: hp, ?_, by simp only [HP.get, if_neg n1]; exact hg, fun p hpk hpc => ?_⟩
    · rw [runL_pf (fn := f22) rfl rfl]
      simp [filt_true, hix, n1, n2, hg, hq, hidx]
    · have m1 : ¬ (⟨4, ck, 0⟩ : Key) = p := fun e => by have h := congrArg Key.c e; simp only at h; omega
      simp only [HP.get, if_neg m1]

theorem told_ret (next : Int) (fs : List Fr) (seq : Int) (hl : fs.length ≤ 100000) : RetT cfg 16 [.ag [iv next, .t (fl fs)], iv seq] (.ag [iv next, .t (fl (fs.filter (keepF seq)))]) := by
  have hcl := fun st k => callEv_tro (C := cfg) (clonef_ret (fs.map fun f => [.i .i64 f.1, .s f.2]) (fcs_two fs) (by simp; omega)) rfl rfl rfl st k
  obtain ⟨c, hp', h1, h2, h3⟩ := delF_run fs seq (by omega) ⟨7, 1, 2⟩ ⟨3, 0, 1⟩ 50 3 (by simp) [(⟨7, 1, 2⟩, .row 50 2 (fcs fs) false), (⟨4, 0, 2⟩, .box 25 [iv 0, .nl]), (⟨3, 0, 1⟩, .box 3 [iv seq]), (⟨2, 0, 0⟩, .box 25 [iv next, .t (fl fs)])] 2 (by simp) (by simp) (by simp) (by simp)
  have hdE := fun (env : Env) (k : Key) => callEv_h (C := cfg) (s := ⟨env, _, 1⟩) rfl h1 k
  have g2 : hp'.get ⟨2, 0, 0⟩ = some (.box 25 [iv next, .t (fl fs)]) := by rw [h3 _ (by simp) (by simp)]; simp
  have g4 : hp'.get ⟨4, 0, 2⟩ = some (.box 25 [iv 0, .nl]) := by rw [h3 _ (by simp) (by simp)]; simp
  have p1 : ∀ o, (hp'.put ⟨2, 0, 0⟩ ⟨2, 0, 0⟩ o).get ⟨2, 0, 0⟩ = some o := fun o => get_put_self g2
  have p2 : ∀ o, (hp'.put ⟨2, 0, 0⟩ ⟨2, 0, 0⟩ o).get ⟨4, 0, 2⟩ = some (.box 25 [iv 0, .nl]) := fun o => by rw [get_put_ne (by simp)]; exact g4
  have p3 : ∀ o o', ((hp'.put ⟨2, 0, 0⟩ ⟨2, 0, 0⟩ o).put ⟨4, 0, 2⟩ ⟨4, 0, 2⟩ o').get ⟨4, 0, 2⟩ = some o' := fun o o' => get_put_self (p2 o)
  have p4 : ∀ o o', ((hp'.put ⟨2, 0, 0⟩ ⟨2, 0, 0⟩ o).put ⟨4, 0, 2⟩ ⟨4, 0, 2⟩ o').get ⟨7, 1, 2⟩ = some (.row 50 2 (fcs (fs.filter (keepF seq))) false) := fun o o' => by
    rw [get_put_ne (by simp), get_put_ne (by simp)]; exact h2
  unfold RetT
  rw [runL_pf (fn := f16) rfl rfl]
  simp only [fl, fcs, iv, bv, List.length_map] at hcl hdE g2 g4 p2
  simp [fl, hcl, hdE, g2, g4, p1, p2, p3, p4, filt_true, over]
  refine ⟨_, _, ⟨rfl, rfl⟩, ?_⟩
  simp only [resOf, resOf1, treesOf]
  rw [treeOf_ow (p4 _ _) (by simp [fcs])]
  simp [treeOf, fl, fcs]
end Go.Proofs.Ytccnadleegcobaa.Pv
