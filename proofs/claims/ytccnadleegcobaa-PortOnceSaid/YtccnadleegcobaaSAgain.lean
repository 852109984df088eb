/- What port.Again tells. -/
import Derived.Test.YtccnadleegcobaaSNet
set_option linter.unusedVariables false
set_option linter.unusedSimpArgs false
namespace Go.Proofs.Ytccnadleegcobaa.Pv
open Go Go.Pev

def agF (q : List Fr) : List (List UInt8) := (q.filter fun f => decide (packOk 68 f.1 f.2)).map fun f => packR 68 f.1 f.2
theorem agF_drop {q : List Fr} {j : Nat} (h : j < q.length) : agF (q.drop j) = (if packOk 68 q[j].1 q[j].2 then [packR 68 q[j].1 q[j].2] else []) ++ agF (q.drop (j + 1)) := by
  rw [List.drop_eq_getElem_cons h]
  unfold agF
  rw [List.filter_cons]
  by_cases c : packOk 68 q[j].1 q[j].2
  · rw [if_pos (by simpa using c), if_pos c]; rfl
  · rw [if_neg (by simpa using c), if_neg c]; rfl
set_option maxHeartbeats 1000000 in
theorem again_loop (q : List Fr) (hl : q.length ≤ 100000) (ht : ∀ f ∈ q, f.2.length ≤ 900000) : ∀ (m j c o ck : Nat) (acc : List (List UInt8)), j + m = q.length → acc.length ≤ j → ∃ c' o' ck' tl, evL cfg (.loop f6l0) ⟨[(3, .ow ⟨3, c, o⟩ 1 0 acc.length), (10, .t (fl q)), (11, iv q.length), (12, iv j)], [(⟨3, c, o⟩, .row 9 1 (slc acc) false)], ck⟩ =
    some (.exit 0, ⟨[(3, .ow ⟨3, c', o'⟩ 1 0 (acc ++ agF (q.drop j)).length), (10, .t (fl q)), (11, iv q.length), (12, iv q.length)] ++ tl, [(⟨3, c', o'⟩, .row 9 1 (slc (acc ++ agF (q.drop j))) false)], ck'⟩) := by
  intro m
  induction m with
  | zero =>
    intro j c o ck acc h ha
    obtain rfl : j = q.length := by omega
    refine ⟨c, o, ck + 1, [(13, bv false)], ?_⟩
    rw [evL_loop]
    have hd : q.drop q.length = [] := List.drop_eq_nil_of_le (Nat.le_refl _)
    rw [hd]
    simp [f6l0e, agF]
  | succ m ih =>
    intro j c o ck acc h ha
    have hlt : j < q.length := by omega
    have hw : IntKind.i64.wrap ((j : Int) + 1) = (j : Int) + 1 := wrap_id (by omega) (by omega)
    have hx : (q.map fun f => ([T.i .i64 f.1, .s f.2] : List T))[j]? = some [.i .i64 q[j].1, .s q[j].2] := by simp [hlt]
    have hp := fun s k => callEv_tr (C := cfg) (pack_ret 68 q[j].1 q[j].2 (ht _ (List.getElem_mem hlt))) rfl rfl rfl s k
    have h68 : ((68 : UInt8).toNat : Int) = 68 := rfl
    simp only [iv, h68] at hp
    rw [agF_drop hlt]
    by_cases e : packOk 68 q[j].1 q[j].2
    · rw [if_pos e] at hp ⊢
      obtain ⟨c', o', ck', tl, hc⟩ := ih (j + 1) (ck + 4) 3 (ck + 6) (acc ++ [packR 68 q[j].1 q[j].2]) (by omega) (by simp; omega)
      rw [List.append_assoc] at hc
      refine ⟨c', o', ck', tl, ?_⟩
      have hb : (acc.length + 1) * 16 ≤ 140737488355328 := by omega
      rw [evL_loop_n (s1 := ⟨[(3, .ow ⟨3, ck + 4, 3⟩ 1 0 (acc ++ [packR 68 q[j].1 q[j].2]).length), (10, .t (fl q)), (11, iv q.length), (12, iv ((j + 1 : Nat) : Int))], [(⟨3, ck + 4, 3⟩, .row 9 1 (slc (acc ++ [packR 68 q[j].1 q[j].2])) false)], ck + 6⟩), hc]
      have e3 : slc (acc ++ [packR 68 q[j].1 q[j].2]) = slc acc ++ [[.s (packR 68 q[j].1 q[j].2)]] := by simp [slc]
      generalize packR 68 q[j].1 q[j].2 = P at hp e3 ⊢
      simp [f6l0e, fl, hlt, hw, hx, hp, over, slc_len, rowsOf, treesC, treesOf, treeOf, keysOfs, freezeAll, app, elsOf, hb, e3]
    · rw [if_neg e] at hp ⊢
      obtain ⟨c', o', ck', tl, hc⟩ := ih (j + 1) c o (ck + 5) acc (by omega) (by omega)
      refine ⟨c', o', ck', tl, ?_⟩
      rw [List.nil_append]
      rw [evL_loop_n (s1 := ⟨[(3, .ow ⟨3, c, o⟩ 1 0 acc.length), (10, .t (fl q)), (11, iv q.length), (12, iv ((j + 1 : Nat) : Int))], [(⟨3, c, o⟩, .row 9 1 (slc acc) false)], ck + 5⟩), hc]
      generalize packR 68 q[j].1 q[j].2 = P at hp ⊢
      simp [f6l0e, fl, hlt, hw, hx, hp, over]
theorem again_ret (p : Prt) (hl : p.q.length ≤ 100000) (ht : ∀ f ∈ p.q, f.2.length ≤ 900000) : RetT cfg 6 [prV p] (.t (sl (agF p.q))) := by
  obtain ⟨next, q, low, seen⟩ := p
  simp only at hl ht ⊢
  rw [retT_r, runL_pf (fn := f6) rfl rfl]
  obtain ⟨c', o', ck', tl, hc⟩ := again_loop q hl ht q.length 0 1 0 3 [] (by omega) (by simp)
  rw [List.drop_zero, List.nil_append] at hc
  simp only [iv, Int.natCast_zero] at hc
  have htk : (slc (agF q)).take (agF q).length = slc (agF q) := List.take_of_length_le (by rw [slc_len]; omega)
  simp [slc, fl] at hc
  simp [prV, hc, slc, sl, fl, resOf, resOf1, treeOf]
  exact htk
end Go.Proofs.Ytccnadleegcobaa.Pv
