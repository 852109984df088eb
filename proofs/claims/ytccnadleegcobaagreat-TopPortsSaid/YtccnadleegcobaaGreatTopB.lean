/- What the functions of these laws tell (made by mergecom.py out of SCut LTop LTop2 SSmall SRefM SSame SSame15 LTop3 ArgsI LTop4 LTop5). -/
import Derived.Test.YtccnadleegcobaaGreatTopA
import Derived.Test.YtccnadleegcobaaGreatPevC
set_option linter.unusedVariables false
set_option linter.unusedSimpArgs false
section
/- What chunk.Cut, chunk.Join, the documents' Join and Same tell. -/
namespace Go.Proofs.YtccnadleegcobaaGreat.Pv
open Go Go.Pev

theorem cut_loop (k : Nat) (hk : 1 ≤ k ∧ k ≤ 64) : ∀ (f : Nat) (s : List UInt8) (acc : List (List UInt8)) (c o ck : Nat), s.length ≤ f → acc.length + f ≤ 1000000 → ∃ c' o' ck', evL cfg (.loop f8l0) ⟨[(0, .t (.s s)), (1, iv k), (6, .ow ⟨6, c, o⟩ 1 0 acc.length)], [(⟨6, c, o⟩, .row 9 1 (acc.map fun y => [.s y]) false)], ck⟩ =
    some (.exit 0, ⟨[(0, .t (.s [])), (1, iv k), (6, .ow ⟨6, c', o'⟩ 1 0 (acc ++ cut k s).length), (16, bv false)], [(⟨6, c', o'⟩, .row 9 1 ((acc ++ cut k s).map fun y => [.s y]) false)], ck'⟩) := by
  intro f
  induction f with
  | zero =>
    intro s acc c o ck hs _
    obtain rfl : s = [] := List.eq_nil_of_length_eq_zero (by omega)
    refine ⟨c, o, ck + 1, ?_⟩
    rw [evL_loop, cut_nil]
    simp [f8l0e]
  | succ f ih =>
    intro s acc c o ck hs hf
    by_cases hz : s = []
    · subst hz
      refine ⟨c, o, ck + 1, ?_⟩
      rw [evL_loop, cut_nil]
      simp [f8l0e]
    · have hp : 0 < s.length := List.length_pos_iff.2 hz
      obtain ⟨c', o', ck', hc⟩ := ih (s.drop k) (acc ++ [s.take k]) (ck + 2) 5 (ck + 4) (by rw [List.length_drop]; omega) (by rw [List.length_append, List.length_singleton]; omega)
      refine ⟨c', o', ck', ?_⟩
      have hap : acc ++ cut k s = (acc ++ [s.take k]) ++ cut k (s.drop k) := by rw [cut_cons hk.1 hz]; simp
      rw [hap, ← hc, evL_loop_n]
      have hby : (acc.length + 1) * 16 ≤ 140737488355328 := by omega
      have hd : decide (0 < s.length) = true := decide_eq_true hp
      by_cases hlt : s.length < k
      · have ht : s.take k = s := List.take_of_length_le (by omega)
        have hdr : s.drop k = [] := List.drop_of_length_le (by omega)
        rw [ht, hdr]
        have hli : (s.length : Int) < (k : Int) := by omega
        simp [f8l0e, hd, minmax, hli, hlt, rowsOf, keysOfs, treesC, treesOf, treeOf, freezeAll, app, elsOf, hby, hp]
      · have hli : ¬ (s.length : Int) < (k : Int) := by omega
        have hkl : k ≤ s.length := by omega
        simp [f8l0e, hd, minmax, hli, hlt, hkl, rowsOf, keysOfs, treesC, treesOf, treeOf, freezeAll, app, elsOf, hby, hp]

def cutR (s : List UInt8) (size : Int) : List (List UInt8) := if 1 ≤ size ∧ size ≤ 64 then cut size.toNat s else []
theorem cut_ret (s : List UInt8) (size : Int) (hl : s.length ≤ 100000) : RetT cfg 8 [.t (.s s), iv size] (.tu [.t (sl (cutR s size)), bv (decide (1 ≤ size ∧ size ≤ 64))]) := by
  unfold RetT
  rw [runL_pf (fn := f8) rfl rfl]
  by_cases h1 : size < 1
  · have e1 : cutR s size = [] := by unfold cutR; rw [if_neg (by omega)]
    have e2 : decide (1 ≤ size ∧ size ≤ 64) = false := decide_eq_false (by omega)
    rw [e1, e2]
    simp [h1]
    refine ⟨_, _, ⟨rfl, rfl⟩, ?_⟩
    simp [resOf, resOfs, resOf1, treesOf, treeOf, sl]
  · have d1 : decide (size < 1) = false := decide_eq_false h1
    by_cases h2 : 64 < size
    · have e1 : cutR s size = [] := by unfold cutR; rw [if_neg (by omega)]
      have e2 : decide (1 ≤ size ∧ size ≤ 64) = false := decide_eq_false (by omega)
      have d2 : decide (64 < size) = true := decide_eq_true h2
      rw [e1, e2]
      simp [d1, d2]
      refine ⟨_, _, ⟨rfl, rfl⟩, ?_⟩
      simp [resOf, resOfs, resOf1, treesOf, treeOf, sl]
    · have d2 : decide (64 < size) = false := decide_eq_false h2
      obtain ⟨k, rfl⟩ : ∃ k : Nat, size = k := ⟨size.toNat, by omega⟩
      have e1 : cutR s k = cut k s := by unfold cutR; rw [if_pos (by omega)]; rfl
      have e2 : decide (1 ≤ (k : Int) ∧ (k : Int) ≤ 64) = true := decide_eq_true (by omega)
      rw [e1, e2]
      obtain ⟨c', o', ck', hc⟩ := cut_loop k (by omega) s.length s [] 2 0 3 (Nat.le_refl _) (by simp; omega)
      simp only [iv, bv, List.nil_append, List.length_nil, List.map_nil] at hc
      have d3 : decide (k < 1) = false := decide_eq_false (by omega)
      simp [d1, d2, hc]
      refine ⟨_, _, ⟨rfl, rfl⟩, ?_⟩
      simp [resOf, resOfs, resOf1, treesOf, treeOf, sl]
      try exact List.take_of_length_le (by simp)

/-- The texts, one behind the other. -/
theorem cjoin_ret (l : List (List UInt8)) (h1 : l.length ≤ 1000000) (h2 : l.flatten.length ≤ 1000000) : RetT cfg 13 [.t (sl l)] (.t (.s l.flatten)) := by
  have hj : RetT cfg 29 [.t (sl l), .t (.s [])] (.t (.s l.flatten)) := by
    refine RetT.of ⟨[], 1, ?_⟩
    rw [runL_ex (p := joinP) rfl]
    unfold joinP
    simp only [sl, strsOf_map]
    rw [if_pos (by rw [join_nil_eq]; omega), join_nil_eq]
  have hc := fun s k => callEv_tr (C := cfg) hj rfl rfl rfl s k
  simp only [sl] at hc
  refine RetT.of ?_
  rw [runL_pf (fn := f13) rfl rfl]
  simp [sl, hc]

/-! ### is a bool in a row? -/
end Go.Proofs.YtccnadleegcobaaGreat.Pv
end

section
/- TopPorts, reckoned: the pieces go out. -/
set_option maxRecDepth 10000
namespace Go.Proofs.YtccnadleegcobaaGreat.Pv
open Go Go.Pev

def prC (p : Prt) (v1 v2 : V) : List V := [.t (.i .i64 p.next), v1, .t (.i .i64 p.low), v2]
abbrev hT (cnt : List Int) (got : List (List UInt8)) (bc ac XB : List V) : HP := [(⟨76, 6, 2⟩, .row 3 1 (cl cnt) false), (⟨73, 5, 2⟩, .row 9 1 (slcA got) false), (⟨14, 4, 1⟩, .box 42 bc), (⟨13, 4, 0⟩, .box 42 ac), (⟨4, 0, 0⟩, .box 24 XB)]
abbrev eT (d : V) (z : Int) (l : List (List UInt8)) (i : Nat) : Env := [(1, d), (3, .t (.i .u64 z)), (4, .pt ⟨4, 0, 0⟩ 2 0 0), (11, .t (slA l)), (12, bv true), (13, .pt ⟨13, 4, 0⟩ 4 0 0), (14, .pt ⟨14, 4, 1⟩ 4 0 0), (15, .ow ⟨73, 5, 2⟩ 1 0 l.length), (16, .ow ⟨76, 6, 2⟩ 1 0 l.length), (77, .t (slA l)), (78, iv l.length), (79, iv i)]
def shZ (z : Int) (i : Nat) : Int := Int.fdiv z (2 ^ i)
def andZ (z : Int) (i : Nat) : Int := IntKind.u64.wrap ((BitVec.ofInt 64 (shZ z i) &&& BitVec.ofInt 64 1).toNat : Int)
def lostZ (z : Int) (i : Nat) : Bool := andZ z i == 1
theorem sh_at (z : Int) (i : Nat) (hi : i ≤ 64) : bin .shr (.t (.i .u64 z)) (.t (.i .i64 (i : Int))) = some (.t (.i .u64 (shZ z i))) := by
  rw [bin_shr]
  show (if (i : Int) < 0 then none else some (V.t (.i .u64 (Int.fdiv z (2 ^ (min (i : Int).toNat 64)))))) = _
  rw [if_neg (by omega), Int.toNat_natCast, Nat.min_eq_left hi]; rfl
theorem and_at (z : Int) (i : Nat) : bin .and (.t (.i .u64 (shZ z i))) (.t (.i .u64 1)) = some (.t (.i .u64 (andZ z i))) := by
  rw [bin_and]; rfl
structure PBt (p : Prt) : Prop where
  q : p.q.length ≤ 100
  low : I64' p.low
  sl : p.seen.length ≤ 100
  seen : ∀ n ∈ p.seen, I64' n
theorem SI.pb {i : Nat} {a : Prt} (h : SI i a) (hi : i ≤ 17) : PBt a := ⟨by have := h.len; omega, by rw [h.low]; exact ⟨by omega, by omega⟩, by rw [h.seen]; simp, by rw [h.seen]; simp⟩
theorem RI.pb {D : Nat → Bool} {b : Prt} (h : RI D b) : PBt b := by
  obtain ⟨w1, w2, w3, w4, w5⟩ := h.win
  exact ⟨by rw [h.q]; simp, ⟨by omega, by omega⟩, by omega, fun n hn => by have := w4 n hn; exact ⟨by omega, by omega⟩⟩
theorem slcA_get {l : List (List UInt8)} {i : Nat} (h : i < l.length) : (slcA l)[i]? = some [.s l[i]] := by simp [slcA, h]
theorem tP_at {l : List (List UInt8)} {i : Nat} (h : i < l.length) : tP l i = UInt8.ofNat i :: l[i] := by simp [tP, List.getD_eq_getElem?_getD, h]
set_option maxHeartbeats 4000000 in
theorem top_step_lost (d : V) (z : Int) (l : List (List UInt8)) (XB : List V) (hN : l.length ≤ 17) (hl : ∀ t ∈ l, t.length ≤ 100) {i : Nat} {a b : Prt} (h : TI l (lostZ z) i a b) (hi : i < l.length) (hL : lostZ z i = true) (v1 v2 u1 u2 : V) (hv1 : Nv (fl a.q) v1) (hv2 : Nv (il a.seen) v2) (cnt : List Int) (got : List (List UInt8)) (ck : Nat) : ∃ ck', evL cfg f3l0 ⟨eT d z l i, hT cnt got (prC b u1 u2) (prC a v1 v2) XB, ck⟩ = some (.normal, ⟨eT d z l (i + 1), hT cnt got (prC b u1 u2) (prC { a with next := a.next + 1, q := a.q ++ [((i : Int), tP l i)] } (.t (fl (a.q ++ [((i : Int), tP l i)]))) (.t (il a.seen))) XB, ck'⟩) := by
  have hpb := h.sa.pb (by omega)
  have hti := hl _ (List.getElem_mem hi)
  have hS := fun s k => send_call (p := a) hv1 hv2 (tP l i) (by have := hpb.q; omega) (by rw [tP_at hi]; simp; omega) s k
  rw [(si_send h.sa (by omega) (tP l i)).1] at hS
  rw [tP_at hi] at hS ⊢
  have hg := slcA_get hi
  have hltI : (i : Int) < l.length := by omega
  have w8i : IntKind.u8.wrap (i : Int) = (i : Int) := by rw [IntKind.wrap_u8]; omega
  have hsh := sh_at z i (by omega)
  have hand := and_at z i
  have hL' : (andZ z i == 1) = true := hL
  have htm : Int.tmod (i : Int) 64 = (i : Int) := by rw [Int.tmod_eq_emod_of_nonneg (by omega)]; omega
  have hw : IntKind.i64.wrap ((i : Int) + 1) = (i : Int) + 1 := wrap_id (by omega) (by omega)
  have hof : UInt8.ofNat ((i : Int)).toNat = UInt8.ofNat i := by rw [Int.toNat_natCast]
  have hlen2 : ¬ (9223372036854775807 : Int) < 1 + (l[i].length : Int) := by omega
  refine ⟨ck + 7, ?_⟩
  simp only [sendV, prV, iv, bv] at hS
  generalize a.q ++ [((i : Int), UInt8.ofNat i :: l[i])] = Q at hS ⊢
  generalize packR 68 (i : Int) (UInt8.ofNat i :: l[i]) = pk at hS
  have hgi : (slcA l)[i]'(by rw [slcA_len]; exact hi) = [.s l[i]] := by simp [slcA]
  have hsl := slcA_len l
  simp [f3l0e, slA, prC, hsl, hi, hltI, hg, hgi, w8i, hof, rowsOf, keysOfs, treesC, treesOf, treeOf, freezeAll, elsOf, u8s, i64max, hlen2, hS, over, htm, hsh, hand, hL', hw, -bin_shr, -bin_and]

set_option maxHeartbeats 8000000 in
theorem top_step_here (d : V) (z : Int) (l : List (List UInt8)) (XB : List V) (hN : l.length ≤ 17) (hl : ∀ t ∈ l, t.length ≤ 100) {i : Nat} {a b : Prt} (h : TI l (lostZ z) i a b) (hi : i < l.length) (hL : lostZ z i = false) (v1 v2 u1 u2 : V) (hv1 : Nv (fl a.q) v1) (hv2 : Nv (il a.seen) v2) (hu1 : Nv (fl b.q) u1) (hu2 : Nv (il b.seen) u2) (ck : Nat) : ∃ ck', ∃ a2 b2 : Prt, TI l (lostZ z) (i + 1) a2 b2 ∧ evL cfg f3l0 ⟨eT d z l i, hT (cntL l (hereD (lostZ z) i)) (gotL l (hereD (lostZ z) i)) (prC b u1 u2) (prC a v1 v2) XB, ck⟩ = some (.normal, ⟨eT d z l (i + 1), hT (cntL l (hereD (lostZ z) (i + 1))) (gotL l (hereD (lostZ z) (i + 1))) (prC b2 (.t (fl b2.q)) (.t (il b2.seen))) (prC a2 (.t (fl a2.q)) (.t (il a2.seen))) XB, ck'⟩) := by
  have hnext := ti_here l (lostZ z) h (by omega) hL
  have hgot : gotL l (hereD (lostZ z) (i + 1)) = (gotL l (hereD (lostZ z) i)).set i l[i] := by rw [hereD_here _ hL, gotL_add l hi]; simp [List.getD_eq_getElem?_getD, hi]
  have hcnt : cntL l (hereD (lostZ z) (i + 1)) = (cntL l (hereD (lostZ z) i)).set i 1 := by rw [hereD_here _ hL, cntL_add l hi]
  have hc0 := cntL_at l hi (hereD_self (lostZ z) i)
  have hgl := gotL_len l (hereD (lostZ z) i)
  have hcl := cntL_len l (hereD (lostZ z) i)
  have hpb := h.sa.pb (by omega)
  have hpbb := h.sb.pb
  have hti := hl _ (List.getElem_mem hi)
  have hS := fun s k => send_call (p := a) hv1 hv2 (tP l i) (by have := hpb.q; omega) (by rw [tP_at hi]; simp; omega) s k
  rw [(si_send h.sa (by omega) (tP l i)).1] at hS
  have hsi := (si_send h.sa (by omega) (tP l i)).2
  have hR := fun s k => recv_call (p := b) hu1 hu2 (packR 68 i (tP l i)) (by have := hpbb.q; omega) (by have := packR_len (kind := 68) (seq := i) (t := tP l i); rw [tP_at hi] at this ⊢; simp at this; omega) hpbb.low (by have := hpbb.sl; omega) hpbb.seen s k
  rw [(ri_recv h.sb (by omega) (hereD_self (lostZ z) i) (tP l i)).1] at hR
  have hpb2 := hsi.pb (by omega)
  have hT2 := fun s k => recv_call (p := { a with next := a.next + 1, q := a.q ++ [((i : Int), tP l i)] }) (.inl rfl) (.inl rfl) (packR 65 i []) (by have := hpb2.q; omega) (by have := packR_len (kind := 65) (seq := i) (t := []); simp at this; omega) hpb2.low (by have := hpb2.sl; omega) hpb2.seen s k
  rw [(si_told hsi (by omega)).1] at hT2
  rw [tP_at hi] at hS hR hT2 hnext
  generalize (recvP b (packR 68 (i : Int) (UInt8.ofNat i :: l[i]))).1 = b2 at hR hnext
  refine ⟨ck + 13, _, b2, hnext, ?_⟩
  rw [hgot, hcnt]
  generalize cntL l (hereD (lostZ z) i) = cnt at *
  generalize gotL l (hereD (lostZ z) i) = got at *
  have hg := slcA_get hi
  have hltI : (i : Int) < l.length := by omega
  have w8i : IntKind.u8.wrap (i : Int) = (i : Int) := by rw [IntKind.wrap_u8]; omega
  have hsh := sh_at z i (by omega)
  have hand := and_at z i
  have hL' : (andZ z i == 1) = false := hL
  have htm : Int.tmod (i : Int) 64 = (i : Int) := by rw [Int.tmod_eq_emod_of_nonneg (by omega)]; omega
  have hw : IntKind.i64.wrap ((i : Int) + 1) = (i : Int) + 1 := wrap_id (by omega) (by omega)
  have hof : UInt8.ofNat ((i : Int)).toNat = UInt8.ofNat i := by rw [Int.toNat_natCast]
  have hun : (UInt8.ofNat i).toNat = i := by rw [UInt8.toNat_ofNat']; exact Nat.mod_eq_of_lt (by omega)
  have hwi : IntKind.i64.wrap (i : Int) = (i : Int) := wrap_id (by omega) (by omega)
  have hlen2 : ¬ (9223372036854775807 : Int) < 1 + (l[i].length : Int) := by omega
  have hni : ¬ (l.length : Int) ≤ i := by omega
  have hw1 : IntKind.i64.wrap (0 + 1) = 1 := rfl
  have hc1 : (cl cnt)[i]? = some [.i .i64 0] := by simp [cl, hc0]
  have hg1 : ∃ y, (slcA got)[i]? = some [.s y] := ⟨got[i]'(by omega), by simp [slcA, show i < got.length by omega]⟩
  obtain ⟨y, hg1⟩ := hg1
  have hc1' := (List.getElem?_eq_some_iff.1 hc1).2
  have hg1' := (List.getElem?_eq_some_iff.1 hg1).2
  have hcs : (cl cnt).set i [.i .i64 1] = cl (cnt.set i 1) := by simp [cl, List.map_set]
  have hgs : (slcA got).set i [.s l[i]] = slcA (got.set i l[i]) := by simp [slcA, List.map_set]
  have hgi : (slcA l)[i]'(by rw [slcA_len]; exact hi) = [.s l[i]] := by simp [slcA]
  have hsl := slcA_len l
  simp only [sendV, recvV, prV, iv, bv] at hS hR
  simp only [sendV, recvV, prV, iv, bv, il] at hT2
  have hw1' : IntKind.i64.wrap 1 = 1 := rfl
  generalize ((a.q ++ [((i : Int), UInt8.ofNat i :: l[i])]).filter (keepF i)) = Q2 at *
  generalize a.q ++ [((i : Int), UInt8.ofNat i :: l[i])] = Q at *
  generalize packR 68 (i : Int) (UInt8.ofNat i :: l[i]) = pk at hS hR
  generalize packR 65 (i : Int) [] = bk at hR hT2
  have hlen4 : (1 : Int) ≤ (l[i].length : Int) + 1 := by omega
  have hlen3 : ¬ (l[i].length : Int) + 1 < 1 := by omega
  have hccl : (cl cnt).length = l.length := by simp [cl, hcl]
  have hggl : (slcA got).length = l.length := by rw [slcA_len, hgl]
  simp [f3l0e, slA, prC, hsl, hi, hltI, hg, hgi, w8i, hof, hun, hwi, hni, rowsOf, keysOf, keysOfs, treesC, treesOf, treeOf, freezeAll, elsOf, u8s, i64max, hlen2, hlen3, hlen4, hccl, hggl, hS, hR, hT2, over, htm, hsh, hand, hL', hw, hw1, hw1', hc1, hg1, hc1', hg1', hcs, hgs, -bin_shr, -bin_and]
end Go.Proofs.YtccnadleegcobaaGreat.Pv
end

section
/- TopPorts, reckoned: the loops. -/
set_option maxRecDepth 10000
namespace Go.Proofs.YtccnadleegcobaaGreat.Pv
open Go Go.Pev

theorem top_loop0 (d : V) (z : Int) (l : List (List UInt8)) (XB : List V) (hN : l.length ≤ 17) (hl : ∀ t ∈ l, t.length ≤ 100) : ∀ (k i : Nat) (a b : Prt) (v1 v2 u1 u2 : V) (ck : Nat), i + k = l.length → TI l (lostZ z) i a b → Nv (fl a.q) v1 → Nv (il a.seen) v2 → Nv (fl b.q) u1 → Nv (il b.seen) u2 → ∃ ck' tl, ∃ a2 b2 : Prt, ∃ w1 w2 x1 x2, TI l (lostZ z) l.length a2 b2 ∧ Nv (fl a2.q) w1 ∧ Nv (il a2.seen) w2 ∧ Nv (fl b2.q) x1 ∧ Nv (il b2.seen) x2 ∧ evL cfg (.loop f3l0) ⟨eT d z l i, hT (cntL l (hereD (lostZ z) i)) (gotL l (hereD (lostZ z) i)) (prC b u1 u2) (prC a v1 v2) XB, ck⟩ =
    some (.exit 0, ⟨eT d z l l.length ++ tl, hT (cntL l (hereD (lostZ z) l.length)) (gotL l (hereD (lostZ z) l.length)) (prC b2 x1 x2) (prC a2 w1 w2) XB, ck'⟩) := by
  intro k
  induction k with
  | zero =>
    intro i a b v1 v2 u1 u2 ck hi h h1 h2 h3 h4
    obtain rfl : i = l.length := by omega
    refine ⟨ck + 1, [(80, bv false)], a, b, v1, v2, u1, u2, h, h1, h2, h3, h4, ?_⟩
    rw [evL_loop]
    simp [f3l0e]
  | succ k ih =>
    intro i a b v1 v2 u1 u2 ck hi h h1 h2 h3 h4
    have hlt : i < l.length := by omega
    cases hL : lostZ z i with
    | true =>
      obtain ⟨ck1, hs⟩ := top_step_lost d z l XB hN hl h hlt hL v1 v2 u1 u2 h1 h2 (cntL l (hereD (lostZ z) i)) (gotL l (hereD (lostZ z) i)) ck
      have hn := ti_lost l (lostZ z) h (by omega) hL
      obtain ⟨ck2, tl, a2, b2, w1, w2, x1, x2, g1, g2, g3, g4, g5, g6⟩ := ih (i + 1) _ b (.t (fl (a.q ++ [((i : Int), tP l i)]))) (.t (il a.seen)) u1 u2 ck1 (by omega) hn (.inl rfl) (.inl rfl) h3 h4
      refine ⟨ck2, tl, a2, b2, w1, w2, x1, x2, g1, g2, g3, g4, g5, ?_⟩
      rw [evL_loop_n hs, ← g6, hereD_lost _ hL]
    | false =>
      obtain ⟨ck1, a1, b1, hn, hs⟩ := top_step_here d z l XB hN hl h hlt hL v1 v2 u1 u2 h1 h2 h3 h4 ck
      obtain ⟨ck2, tl, a2, b2, w1, w2, x1, x2, g1, g2, g3, g4, g5, g6⟩ := ih (i + 1) a1 b1 (.t (fl a1.q)) (.t (il a1.seen)) (.t (fl b1.q)) (.t (il b1.seen)) ck1 (by omega) hn (.inl rfl) (.inl rfl) (.inl rfl) (.inl rfl)
      refine ⟨ck2, tl, a2, b2, w1, w2, x1, x2, g1, g2, g3, g4, g5, ?_⟩
      rw [evL_loop_n hs, g6]
/-! ### sent again -/
abbrev hT2 (cnt : List Int) (got : List (List UInt8)) (bc XB : List V) : HP := [(⟨76, 6, 2⟩, .row 3 1 (cl cnt) false), (⟨73, 5, 2⟩, .row 9 1 (slcA got) false), (⟨14, 4, 1⟩, .box 42 bc), (⟨4, 0, 0⟩, .box 24 XB)]
abbrev eT2 (d : V) (l P : List (List UInt8)) (k : Nat) : Env := [(1, d), (4, .pt ⟨4, 0, 0⟩ 2 0 0), (11, .t (slA l)), (12, bv true), (14, .pt ⟨14, 4, 1⟩ 4 0 0), (15, .ow ⟨73, 5, 2⟩ 1 0 l.length), (16, .ow ⟨76, 6, 2⟩ 1 0 l.length), (158, .t (slA P)), (159, iv P.length), (160, iv k)]
set_option maxHeartbeats 8000000 in
theorem top_step2 (d : V) (L : Nat → Bool) (l P : List (List UInt8)) (XB : List V) (hN : l.length ≤ 17) (hl : ∀ t ∈ l, t.length ≤ 100) {k n : Nat} {b : Prt} (D : Nat → Bool) (hb : RI D b) (hn : n < l.length) (hD : D n = false) (hk : k < P.length) (hP : P[k] = packR 68 n (tP l n)) (hPl : P.length ≤ 100) (u1 u2 : V) (hu1 : Nv (fl b.q) u1) (hu2 : Nv (il b.seen) u2) (ck : Nat) : ∃ ck', ∃ b2 : Prt, RI (addD D n) b2 ∧ evL cfg f3l1 ⟨eT2 d l P k, hT2 (cntL l D) (gotL l D) (prC b u1 u2) XB, ck⟩ = some (.normal, ⟨eT2 d l P (k + 1), hT2 (cntL l (addD D n)) (gotL l (addD D n)) (prC b2 (.t (fl b2.q)) (.t (il b2.seen))) XB, ck'⟩) := by
  have hgot : gotL l (addD D n) = (gotL l D).set n l[n] := by rw [gotL_add l hn]; simp [List.getD_eq_getElem?_getD, hn]
  have hcnt : cntL l (addD D n) = (cntL l D).set n 1 := cntL_add l hn
  have hc0 := cntL_at l hn hD
  have hgl := gotL_len l D
  have hcl := cntL_len l D
  have hpbb := hb.pb
  have hti := hl _ (List.getElem_mem hn)
  have hR := fun s k => recv_call (p := b) hu1 hu2 (packR 68 n (tP l n)) (by have := hpbb.q; omega) (by have := packR_len (kind := 68) (seq := n) (t := tP l n); rw [tP_at hn] at this ⊢; simp at this; omega) hpbb.low (by have := hpbb.sl; omega) hpbb.seen s k
  obtain ⟨e1, e2⟩ := ri_recv hb (show n ≤ 16 by omega) hD (tP l n)
  rw [e1] at hR
  generalize (recvP b (packR 68 (n : Int) (tP l n))).1 = b2 at hR e2
  rw [← hP] at hR
  rw [tP_at hn] at hR
  refine ⟨ck + 8, b2, e2, ?_⟩
  rw [hgot, hcnt]
  generalize cntL l D = cnt at *
  generalize gotL l D = got at *
  have hg : (slcA P)[k]? = some [.s P[k]] := slcA_get hk
  have hgi : (slcA P)[k]'(by rw [slcA_len]; exact hk) = [.s P[k]] := by simp [slcA]
  have hsl := slcA_len l
  have hslP := slcA_len P
  have hkI : (k : Int) < P.length := by omega
  have hw : IntKind.i64.wrap ((k : Int) + 1) = (k : Int) + 1 := wrap_id (by omega) (by omega)
  have hun : (UInt8.ofNat n).toNat = n := by rw [UInt8.toNat_ofNat']; exact Nat.mod_eq_of_lt (by omega)
  have hwi : IntKind.i64.wrap (n : Int) = (n : Int) := wrap_id (by omega) (by omega)
  have hni : ¬ (l.length : Int) ≤ n := by omega
  have hnI : (n : Int) < l.length := by omega
  have hw1 : IntKind.i64.wrap (0 + 1) = 1 := rfl
  have hw1' : IntKind.i64.wrap 1 = 1 := rfl
  have hc1 : (cl cnt)[n]? = some [.i .i64 0] := by simp [cl, hc0]
  have hg1 : ∃ y, (slcA got)[n]? = some [.s y] := ⟨got[n]'(by omega), by simp [slcA, show n < got.length by omega]⟩
  obtain ⟨y, hg1⟩ := hg1
  have hc1' := (List.getElem?_eq_some_iff.1 hc1).2
  have hg1' := (List.getElem?_eq_some_iff.1 hg1).2
  have hcs : (cl cnt).set n [.i .i64 1] = cl (cnt.set n 1) := by simp [cl, List.map_set]
  have hgs : (slcA got).set n [.s l[n]] = slcA (got.set n l[n]) := by simp [slcA, List.map_set]
  have hlen4 : (1 : Int) ≤ (l[n].length : Int) + 1 := by omega
  have hlen3 : ¬ (l[n].length : Int) + 1 < 1 := by omega
  have hccl : (cl cnt).length = l.length := by simp [cl, hcl]
  have hggl : (slcA got).length = l.length := by rw [slcA_len, hgl]
  simp only [recvV, prV, iv, bv] at hR
  generalize P[k] = pk at *
  simp [f3l1e, slA, prC, hsl, hslP, hk, hkI, hn, hnI, hg, hgi, hun, hwi, hni, keysOf, treesC, treesOf, treeOf, freezeAll, hlen3, hlen4, hccl, hggl, hR, over, hw, hw1, hw1', hc1, hg1, hc1', hg1', hcs, hgs]
end Go.Proofs.YtccnadleegcobaaGreat.Pv
end

section
/- What the document's Small of the layer 3 tells. -/
namespace Go.Proofs.YtccnadleegcobaaGreat.Pv
open Go Go.Pev
def small (h : List (List Int)) : Bool := decide (h.length ≤ 30 ∧ ∀ r ∈ h, r.length ≤ 30)

theorem small_loop (h : List (List Int)) : ∀ (k i ck : Nat), i + k = h.length → ∃ c, evL cfg (.loop f4l0) ⟨[(0, .t (gl h)), (3, iv i)], [], ck⟩ = some (.ret, ⟨[(2, bv false)], [], c⟩) ∧ (¬ ∀ r ∈ h, r.length ≤ 30) ∨
    ∃ j, evL cfg (.loop f4l0) ⟨[(0, .t (gl h)), (3, iv i)], [], ck⟩ = some (.exit 0, ⟨[(0, .t (gl h)), (3, iv j), (11, bv false)], [], c⟩) ∧ (h.length ≤ 30 → ∀ r ∈ h.drop i, r.length ≤ 30) := by
  intro k
  induction k with
  | zero =>
    intro i ck hk
    obtain rfl : i = h.length := by omega
    refine ⟨ck + 1, .inr ⟨h.length, ?_, by simp⟩⟩
    rw [evL_loop]
    simp [f4l0e, gl]
  | succ k ih =>
    intro i ck hk
    have hi : i < h.length := by omega
    by_cases h30 : i < 30
    · have hi30 : (i : Int) < 30 := by omega
      by_cases hl : h[i].length ≤ 30
      · have hl' : ¬ (30 : Int) < h[i].length := by omega
        have hw : IntKind.i64.wrap ((i : Int) + 1) = (i : Int) + 1 := wrap_id (by omega) (by omega)
        have hstep : evL cfg (.loop f4l0) ⟨[(0, .t (gl h)), (3, iv i)], [], ck⟩ = evL cfg (.loop f4l0) ⟨[(0, .t (gl h)), (3, iv ((i + 1 : Nat) : Int))], [], ck + 3⟩ := by
          refine evL_loop_n ?_
          simp [f4l0e, gl, hi, hi30, hl', hw]
        obtain ⟨c, h1 | ⟨j, h1, h2⟩⟩ := ih (i + 1) (ck + 3) (by omega)
        · exact ⟨c, .inl ⟨by rw [hstep]; exact h1.1, h1.2⟩⟩
        · refine ⟨c, .inr ⟨j, by rw [hstep]; exact h1, fun h0 r hr => ?_⟩⟩
          rw [List.drop_eq_getElem_cons hi] at hr
          rcases List.mem_cons.1 hr with rfl | hr
          · exact hl
          · exact h2 h0 r hr
      · have hl' : (30 : Int) < h[i].length := by omega
        refine ⟨ck + 3, .inl ⟨?_, fun hall => hl (hall _ (List.getElem_mem hi))⟩⟩
        rw [evL_loop]
        simp [f4l0e, gl, hi, hi30, hl']
    · have hi30 : ¬ (i : Int) < 30 := by omega
      refine ⟨ck + 1, .inr ⟨i, ?_, fun h0 => by omega⟩⟩
      rw [evL_loop]
      simp [f4l0e, gl, hi, hi30]

theorem small_ret (h : List (List Int)) : RetT cfg 4 [.t (gl h)] (bv (small h)) := by
  refine RetT.of ?_
  rw [runL_pf (fn := f4) rfl rfl]
  obtain ⟨c, h1 | ⟨j, h1, h2⟩⟩ := small_loop h h.length 0 2 (by omega)
  · have : small h = false := by
      unfold small
      simp only [decide_eq_false_iff_not]
      exact fun hh => h1.2 hh.2
    have h3 := h1.1
    simp [gl] at h3
    simp [gl, h3, this]
  · by_cases hl : h.length ≤ 30
    · have : small h = true := by
        unfold small
        simp only [decide_eq_true_eq]
        exact ⟨hl, by simpa using h2 hl⟩
      have hl' : (h.length : Int) ≤ 30 := by omega
      simp [gl] at h1
      simp [gl, h1, this, hl']
    · have : small h = false := by
        unfold small
        simp only [decide_eq_false_iff_not]
        exact fun hh => hl hh.1
      have hl' : ¬ (h.length : Int) ≤ 30 := by omega
      simp [gl] at h1
      simp [gl, h1, this, hl']

theorem small_iff {h : List (List Int)} : small h = true ↔ h.length ≤ 30 ∧ ∀ r ∈ h, r.length ≤ 30 := by simp [small]

end Go.Proofs.YtccnadleegcobaaGreat.Pv
end

section
/- Whether layers, models, tokens are right, as the document has it. -/
namespace Go.Proofs.YtccnadleegcobaaGreat.Pv
open Go Go.Pev

def inT (n : Int) : Bool := decide (n ≤ 2147483647) && decide (-2147483647 ≤ n)
theorem inT_hold (n : Int) : inT n = decide (hold n = n) := by
  unfold inT hold
  by_cases h1 : 2147483647 < n
  · rw [if_pos h1, decide_eq_false (by omega : ¬ n ≤ 2147483647), decide_eq_false (by omega : ¬ (2147483647 : Int) = n)]; rfl
  · rw [if_neg h1]
    by_cases h2 : n < -2147483647
    · rw [if_pos h2, decide_eq_false (by omega : ¬ -2147483647 ≤ n), decide_eq_false (by omega : ¬ (-2147483647 : Int) = n)]; simp
    · rw [if_neg h2, decide_eq_true (by omega : n ≤ 2147483647), decide_eq_true (by omega : -2147483647 ≤ n)]; simp
def rrI (m : List (List Int)) (c : Int) (i : Nat) (k : Nat) (s : St) : Prop := ∃ ck, (∀ (j : Nat) (l : List Int) (n : Int), m[i]? = some l → l[j]? = some n → j < k → inT n = true) ∧ s = ⟨[(0, .t (gl m)), (2, iv c), (7, iv (i : Int)), (8, iv (k : Int))], [], ck⟩
def rrQ (m : List (List Int)) (c : Int) (i : Nat) (l : List Int) (E : Option (Ex × St)) : Prop := (heldRow l = true ∧ ∃ ck, E = some (.exit 2, ⟨[(0, .t (gl m)), (2, iv c), (7, iv (i : Int)), (8, iv l.length), (32, bv false)], [], ck⟩)) ∨ (heldRow l = false ∧ ∃ ck, E = some (.ret, ⟨[(6, bv false)], [], ck⟩))
theorem rr_row (m : List (List Int)) (c : Int) (i : Nat) (hi : i < m.length) (hl : m[i].length ≤ 1000000) (ck : Nat) : rrQ m c i m[i] (evL cfg (.loop f15l0) ⟨[(0, .t (gl m)), (2, iv c), (7, iv (i : Int)), (8, iv 0)], [], ck⟩) := by
  refine loop_q m[i].length (rrI m c i) ?_ ?_ _ ⟨ck, fun j l n _ _ h => absurd h (Nat.not_lt_zero j), rfl⟩
  · rintro k s hk ⟨ck, h1, rfl⟩
    have hw : IntKind.i64.wrap ((k : Int) + 1) = (k : Int) + 1 := wrap_id (by omega) (by omega)
    by_cases g1 : 2147483647 < m[i][k]
    · have hno : heldRow m[i] = false := by
        unfold heldRow; rw [List.all_eq_false]
        refine ⟨m[i][k], List.getElem_mem hk, ?_⟩
        rw [← inT_hold]; simp [inT]; omega
      simp [f15l0e, gl, hi, hk, g1]
      exact .inr ⟨hno, _, rfl⟩
    · by_cases g2 : m[i][k] < -2147483647
      · have hno : heldRow m[i] = false := by
          unfold heldRow; rw [List.all_eq_false]
          refine ⟨m[i][k], List.getElem_mem hk, ?_⟩
          rw [← inT_hold]; simp [inT]; omega
        simp [f15l0e, gl, hi, hk, g1, g2]
        exact .inr ⟨hno, _, rfl⟩
      · have hin : inT m[i][k] = true := by simp [inT]; omega
        simp [f15l0e, gl, hi, hk, g1, g2, hw]
        refine ⟨_, fun j l n hl' hn hj => ?_, rfl⟩
        by_cases e : j = k
        · subst e
          rw [List.getElem?_eq_getElem hi] at hl'
          cases hl'
          rw [List.getElem?_eq_getElem hk] at hn
          cases hn
          exact hin
        · exact h1 j l n hl' hn (by omega)
  · rintro s ⟨ck, h1, rfl⟩
    have hyes : heldRow m[i] = true := by
      unfold heldRow; rw [List.all_eq_true]
      intro n hn
      obtain ⟨j, hj, rfl⟩ := List.getElem_of_mem hn
      rw [← inT_hold]
      exact h1 j m[i] _ (List.getElem?_eq_getElem hi) (List.getElem?_eq_getElem hj) hj
    simp [f15l0e, gl, hi]
    exact .inl ⟨hyes, _, rfl⟩
def rmI (m : List (List Int)) (c : Int) (i : Nat) (s : St) : Prop := ∃ ck, (∀ (j : Nat) (hj : j < m.length), j < i → (m[j].length : Int) = c ∧ heldRow m[j] = true) ∧ s = ⟨[(0, .t (gl m)), (2, iv c), (7, iv (i : Int))], [], ck⟩
def rmQ (b : Bool) (E : Option (Ex × St)) : Prop := (b = true ∧ ∃ e ck, E = some (.exit 0, ⟨e, [], ck⟩)) ∨ (b = false ∧ ∃ ck, E = some (.ret, ⟨[(6, bv false)], [], ck⟩))
theorem rmright_ret (m : List (List Int)) (r c : Int) (hf : Few m) : RetT cfg 15 [.t (gl m), iv r, iv c] (bv (mrightP m r c)) := by
  have hL : ∀ ck, rmQ (m.all fun l => decide ((l.length : Int) = c) && heldRow l) (evL cfg (.loop f15l1) ⟨[(0, .t (gl m)), (2, iv c), (7, iv 0)], [], ck⟩) := by
    intro ck
    refine loop_q m.length (rmI m c) ?_ ?_ _ ⟨ck, fun j hj h => absurd h (Nat.not_lt_zero j), rfl⟩
    · rintro i s hi ⟨ck, h1, rfl⟩
      have hw : IntKind.i64.wrap ((i : Int) + 1) = (i : Int) + 1 := wrap_id (by have := hf.1; omega) (by have := hf.1; omega)
      by_cases g1 : (m[i].length : Int) = c
      · have hb : ((m[i].length : Int) != c) = false := by simp [g1]
        rcases rr_row m c i hi (hf.2 _ (List.getElem_mem hi)) (ck + 1 + 1 + 1) with ⟨hh, ck2, hc⟩ | ⟨hh, ck2, hc⟩
        · simp [gl] at hc
          simp [f15l1e, gl, hi, hb, hc, hw]
          refine ⟨_, fun j hj hji => ?_, rfl⟩
          by_cases e : j = i
          · subst e; exact ⟨g1, hh⟩
          · exact h1 j hj (by omega)
        · simp [gl] at hc
          simp [f15l1e, gl, hi, hb, hc, hw]
          refine .inr ⟨?_, _, rfl⟩
          rw [List.all_eq_false]
          exact ⟨m[i], List.getElem_mem hi, by simp [hh]⟩
      · have hb : ((m[i].length : Int) != c) = true := by simp [g1]
        simp [f15l1e, gl, hi, hb]
        refine .inr ⟨?_, _, rfl⟩
        rw [List.all_eq_false]
        exact ⟨m[i], List.getElem_mem hi, by simp [g1]⟩
    · rintro s ⟨ck, h1, rfl⟩
      simp [f15l1e, gl]
      refine .inl ⟨?_, _, _, rfl⟩
      rw [List.all_eq_true]
      intro l hl
      obtain ⟨j, hj, rfl⟩ := List.getElem_of_mem hl
      simp [h1 j hj hj]
  refine RetT.of ?_
  rw [runL_pf (fn := f15) rfl rfl]
  unfold mrightP
  by_cases hr : (m.length : Int) = r
  · have hb : ((m.length : Int) != r) = false := by simp [hr]
    generalize (m.all fun l => decide ((l.length : Int) = c) && heldRow l) = b at *
    rcases hL 3 with ⟨hh, e, ck2, hc⟩ | ⟨hh, ck2, hc⟩
    · simp [gl] at hc
      simp [gl, hb, hc, hh, hr]
    · simp [gl] at hc
      simp [gl, hb, hc, hh, hr]
  · have hb : ((m.length : Int) != r) = true := by simp [hr]
    simp [gl, hb, hr]
theorem rmright_call (m : List (List Int)) (r c : Int) (hf : Few m) (s : St) (k : Key) : callEv cfg (runL cfg) 15 [.t (.l (m.map fun r => [.l (r.map fun n => [.i .i64 n])])), .t (.i .i64 r), .t (.i .i64 c)] s k = some (.t (.b (mrightP m r c)), s.hp, s.ck) := callEv_tr (C := cfg) (rmright_ret m r c hf) rfl rfl rfl s k
theorem reright_ret (x : Exp) (dim : Int) (h : FewX x) : RetT cfg 5 [exV x, iv dim] (bv (exRight x dim)) := by
  have hA := fun s k => rmright_call x.inn x.inn.length dim h.1 s k
  have hB := fun s k => rmright_call x.out dim x.inn.length h.2 s k
  refine RetT.of ?_
  rw [runL_pf (fn := f5) rfl rfl]
  unfold exRight exV
  by_cases c1 : dim < 1
  · have c1' : ¬ 1 ≤ dim := by omega
    simp [gl, c1, c1']
  have c1' : 1 ≤ dim := by omega
  by_cases c2 : 8 < dim
  · have c2' : ¬ dim ≤ 8 := by omega
    simp [gl, c1, c1', c2, c2']
  have c2' : dim ≤ 8 := by omega
  by_cases c3 : (x.inn.length : Int) < 1
  · have c3' : ¬ 1 ≤ x.inn.length := by omega
    simp [gl, c1, c1', c2, c2', c3, c3']
  have c3' : 1 ≤ x.inn.length := by omega
  by_cases c4 : 8 < (x.inn.length : Int)
  · have c4' : ¬ x.inn.length ≤ 8 := by omega
    simp [gl, c1, c1', c2, c2', c3, c3', c4, c4']
  have c4' : x.inn.length ≤ 8 := by omega
  by_cases c5 : mrightP x.inn x.inn.length dim = true
  · simp [gl, c1, c1', c2, c2', c3, c3', c4, c4', c5, hA, hB]
  · simp [gl, c1, c1', c2, c2', c3, c3', c4, c4', c5, hA, hB]
end Go.Proofs.YtccnadleegcobaaGreat.Pv
end

section
/- What the document's Same of the layer 2 tells. -/
namespace Go.Proofs.YtccnadleegcobaaGreat.Pv
open Go Go.Pev
theorem same_loop (a b : List Int) (hl : a.length ≤ 1000000) (hab : a.length = b.length) : ∀ (k i ck : Nat), i + k = a.length → ∃ c, evL cfg (.loop f30l0) ⟨[(0, .t (il a)), (1, .t (il b)), (5, iv i)], [], ck⟩ =
    some (if a.drop i = b.drop i then (.exit 0, ⟨[(0, .t (il a)), (1, .t (il b)), (5, iv a.length), (14, bv false)], [], c⟩) else (.ret, ⟨[(4, bv false)], [], c⟩)) := by
  intro k
  induction k with
  | zero =>
    intro i ck h
    obtain rfl : i = a.length := by omega
    refine ⟨ck + 1, ?_⟩
    have h1 : a.drop a.length = b.drop a.length := by rw [List.drop_length, hab, List.drop_length]
    rw [evL_loop, if_pos h1]
    simp [f30l0e]
  | succ k ih =>
    intro i ck h
    have hi : i < a.length := by omega
    have hi' : i < b.length := by omega
    have h1 : a.drop i = b.drop i ↔ a[i] = b[i] ∧ a.drop (i + 1) = b.drop (i + 1) := by
      rw [List.drop_eq_getElem_cons hi, List.drop_eq_getElem_cons hi', List.cons.injEq]
    by_cases hx : a[i] = b[i]
    · obtain ⟨c, hc⟩ := ih (i + 1) (ck + 3) (by omega)
      refine ⟨c, ?_⟩
      rw [evL_loop_n (s1 := ⟨[(0, .t (il a)), (1, .t (il b)), (5, iv ((i + 1 : Nat) : Int))], [], ck + 3⟩), hc]
      · simp only [h1, hx, true_and]
      · have hw : IntKind.i64.wrap ((i : Int) + 1) = (i : Int) + 1 := wrap_id (by omega) (by omega)
        simp [f30l0e, hi, hi', hx, hw]
    · refine ⟨ck + 3, ?_⟩
      have hb : (a[i] != b[i]) = true := by simp [hx]
      rw [evL_loop, if_neg (fun h => hx (h1.1 h).1)]
      simp [f30l0e, hi, hi', hb]

theorem same_ret (a b : List Int) (hl : a.length ≤ 1000000) : RetT cfg 30 [.t (il a), .t (il b)] (bv (decide (a = b))) := by
  refine RetT.of ?_
  rw [runL_pf (fn := f30) rfl rfl]
  by_cases hab : a.length = b.length
  · obtain ⟨c, hc⟩ := same_loop a b hl hab a.length 0 3 (by omega)
    simp only [List.drop_zero] at hc
    by_cases hx : a = b
    · subst hx
      simp at hc
      simp [hc]
    · rw [if_neg hx] at hc
      simp [hab] at hc
      simp [hab, hx, hc]
  · have h1 : ¬ a = b := fun e => hab (by rw [e])
    have hb : ((a.length : Int) != (b.length : Int)) = true := by simp; omega
    simp [hb, h1]

end Go.Proofs.YtccnadleegcobaaGreat.Pv
end

section
/- What the document's Same of the layer 15 tells. -/
namespace Go.Proofs.YtccnadleegcobaaGreat.Pv
open Go Go.Pev
theorem same15_loop (a b : List (List Int)) (hl : a.length ≤ 1000000) (hr : ∀ r ∈ a, r.length ≤ 1000000) (hab : a.length = b.length) : ∀ (k i ck : Nat), i + k = a.length → ∃ c, evL cfg (.loop f14l0) ⟨[(0, .t (gl a)), (1, .t (gl b)), (5, iv i)], [], ck⟩ =
    some (if a.drop i = b.drop i then (.exit 0, ⟨[(0, .t (gl a)), (1, .t (gl b)), (5, iv a.length), (14, bv false)], [], c⟩) else (.ret, ⟨[(4, bv false)], [], c⟩)) := by
  intro k
  induction k with
  | zero =>
    intro i ck h
    obtain rfl : i = a.length := by omega
    refine ⟨ck + 1, ?_⟩
    rw [evL_loop]
    simp [f14l0e, gl, hab]
  | succ k ih =>
    intro i ck h
    have hi : i < a.length := by omega
    have hib : i < b.length := by omega
    have hw : IntKind.i64.wrap ((i : Int) + 1) = (i : Int) + 1 := wrap_id (by omega) (by omega)
    have hs := fun hp => callQ_tr (C := cfg) (same_ret a[i] b[i] (hr _ (List.getElem_mem hi))) rfl hp
    simp only [il, bv] at hs
    have hd : (a.drop i = b.drop i) = (a[i] = b[i] ∧ a.drop (i + 1) = b.drop (i + 1)) := by
      rw [List.drop_eq_getElem_cons hi, List.drop_eq_getElem_cons hib]; simp only [List.cons.injEq]
    simp only [hd]
    by_cases hx : a[i] = b[i]
    · obtain ⟨c, hc⟩ := ih (i + 1) (ck + 3) (by omega)
      refine ⟨c, ?_⟩
      rw [evL_loop_n (s1 := ⟨[(0, .t (gl a)), (1, .t (gl b)), (5, iv ((i + 1 : Nat) : Int))], [], ck + 3⟩), hc]
      · simp [hx]
      · rw [hx] at hs
        simp [f14l0e, gl, hi, hib, hs, hx, hw]
    · refine ⟨ck + 3, ?_⟩
      rw [evL_loop]
      simp [f14l0e, gl, hi, hib, hs, hx]

theorem same15_ret (a b : List (List Int)) (hl : a.length ≤ 1000000) (hr : ∀ r ∈ a, r.length ≤ 1000000) : RetT cfg 14 [.t (gl a), .t (gl b)] (bv (decide (a = b))) := by
  refine RetT.of ?_
  rw [runL_pf (fn := f14) rfl rfl]
  by_cases hab : a.length = b.length
  · obtain ⟨c, hc⟩ := same15_loop a b hl hr hab a.length 0 3 (by omega)
    simp only [List.drop_zero, gl] at hc
    by_cases hx : a = b
    · subst hx
      simp at hc
      simp [gl, hc]
    · rw [if_neg hx] at hc
      simp [hab] at hc
      simp [gl, hab, hx, hc]
  · have h1 : ¬ a = b := fun e => hab (by rw [e])
    have hb : ((a.length : Int) != (b.length : Int)) = true := by simp; omega
    simp [gl, h1, hb]
end Go.Proofs.YtccnadleegcobaaGreat.Pv
end

section
/- TopPorts, reckoned. -/
set_option maxRecDepth 10000
namespace Go.Proofs.YtccnadleegcobaaGreat.Pv
open Go Go.Pev

theorem top_loop1 (d : V) (L : Nat → Bool) (l P : List (List UInt8)) (XB : List V) (hN : l.length ≤ 17) (hl : ∀ t ∈ l, t.length ≤ 100) (hPe : P = ((List.range l.length).filter L).map fun (j : Nat) => packR 68 ((j : Nat) : Int) (tP l j)) : ∀ (q k : Nat) (b : Prt) (u1 u2 : V) (ck : Nat), k + q = P.length → RI (moreD L l.length k) b → Nv (fl b.q) u1 → Nv (il b.seen) u2 → ∃ ck' tl, ∃ b2 : Prt, ∃ x1 x2, evL cfg (.loop f3l1) ⟨eT2 d l P k, hT2 (cntL l (moreD L l.length k)) (gotL l (moreD L l.length k)) (prC b u1 u2) XB, ck⟩ =
    some (.exit 2, ⟨eT2 d l P P.length ++ tl, hT2 (cntL l (moreD L l.length P.length)) (gotL l (moreD L l.length P.length)) (prC b2 x1 x2) XB, ck'⟩) := by
  have hPl : P.length = ((List.range l.length).filter L).length := by rw [hPe, List.length_map]
  have hPl2 : P.length ≤ 100 := by
    have := List.length_filter_le L (List.range l.length)
    rw [List.length_range] at this
    omega
  intro q
  induction q with
  | zero =>
    intro k b u1 u2 ck hk hb h1 h2
    obtain rfl : k = P.length := by omega
    refine ⟨ck + 1, [(161, bv false)], b, u1, u2, ?_⟩
    rw [evL_loop]
    simp [f3l1e]
  | succ q ih =>
    intro k b u1 u2 ck hk hb h1 h2
    have hkl : k < P.length := by omega
    have hkJ : k < ((List.range l.length).filter L).length := by omega
    obtain ⟨g1, g2⟩ := lost_get L hkJ
    have hP : P[k] = packR 68 ((((List.range l.length).filter L)[k] : Nat) : Int) (tP l ((List.range l.length).filter L)[k]) := by
      subst hPe; simp
    obtain ⟨ck1, b1, hb1, hs⟩ := top_step2 d L l P XB hN hl (moreD L l.length k) hb g1 (moreD_not L hkJ) hkl hP hPl2 u1 u2 h1 h2 ck
    rw [← moreD_succ L hkJ] at hb1 hs
    obtain ⟨ck2, tl, b2, x1, x2, hc⟩ := ih (k + 1) b1 (.t (fl b1.q)) (.t (il b1.seen)) ck1 (by omega) hb1 (.inl rfl) (.inl rfl)
    exact ⟨ck2, tl, b2, x1, x2, by rw [evL_loop_n hs, hc]⟩
abbrev eT3 (d : V) (N k : Nat) : Env := [(1, d), (4, .pt ⟨4, 0, 0⟩ 2 0 0), (12, bv true), (15, .ow ⟨73, 5, 2⟩ 1 0 N), (207, .ow ⟨76, 6, 2⟩ 1 0 N), (208, iv N), (209, iv k)]
abbrev hT3 (cnt : List Int) (got : List (List UInt8)) (XB : List V) : HP := [(⟨76, 6, 2⟩, .row 3 1 (cl cnt) false), (⟨73, 5, 2⟩, .row 9 1 (slcA got) false), (⟨4, 0, 0⟩, .box 24 XB)]
theorem top_loop2 (d : V) (cnt : List Int) (got : List (List UInt8)) (XB : List V) (N : Nat) (hN : N ≤ 1000) (hc : cnt.length = N) (h1 : ∀ j, j < N → cnt[j]? = some 1) : ∀ (q k ck : Nat), k + q = N → ∃ ck' tl, evL cfg (.loop f3l2) ⟨eT3 d N k, hT3 cnt got XB, ck⟩ = some (.exit 4, ⟨eT3 d N N ++ tl, hT3 cnt got XB, ck'⟩) := by
  intro q
  induction q with
  | zero =>
    intro k ck hk
    obtain rfl : k = N := by omega
    refine ⟨ck + 1, [(210, bv false)], ?_⟩
    rw [evL_loop]
    simp [f3l2e]
  | succ q ih =>
    intro k ck hk
    have hlt : k < N := by omega
    have hltI : (k : Int) < N := by omega
    have hw : IntKind.i64.wrap ((k : Int) + 1) = (k : Int) + 1 := wrap_id (by omega) (by omega)
    have hg : (cl cnt)[k]? = some [.i .i64 1] := by simp [cl, h1 k hlt]
    obtain ⟨ck', tl, hh⟩ := ih (k + 1) (ck + 4) (by omega)
    refine ⟨ck', tl, ?_⟩
    rw [evL_loop_n (s1 := ⟨eT3 d N (k + 1), hT3 cnt got XB, ck + 4⟩), hh]
    simp [f3l2e, hlt, hltI, hg, hw]
theorem repl_got (l : List (List UInt8)) (L : Nat → Bool) : List.replicate l.length [T.s []] = slcA (gotL l (hereD L 0)) := by
  unfold slcA gotL
  rw [List.map_map]
  apply List.ext_getElem
  · simp
  · intro j h1 h2
    simp [hereD]
theorem repl_cnt (l : List (List UInt8)) (L : Nat → Bool) : List.replicate l.length [T.i .i64 0] = cl (cntL l (hereD L 0)) := by
  unfold cl cntL
  rw [List.map_map]
  apply List.ext_getElem
  · simp
  · intro j h1 h2
    simp [hereD]
end Go.Proofs.YtccnadleegcobaaGreat.Pv
end

section
/- What the arguments of these laws are. -/
set_option maxRecDepth 100000
namespace Go.Proofs.YtccnadleegcobaaGreat.Pv
open Go Go.Pev

noncomputable abbrev PP : Program := Go.Proofs.Tryz.prog
theorem u_int : PP.underlying 3 = some (.int .i64) := by kernel_rfl
theorem u_ints : PP.underlying 38 = some (.slice 3) := by kernel_rfl

def I64 (n : Int) : Prop := -9223372036854775808 ≤ n ∧ n ≤ 9223372036854775807
theorem i64_wf {n : Int} (h : (Lit.int .i64 n).wf = true) : I64 n := by
  simp only [Lit.wf, Bool.and_eq_true, decide_eq_true_eq] at h
  have h1 : IntKind.i64.min = -9223372036854775808 := by decide
  have h2 : IntKind.i64.max = 9223372036854775807 := by decide
  exact ⟨by omega, by omega⟩
theorem f_int {k : Nat} (c : List T) (h : Fits PP (k + 1) 3 c) : ∃ m : Int, c = [.i .i64 m] ∧ I64 m := by
  obtain ⟨m, rfl, hw⟩ := fits_int u_int h
  exact ⟨m, rfl, i64_wf hw⟩
theorem f_ints {k : Nat} (c : List T) (h : Fits PP (k + 2) 38 c) : ∃ l : List Int, c = [il l] ∧ ∀ n ∈ l, I64 n := by
  obtain ⟨l, rfl, _, hw⟩ := fits_slice (mk := fun n : Int => [.i .i64 n]) (Q := I64) u_ints f_int h
  exact ⟨l, rfl, hw⟩
theorem a_int {k : Nat} {x : V} (h : ArgFit PP (k + 1) 3 x) : ∃ m : Int, x = iv m ∧ I64 m := by
  obtain ⟨m, rfl, hw⟩ := argFit_int u_int h
  exact ⟨m, rfl, i64_wf hw⟩
end Go.Proofs.YtccnadleegcobaaGreat.Pv
end

section
/- TopPorts, reckoned: all of it. -/
set_option maxRecDepth 10000
namespace Go.Proofs.YtccnadleegcobaaGreat.Pv
open Go Go.Pev

set_option maxHeartbeats 8000000 in
theorem ptop_bad (x : Exp) (dim : Int) (size : Nat) (z : Int) (h : ¬ (small x.inn = true ∧ small x.out = true ∧ exRight x dim = true)) (hf : small x.inn = true → small x.out = true → FewX x) : ∃ hp c, runL cfg 3 [exV x, iv dim, .t (.i .u8 size), .t (.i .u64 z)] [] 0 = some (bv true, hp, c) := by
  have ha := fun s k => callEv_tr (C := cfg) lives_ret rfl rfl rfl s k
  have h1 := fun s k => callEv_tr (C := cfg) (small_ret x.inn) rfl rfl rfl s k
  have h2 := fun s k => callEv_tr (C := cfg) (small_ret x.out) rfl rfl rfl s k
  rw [runL_pf (fn := f3) rfl rfl]
  simp only [bv, gl] at ha h1 h2
  cases e1 : small x.inn with
  | false => rw [e1] at h1; simp [exV, gl, h1, ha]
  | true =>
    rw [e1] at h1
    cases e2 : small x.out with
    | false => rw [e2] at h2; simp [exV, gl, h1, h2, ha]
    | true =>
      rw [e2] at h2
      have h3 := fun s k => callEv_tr (C := cfg) (reright_ret x dim (hf e1 e2)) rfl rfl rfl s k
      cases e3 : exRight x dim with
      | false => rw [e3] at h3; simp only [bv, iv, exV, gl] at h3; simp [exV, gl, h1, h2, h3, ha]
      | true => exact absurd ⟨e1, e2, e3⟩ h

theorem again_callT {p : Prt} {v1 v2 : V} (h1 : Nv (fl p.q) v1) (h2 : Nv (il p.seen) v2) (hl : p.q.length ≤ 100000) (ht : ∀ f ∈ p.q, f.2.length ≤ 900000) (s : St) (k : Key) : callEv cfg (runL cfg) 11 [.ag [.t (.i .i64 p.next), v1, .t (.i .i64 p.low), v2]] s k = some (.t (slA (agF p.q)), s.hp, s.ck) :=
  callEv_t rfl rfl (port_pure h1 h2 s.hp).1 (again_ret p hl ht) (.inr (port_pure h1 h2 s.hp).2)
theorem slA_sl (l : List (List UInt8)) : sl l = slA l := rfl
set_option maxHeartbeats 8000000 in
theorem ptop_good (x : Exp) (dim : Int) (size : Nat) (hsz : size ≤ 255) (z : Int) (e1 : small x.inn = true) (e2 : small x.out = true) (e3 : exRight x dim = true) (hf : FewX x) : ∃ hp c, runL cfg 3 [exV x, iv dim, .t (.i .u8 size), .t (.i .u64 z)] [] 0 = some (bv true, hp, c) := by
  have ha := fun s k => callEv_tr (C := cfg) lives_ret rfl rfl rfl s k
  have h1 := fun s k => callEv_tr (C := cfg) (small_ret x.inn) rfl rfl rfl s k
  have h2 := fun s k => callEv_tr (C := cfg) (small_ret x.out) rfl rfl rfl s k
  have h3 := fun s k => callEv_tr (C := cfg) (reright_ret x dim hf) rfl rfl rfl s k
  rw [e1] at h1
  rw [e2] at h2
  rw [e3] at h3
  obtain ⟨dd, rfl, hx⟩ := xOk e3
  have hi8 := hx.h8
  have hd8 := hx.d8
  have hbl : (bodyB x dd).length ≤ 520 := by
    rw [bodyB_len hx]
    have : x.inn.length * dd ≤ 8 * 8 := Nat.mul_le_mul hi8 hd8
    omega
  have hel : (expB x dd).length ≤ 524 := by unfold expB; rw [List.length_append, fourZ_len]; omega
  have h4 := fun s k => callEv_tr (C := cfg) (export_ret x dd e3 (by omega) (by have := hx.outl; omega) (fun r hr => by have := hx.inw r hr; omega) (fun r hr => by have := hx.outw r hr; omega) (by omega)) rfl rfl rfl s k
  have hm33 : Int.tmod (size : Int) 33 = ((size % 33 : Nat) : Int) := rfl
  obtain ⟨K, hK⟩ : ∃ K, K = 32 + size % 33 := ⟨_, rfl⟩
  have hK1 : 32 ≤ K ∧ K ≤ 64 := by omega
  have hwK0 : IntKind.i64.wrap ((size : Int) % 33) = (size : Int) % 33 := wrap_id (by omega) (by omega)
  have hwK : IntKind.i64.wrap (32 + (size : Int) % 33) = (K : Int) := by rw [wrap_id (by omega) (by omega)]; omega
  have h5 := fun s k => callEv_tr (C := cfg) (cut_ret (expB x dd) (K : Int) (by omega)) rfl rfl rfl s k
  have hcut : cutR (expB x dd) (K : Int) = cut K (expB x dd) := by unfold cutR; rw [if_pos (by omega), Int.toNat_natCast]
  have hdk : decide (1 ≤ (K : Int) ∧ (K : Int) ≤ 64) = true := decide_eq_true (by omega)
  rw [hcut, hdk, slA_sl] at h5
  have hN : (cut K (expB x dd)).length ≤ 17 := by
    rw [cut_len (by omega)]
    have : ((expB x dd).length + K - 1) / K ≤ (524 + K - 1) / K := Nat.div_le_div_right (by omega)
    have h2 : (524 + K - 1) / K ≤ 17 := by
      rw [Nat.div_le_iff_le_mul_add_pred (by omega)]
      omega
    omega
  have hl : ∀ t ∈ cut K (expB x dd), t.length ≤ 100 := by
    intro t ht
    obtain ⟨i, hi, rfl⟩ := List.getElem_of_mem ht
    have := (cut_get (k := K) (by omega) (expB x dd) i hi).2.1
    omega
  have hflat : (cut K (expB x dd)).flatten = expB x dd := cut_flatten (by omega) _
  have hrg := repl_got (cut K (expB x dd)) (lostZ z)
  have hrc := repl_cnt (cut K (expB x dd)) (lostZ z)
  have hjoin : ∀ (s : St) (k' : Key), s.hp.get ⟨73, 5, 2⟩ = some (.row 9 1 (slcA (cut K (expB x dd))) false) → callEv cfg (runL cfg) 13 [.ow ⟨73, 5, 2⟩ 1 0 (cut K (expB x dd)).length] s k' = some (.t (.s (expB x dd)), s.hp, s.ck) := by
    intro s k' hg
    have hj := cjoin_ret (cut K (expB x dd)) (by omega) (by rw [hflat]; omega)
    rw [hflat] at hj
    exact callEv_ow (C := cfg) (els := slcA (cut K (expB x dd))) hj (slcA_len _) rfl rfl rfl rfl s k' hg
  generalize hle : cut K (expB x dd) = l at *
  have h6 := fun s k => callEv_tr (C := cfg) (import_ret x dd hx) rfl rfl rfl s k
  have h7 := fun s k => callEv_tr (C := cfg) (same15_ret x.inn x.inn (by omega) (fun r hr => by have := hx.inw r hr; omega)) rfl rfl rfl s k
  have h8 := fun s k => callEv_tr (C := cfg) (same15_ret x.out x.out (by have := hx.outl; omega) (fun r hr => by have := hx.outw r hr; omega)) rfl rfl rfl s k
  obtain ⟨c0, t0, a, b, w1, w2, x1, x2, hti, g1, g2, g3, g4, L0⟩ := top_loop0 (iv dd) z l [.t (gl x.inn), .t (gl x.out)] hN hl l.length 0 ⟨0, [], 0, []⟩ ⟨0, [], 0, []⟩ .nl .nl .nl .nl 8 (by omega) (ti_0 l (lostZ z)) (.inr ⟨rfl, rfl⟩) (.inr ⟨rfl, rfl⟩) (.inr ⟨rfl, rfl⟩) (.inr ⟨rfl, rfl⟩)
  have hag := fun s k => again_callT g1 g2 (by have := (hti.sa.pb hN).q; omega) (fun f hf => by
    rw [hti.sq] at hf
    obtain ⟨j, hj, rfl⟩ := List.mem_map.1 hf
    have hjl := List.mem_range.1 (List.mem_filter.1 hj).1
    have := hl _ (List.getElem_mem hjl)
    simp only [tP_at hjl, List.length_cons]; omega) s k
  rw [hti.sq, again_lost l (lostZ z) l.length hN] at hag
  obtain ⟨P, hP⟩ : ∃ P, P = ((List.range l.length).filter (lostZ z)).map fun (j : Nat) => packR 68 ((j : Nat) : Int) (tP l j) := ⟨_, rfl⟩
  rw [← hP] at hag
  have hPl : P.length = ((List.range l.length).filter (lostZ z)).length := by rw [hP, List.length_map]
  obtain ⟨c1, t1, b2, y1, y2, L1⟩ := top_loop1 (iv dd) (lostZ z) l P [.t (gl x.inn), .t (gl x.out)] hN hl hP P.length 0 b x1 x2 (c0 + 1) (by omega) (by rw [moreD_0]; exact hti.sb) g3 g4
  rw [moreD_0] at L1
  have hall := moreD_all (lostZ z) l.length
  rw [← hPl] at hall
  rw [gotL_all l hall] at L1
  obtain ⟨c2, t2, L2⟩ := top_loop2 (iv dd) (cntL l (moreD (lostZ z) l.length P.length)) l [.t (gl x.inn), .t (gl x.out)] l.length (by omega) (cntL_len l _) (cntL_all l hall) l.length 0 (c1 + 1) (by omega)
  rw [runL_pf (fn := f3) rfl rfl]
  have hsl := slcA_len l
  have hslP := slcA_len P
  have hmk1 : (l.length : Int) * 16 ≤ 140737488355328 := by omega
  have hmk2 : (l.length : Int) * 8 ≤ 140737488355328 := by omega
  have htk : (slcA l).take l.length = slcA l := List.take_of_length_le (by omega)
  simp only [eT, hT, eT2, hT2, eT3, hT3, prC, iv, bv, gl, slA, Int.natCast_zero, exV] at h1 h2 h3 h4 h5 h6 h7 h8 ha L0 L1 L2 hag
  simp only [List.cons_append, List.nil_append] at L0 L1 L2
  simp [exV, gl, slA, h1, h2, h3, h4, hm33, hwK0, hwK, h5, hsl, hmk1, hmk2, hrg, hrc, L0, L1, L2, hag, hslP, hjoin, h6, h7, h8, ha, over]
  done
end Go.Proofs.YtccnadleegcobaaGreat.Pv
end

section
/- TopPorts: the arguments, and the law. -/
set_option maxRecDepth 100000
namespace Go.Proofs.YtccnadleegcobaaGreat.Pv
open Go Go.Pev

theorem uT_intss : PP.underlying 22 = some (.slice 38) := by kernel_rfl
theorem uT_exp : structT PP 24 = some [22, 22] := by kernel_rfl
theorem uT_u8 : PP.underlying 5 = some (.int .u8) := by kernel_rfl
theorem uT_u64 : PP.underlying 25 = some (.int .u64) := by kernel_rfl
theorem fT_intss {k : Nat} (c : List T) (h : Fits PP (k + 3) 22 c) : ∃ l : List (List Int), c = [gl l] ∧ True := by
  obtain ⟨l, rfl, _, hw⟩ := fits_slice (mk := fun r : List Int => [il r]) (Q := fun r => ∀ n ∈ r, I64 n) uT_intss f_ints h
  exact ⟨l, rfl, trivial⟩
theorem aT_exp {k : Nat} {x : V} (h : ArgFit PP (k + 4) 24 x) : ∃ e : Exp, x = exV e := by
  obtain ⟨ts, rfl, h0⟩ := argFit_struct uT_exp h
  obtain ⟨a, r1, rfl, -, h1⟩ := fitsT_cons fT_intss h0
  obtain ⟨b, r2, rfl, -, h2⟩ := fitsT_cons fT_intss h1
  cases h2
  exact ⟨⟨a, b⟩, rfl⟩
theorem aT_u8 {k : Nat} {x : V} (h : ArgFit PP (k + 1) 5 x) : ∃ m : Nat, x = .t (.i .u8 m) ∧ m ≤ 255 := by
  obtain ⟨m, rfl, hw⟩ := argFit_int uT_u8 h
  simp only [Lit.wf, Bool.and_eq_true, decide_eq_true_eq] at hw
  have h1 : IntKind.u8.min = 0 := by decide
  have h2 : IntKind.u8.max = 255 := by decide
  exact ⟨m.toNat, by rw [Int.toNat_of_nonneg (by omega)], by omega⟩
theorem topPorts_ev (xs : List V) (h : ArgsFit PP 8 [24, 3, 5, 25] xs) : ∃ hp c, runL cfg 3 xs [] 0 = some (bv true, hp, c) := by
  obtain ⟨x1, r, rfl, h1, h⟩ := argsFit_cons h
  obtain ⟨x2, r, rfl, h2, h⟩ := argsFit_cons h
  obtain ⟨x3, r, rfl, h3, h⟩ := argsFit_cons h
  obtain ⟨x4, r, rfl, h4, h⟩ := argsFit_cons h
  cases argsFit_nil h
  obtain ⟨x, rfl⟩ := aT_exp h1
  obtain ⟨dim, rfl, _⟩ := a_int h2
  obtain ⟨size, rfl, hs⟩ := aT_u8 h3
  obtain ⟨z, rfl, _⟩ := argFit_int uT_u64 h4
  have hf : small x.inn = true → small x.out = true → FewX x := fun a b => by
    obtain ⟨p1, p2⟩ := small_iff.1 a
    obtain ⟨q1, q2⟩ := small_iff.1 b
    exact ⟨⟨by omega, fun l hl => by have := p2 l hl; omega⟩, ⟨by omega, fun l hl => by have := q2 l hl; omega⟩⟩
  by_cases hg : small x.inn = true ∧ small x.out = true ∧ exRight x dim = true
  · exact ptop_good x dim size hs z hg.1 hg.2.1 hg.2.2 (hf hg.1 hg.2.1)
  · exact ptop_bad x dim size z hg hf
end Go.Proofs.YtccnadleegcobaaGreat.Pv
end
