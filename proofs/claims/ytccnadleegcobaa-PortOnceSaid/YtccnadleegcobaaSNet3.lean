/- The net between two ports: what one act does. -/
import Derived.Test.YtccnadleegcobaaSNet2
import Derived.Test.YtccnadleegcobaaSAgain
set_option linter.unusedVariables false
set_option linter.unusedSimpArgs false
set_option maxRecDepth 10000
namespace Go.Proofs.Ytccnadleegcobaa.Pv
open Go Go.Pev

theorem send_q {p : Prt} (hb : PB p) (t : List UInt8) (hs : t.length ≤ 1000) (h : HP) : callQ (runL cfg) 9 [.ag [.t (.i .i64 p.next), .t (fl p.q), .t (.i .i64 p.low), .t (il p.seen)], .t (.s t)] h = some (sendV (sendP p t)) :=
  callQ_t (ports_pure (p := p) (.inl rfl) (.inl rfl) _ h).1 (send_ret p t hb.q (by omega)) (.inr (ports_pure (.inl rfl) (.inl rfl) _ h).2)
theorem text_q (n : Nat) (hn : n < 256) (h : HP) : callQ (runL cfg) 10 [.t (.i .i64 (n : Int))] h = some (.t (.s (txt n))) :=
  callQ_t (by simp [puresOf, pureOf]) (text_ret n hn) (.inl rfl)
theorem without_q (l : List (List UInt8)) (i : Nat) (hl : l.length ≤ 100000) (h : HP) : callQ (runL cfg) 11 [.t (sl l), .t (.i .i64 (i : Int))] h = some (.t (sl (l.eraseIdx i))) :=
  callQ_t (by simp [puresOf, pureOf]) (without_ret l i hl) (.inr (by simp [keysOf]))
theorem again_q {p : Prt} (hl : p.q.length ≤ 100000) (ht : ∀ f ∈ p.q, f.2.length ≤ 900000) (h : HP) : callQ (runL cfg) 6 [.ag [.t (.i .i64 p.next), .t (fl p.q), .t (.i .i64 p.low), .t (il p.seen)]] h = some (.t (sl (againP p))) :=
  callQ_t (port_pure (p := p) (.inl rfl) (.inl rfl) h).1 (again_ret p hl ht) (.inr (port_pure (.inl rfl) (.inl rfl) h).2)
theorem agF_len (q : List Fr) : (agF q).length ≤ q.length := by
  unfold agF
  rw [List.length_map]
  exact List.length_filter_le _ _
abbrev actRest (r0 : Pc) : Pc := (.seq r0 (.seq (.seq f4r1 (.block 0 (.seq f4r2 (.cond (.tmp 11) (.seq f4r3 (.seq f4r4 (.cond (.tmp 35) (.seq f4r5 (.seq f4r6 f4r7)) .skip))) (.seq (.seq f4r8 (.cond (.tmp 50) .skip f4r9)) (.cond (.tmp 50) (.seq f4r10 .ret) (.seq f4r11 (.cond (.tmp 58) (.seq f4r12 (.cond (.tmp 63) f4r13 .skip)) (.seq f4r14 (.cond (.tmp 73) (.seq f4r15 .ret) (.seq f4r16 (.cond (.tmp 78) (.seq f4r17 (.cond (.tmp 83) f4r18 .skip)) (.seq f4r19 (.cond (.tmp 93) (.seq f4r20 (.cond (.tmp 98) f4r21 .skip)) .skip)))))))))))))) (.seq f4r22 .ret)))
theorem act_form : f4 = ⟨3, 109, [.cell 6 true 267], actRest (.reg [(0, ⟨(some 3), .box 34 267 (.tmp 0), none⟩), (1, ⟨(some 6), .alloc 34 (netZ zero256), none⟩)] [1, 2, 3, 6] [])⟩ := by kernel_rfl
theorem netL_pure (h : HP) (w : Net) (r : List V) (rs : List V) (hr : puresOf h r = some rs) : puresOf h (.ag (netL w) :: r) = some (.ag (netL w) :: rs) := by
  have := netL_trees h w
  cases hh : treesOf h (netL w) with
  | none => rw [hh] at this; cases this
  | some ts =>
    rw [hh] at this
    simp only [Option.map_some, Option.some.injEq] at this
    simp only [puresOf, pureOf, hh, hr, this]
theorem netL_ts (w : Net) : ∃ ts : List T, netL w = ts.map V.t := by
  have := netL_trees [] w
  cases hh : treesOf [] (netL w) with
  | none => rw [hh] at this; cases this
  | some ts => rw [hh] at this; simp only [Option.map_some, Option.some.injEq] at this; exact ⟨ts, this.symm⟩
theorem netL_keys (h : HP) (w : Net) : (netL w).flatMap (keysOf1 h) = [] := by
  obtain ⟨ts, e⟩ := netL_ts w
  rw [e]; exact keys1_t h ts
theorem netL_len {w : Net} (h : w.got.length = 256) : (netL w).length = 267 := netC_len (by rw [List.length_map]; exact h)
theorem bump_len (g : List Int) (i : Nat) : (bump g i).length = g.length := by simp [bump]
theorem deliv_got (w : Net) (i : Nat) (tw : Bool) : (delivN w i tw).got.length = w.got.length := by
  unfold delivN
  split
  · rfl
  · simp only; split
    · rw [bump_len]
    · rfl
theorem tell_got (w : Net) (i : Nat) : (tellN w i).got = w.got := by
  unfold tellN; split <;> rfl
theorem tell_call (w : Net) (i : Nat) (hi : i < 1000) (hb : NB w) (s : St) (k : Key) : callEv cfg (runL cfg) 5 [.ag (netL w), .t (.i .i64 (i : Int))] s k = some (.ag (netL (tellN w i)), s.hp, s.ck) :=
  callEv_t rfl rfl (netL_pure s.hp w _ _ rfl) (tell_ret w i hi hb) (.inr (by simp [keysOf, netL_keys]))
theorem deliver_call (w : Net) (i : Nat) (tw : Bool) (hi : i < 1000) (hb : NB w) (s : St) (k : Key) : callEv cfg (runL cfg) 7 [.ag (netL w), .t (.i .i64 (i : Int)), .t (.b tw)] s k = some (.ag (netL (delivN w i tw)), s.hp, s.ck) :=
  callEv_t rfl rfl (netL_pure s.hp w _ _ rfl) (deliver_ret w i tw hi hb) (.inr (by simp [keysOf, netL_keys]))

set_option maxHeartbeats 8000000 in
theorem act_far (w : Net) (kind i : Nat) (hk : kind = 1 ∨ kind = 2 ∨ kind = 4) (hi : i < 1000) (hb : NB w) : RetT cfg 4 [.ag (netL w), .t (.i .i64 (kind : Int)), .t (.i .i64 (i : Int))] (.ag (netL (actN w kind i))) := by
  have hT := fun s k => tell_call w i hi hb s k
  have hD := fun tw s k => deliver_call w i tw hi hb s k
  have hrl := fun (x : Net) (h : HP) => resOf_netL h x
  have hl : (netL w).length = 267 := netL_len hb.got
  have hTl : (netL (tellN w i)).length = 267 := netL_len (by rw [tell_got]; exact hb.got)
  have hDl : ∀ tw, (netL (delivN w i tw)).length = 267 := fun tw => netL_len (by rw [deliv_got]; exact hb.got)
  rw [retT_r, runL_pf (fn := f4) rfl rfl, act_form]
  have hZ : (netZ zero256).length = 267 := netZ_len (by unfold zero256; rw [List.length_replicate])
  generalize netZ zero256 = Z at hZ ⊢
  have hov : ∀ L : List V, L.length = 267 → over Z 0 L = L := fun L h => over_all _ _ (by rw [h, hZ])
  have htk : ∀ L : List V, L.length = 267 → List.take 267 L = L := fun L h => List.take_of_length_le (by omega)
  unfold actN
  rcases hk with rfl | rfl | rfl
  · simp [hl, hZ, htk _ hl, hD, hDl, hov _ (hDl false), htk _ (hDl false), hrl]
  · simp [hl, hZ, htk _ hl, hD, hDl, hov _ (hDl true), htk _ (hDl true), hrl]
  · simp [hl, hZ, htk _ hl, hT, hTl, hov _ hTl, htk _ hTl, hrl]

set_option maxHeartbeats 8000000 in
theorem act_near (w : Net) (kind i : Nat) (hk : kind = 0 ∨ kind = 3 ∨ kind = 5 ∨ kind = 6) (hi : i < 1000) (hb : NB w) : RetT cfg 4 [.ag (netL w), .t (.i .i64 (kind : Int)), .t (.i .i64 (i : Int))] (.ag (netL (actN w kind i))) := by
  obtain ⟨a, b, th, bk, g, n⟩ := w
  obtain ⟨ha, hbb, htl, hbl, ht, hbk, hg, hgb, hft, hsent⟩ := hb
  simp only at ha hbb htl hbl ht hbk hg hgb hft hsent
  have hx := fun h => text_q n (by omega) h
  have hS := fun h => send_q ha (txt n) (by rw [txt_len]; omega) h
  have hA := fun h => again_q (p := a) ha.q (fun f hf => by have := hft f hf; omega) h
  have hal : (againP a).length ≤ a.q.length := agF_len a.q
  have haq := ha.q
  rw [retT_r, runL_pf (fn := f4) rfl rfl, act_form]
  have hZ : (netZ zero256).length = 267 := netZ_len (by unfold zero256; rw [List.length_replicate])
  generalize netZ zero256 = Z at hZ ⊢
  have htr : ∀ (h : HP) (x : T), treesOf h ((g.map fun n => V.t (.i .i64 n)) ++ [.t x]) = some ((g.map fun n => T.i .i64 n) ++ [x]) := fun h x => treesOf_app h _ _ _ _ (treesOf_g h g) (by simp [treesOf, treeOf])
  have hmt : (g.map fun n => T.i .i64 n).map V.t = (g.map fun n => V.t (.i .i64 n)) := by rw [List.map_map]; rfl
  have hG : (g.map fun n => V.t (.i .i64 n)).length = 256 := by rw [List.length_map]; exact hg
  have hd : ∀ x : V, List.drop 256 ((g.map fun n => V.t (.i .i64 n)) ++ [x]) = [x] := fun x => by
    rw [← hG, List.drop_left]
  have hs : ∀ x y : V, List.set ((g.map fun n => V.t (.i .i64 n)) ++ [x]) 256 y = (g.map fun n => V.t (.i .i64 n)) ++ [y] := fun x y => by
    rw [List.set_append_right _ _ (by omega), hG]; rfl
  unfold netL actN sendN placeN
  generalize hGe : (g.map fun n => V.t (.i .i64 n)) = G at *
  generalize (g.map fun n => T.i .i64 n) = TG at *
  have hov : ∀ x0 x1 x2 x3 x4 x5 x6 x7 x8 x9 x : V, over Z 0 (x0 :: x1 :: x2 :: x3 :: x4 :: x5 :: x6 :: x7 :: x8 :: x9 :: (G ++ [x])) = x0 :: x1 :: x2 :: x3 :: x4 :: x5 :: x6 :: x7 :: x8 :: x9 :: (G ++ [x]) := fun x0 x1 x2 x3 x4 x5 x6 x7 x8 x9 x => over_all _ _ (by simp [hG, hZ])
  have htk : ∀ x : V, List.take 257 (G ++ [x]) = G ++ [x] := fun x => List.take_of_length_le (by simp [hG])
  have hov2 := hov
  simp only [over] at hov2
  have htk2 : ∀ l : List (List UInt8), List.take (l.length) (l.map fun s => ([T.s s] : List T)) = l.map fun s => [T.s s] := fun l => List.take_of_length_le (by simp)
  have htk3 : ∀ (l : List (List UInt8)) (x : List UInt8), List.take (l.length + 1) ((l.map fun s => ([T.s s] : List T)) ++ [[T.s x]]) = (l.map fun s => ([T.s s] : List T)) ++ [[T.s x]] := fun l x => List.take_of_length_le (by simp)
  have htk4 : ∀ (l r : List (List UInt8)), List.take (l.length + r.length) ((l.map fun s => ([T.s s] : List T)) ++ (r.map fun s => ([T.s s] : List T))) = (l.map fun s => ([T.s s] : List T)) ++ (r.map fun s => ([T.s s] : List T)) := fun l x => List.take_of_length_le (by simp)
  have hbb2 : th.length * 16 ≤ 140737488355328 := by omega
  have hbb3 : (th.length + 1) * 16 ≤ 140737488355328 := by omega
  have hbb4 : (th.length + (againP a).length) * 16 ≤ 140737488355328 := by omega
  have hw : ∀ (l : List (List UInt8)) (j : Nat), l.length ≤ 1000 → ∀ h, callQ (runL cfg) 11 [.t (sl l), .t (.i .i64 (j : Int))] h = some (.t (sl (l.eraseIdx j))) := fun l j h hh => without_q l j (by omega) hh
  rcases hk with rfl | rfl | rfl | rfl
  · simp only [if_true]
    have hwn : IntKind.i64.wrap ((n : Int) + 1) = (n : Int) + 1 := wrap_id (by omega) (by omega)
    generalize sendP a (txt n) = R at hS ⊢
    obtain ⟨R1, R2, R3⟩ := R
    generalize txt n = tx at *
    simp only at hS ⊢
    by_cases c : R3 = 0 ∧ n < 250 ∧ th.length < 300
    · rw [if_pos c]
      obtain ⟨rfl, c2, c3⟩ := c
      have c2' : (n : Int) < 250 := by omega
      have c3' : (th.length : Int) < 300 := by omega
      simp only [netC, sl, slc, il, sendV, prV, iv] at hS ⊢
      simp [hG, hZ, hov, hov2, htk, hx, hS, hd, hs, hwn, c2, c2', c3, c3', over, resOf, resOf1, treesOf, treeOf, htr, hmt, hGe, rowsOf, treesC, keysOfs, freezeAll, app, elsOf, hbb2, hbb3, htk2, htk3]
    · rw [if_neg c]
      simp only [netC, sl, slc, il, sendV, prV, iv] at hS ⊢
      by_cases c1 : R3 = 0
      · subst c1
        by_cases c2 : n < 250
        · have c2' : (n : Int) < 250 := by omega
          have c3 : ¬ th.length < 300 := fun h => c ⟨rfl, c2, h⟩
          have c3' : ¬ (th.length : Int) < 300 := by omega
          simp [hG, hZ, hov, hov2, htk, hx, hS, hd, c2, c2', c3, c3', over, resOf, resOf1, treesOf, treeOf, htr, hmt, hGe]
        · have c2' : ¬ (n : Int) < 250 := by omega
          simp [hG, hZ, hov, hov2, htk, hx, hS, hd, c2, c2', over, resOf, resOf1, treesOf, treeOf, htr, hmt, hGe]
      · have c1' : (R3 == 0) = false := by simpa using c1
        simp [hG, hZ, hov, hov2, htk, hx, hS, hd, c1, c1', over, resOf, resOf1, treesOf, treeOf, htr, hmt, hGe]
  · simp only [if_true]
    by_cases c : th = []
    · subst c
      simp only [netC, sl, slc, il, List.map_nil, List.eraseIdx_nil, ite_self]
      simp [hG, hZ, hov, hov2, htk, over, resOf, resOf1, treesOf, treeOf, htr, hmt, hGe]
    · rw [if_neg c]
      have hpos : 0 < th.length := List.length_pos_iff.2 c
      have hm : Int.tmod (i : Int) (th.length : Int) = ((i % th.length : Nat) : Int) := rfl
      have hwt := hw th (i % th.length) (by omega)
      generalize i % th.length = j at hm hwt ⊢
      have hne : ¬ th.length = 0 := by omega
      have hpI : (0 : Int) < (th.length : Int) := by omega
      simp only [netC, sl, slc, il] at hwt ⊢
      simp [hG, hZ, hov, hov2, htk, hm, hwt, hne, hpI, hpos, c, over, resOf, resOf1, treesOf, treeOf, htr, hmt, hGe]
  · simp only [if_true]
    by_cases c : bk = []
    · subst c
      simp only [netC, sl, slc, il, List.map_nil, List.eraseIdx_nil, ite_self]
      simp [hG, hZ, hov, hov2, htk, over, resOf, resOf1, treesOf, treeOf, htr, hmt, hGe]
    · rw [if_neg c]
      have hpos : 0 < bk.length := List.length_pos_iff.2 c
      have hm : Int.tmod (i : Int) (bk.length : Int) = ((i % bk.length : Nat) : Int) := rfl
      have hwt := hw bk (i % bk.length) (by omega)
      generalize i % bk.length = j at hm hwt ⊢
      have hne : ¬ bk.length = 0 := by omega
      have hpI : (0 : Int) < (bk.length : Int) := by omega
      simp only [netC, sl, slc, il] at hwt ⊢
      simp [hG, hZ, hov, hov2, htk, hm, hwt, hne, hpI, hpos, c, over, resOf, resOf1, treesOf, treeOf, htr, hmt, hGe]
  · simp only [if_true]
    by_cases c : th.length < 200
    · have c' : (th.length : Int) < 200 := by omega
      rw [if_pos c]
      generalize againP a = A at *
      simp only [netC, sl, slc, il] at hA ⊢
      simp [hG, hZ, hov, hov2, htk, hA, c, c', over, resOf, resOf1, treesOf, treeOf, htr, hmt, hGe, rowsOf, treesC, keysOfs, freezeAll, app, appOk, countK, isBox, elsOf, hbb2, hbb4, htk2, htk4]
    · have c' : ¬ (th.length : Int) < 200 := by omega
      rw [if_neg c]
      simp only [netC, sl, slc, il]
      simp [hG, hZ, hov, hov2, htk, c, c', over, resOf, resOf1, treesOf, treeOf, htr, hmt, hGe]
end Go.Proofs.Ytccnadleegcobaa.Pv
