/- The net between two ports: tell, deliver. -/
import Derived.Test.YtccnadleegcobaaSNet
set_option linter.unusedVariables false
set_option linter.unusedSimpArgs false
set_option maxRecDepth 10000
namespace Go.Proofs.Ytccnadleegcobaa.Pv
open Go Go.Pev

/-- How large a net may be, to be gone through. -/
structure PB (p : Prt) : Prop where
  q : p.q.length ≤ 100000
  low : I64' p.low
  sl : p.seen.length ≤ 1000000
  seen : ∀ n ∈ p.seen, I64' n
structure NB (w : Net) : Prop where
  a : PB w.a
  b : PB w.b
  there : w.there.length ≤ 1000
  back : w.back.length ≤ 1000
  tl : ∀ s ∈ w.there, s.length ≤ 1000
  bl : ∀ s ∈ w.back, s.length ≤ 1000
  got : w.got.length = 256
  gotB : ∀ n ∈ w.got, 0 ≤ n ∧ n ≤ 1000000
  ft : ∀ f ∈ w.a.q, f.2.length ≤ 1000
  sent : w.sent ≤ 250

theorem prV_pure (p : Prt) (h : HP) (t : T) : puresOf h [.ag [.t (.i .i64 p.next), .t (fl p.q), .t (.i .i64 p.low), .t (il p.seen)], .t t] = some [prV p, .t t] := (ports_pure (.inl rfl) (.inl rfl) t h).1
theorem recv_q {p : Prt} (hb : PB p) (t : List UInt8) (hs : t.length ≤ 100000) (h : HP) : callQ (runL cfg) 12 [.ag [.t (.i .i64 p.next), .t (fl p.q), .t (.i .i64 p.low), .t (il p.seen)], .t (.s t)] h = some (recvV (recvP p t)) :=
  callQ_t (ports_pure (p := p) (.inl rfl) (.inl rfl) _ h).1 (recv_ret p t hb.q hs hb.low hb.sl hb.seen) (.inr (ports_pure (.inl rfl) (.inl rfl) _ h).2)

theorem tell_form : f5 = ⟨2, 42, [.cell 4 true 267], (.seq (.reg [(0, ⟨(some 2), .box 34 267 (.tmp 0), none⟩), (1, ⟨(some 4), .alloc 34 (netZ zero256), none⟩)] [1, 2, 4] []) (.seq (.seq f5r1 (.cond (.tmp 13) (.seq f5r2 .ret) .skip)) (.seq f5r3 (.seq f5r4 (.seq f5r5 (.seq f5r6 (.seq f5r7 .ret)))))))⟩ := by kernel_rfl
theorem resOf_netL (h : HP) (w : Net) : resOf h (.ag (netL w)) = some (.ag (netL w)) := by
  have := netL_trees h w
  simp only [resOf, resOf1]
  cases hh : treesOf h (netL w) with
  | none => rw [hh] at this; cases this
  | some ts => rw [hh] at this; simp only [Option.map_some, Option.some.injEq] at this; simp only [this]
set_option maxHeartbeats 4000000 in
theorem tell_ret (w : Net) (i : Nat) (hi : i < 1000) (hb : NB w) : RetT cfg 5 [.ag (netL w), .t (.i .i64 (i : Int))] (.ag (netL (tellN w i))) := by
  obtain ⟨a, b, th, bk, g, n⟩ := w
  obtain ⟨ha, hbb, htl, hbl, ht, hbk, hg, hgb, -, -⟩ := hb
  simp only at ha hbb htl hbl ht hbk hg hgb
  have hrl := fun (x : Net) (h : HP) => resOf_netL h x
  rw [retT_r, runL_pf (fn := f5) rfl rfl, tell_form]
  have hZ : (netZ zero256).length = 267 := netZ_len (by unfold zero256; rw [List.length_replicate])
  generalize netZ zero256 = Z at hZ ⊢
  have hG : (g.map fun n => V.t (.i .i64 n)).length = 256 := by rw [List.length_map]; exact hg
  generalize hGe : (g.map fun n => V.t (.i .i64 n)) = G at hG ⊢
  have hov : ∀ x0 x1 x2 x3 x4 x5 x6 x7 x8 x9 x : V, over Z 0 (x0 :: x1 :: x2 :: x3 :: x4 :: x5 :: x6 :: x7 :: x8 :: x9 :: (G ++ [x])) = x0 :: x1 :: x2 :: x3 :: x4 :: x5 :: x6 :: x7 :: x8 :: x9 :: (G ++ [x]) := fun x0 x1 x2 x3 x4 x5 x6 x7 x8 x9 x => over_all _ _ (by simp [hG, hZ])
  have htk : ∀ x : V, List.take 257 (G ++ [x]) = G ++ [x] := fun x => List.take_of_length_le (by simp [hG])
  unfold netL at hrl ⊢
  simp only [hGe] at hrl ⊢
  unfold tellN
  by_cases c : bk = []
  · subst c
    rw [if_pos rfl]
    have h1 := hrl ⟨a, b, th, [], g, n⟩
    simp only [hGe, netC, sl, slc, il, List.map_nil] at h1 ⊢
    simp [hG, hov, htk, h1, hZ]
    done
  · rw [if_neg c]
    have hpos : 0 < bk.length := List.length_pos_iff.2 c
    have hm : Int.tmod (i : Int) (bk.length : Int) = ((i % bk.length : Nat) : Int) := rfl
    unfold placeN
    obtain ⟨j, hj⟩ : ∃ j, j = i % bk.length := ⟨_, rfl⟩
    have hjl : j < bk.length := by rw [hj]; exact Nat.mod_lt _ hpos
    rw [← hj] at hm ⊢
    have hgd : bk.getD j [] = bk[j] := by simp [List.getD_eq_getElem?_getD, hjl]
    rw [hgd]
    have hr := fun h => recv_q ha bk[j] (by have := hbk _ (List.getElem_mem hjl); omega) h
    have hw := fun s k => callEv_tr (C := cfg) (without_ret bk j (by omega)) rfl rfl rfl s k
    have hx : (bk.map fun s => ([T.s s] : List T))[j]? = some [.s bk[j]] := by simp [hjl]
    have hne : ((bk.length : Int) == 0) = false := by simp; omega
    have hov2 := hov
    simp only [over] at hov2
    have hne2 : ¬ bk.length = 0 := by omega
    have h1 := hrl ⟨(recvP a bk[j]).1, b, th, bk.eraseIdx j, g, n⟩
    generalize recvP a bk[j] = R at hr h1 ⊢
    obtain ⟨R1, R2, R3, R4, R5⟩ := R
    simp only [hGe, netC, sl, slc, il, recvV, prV, iv, bv] at h1 hr hw ⊢
    simp [hG, hov, htk, h1, hZ, hm, hr, hw, hx, hne, hne2, hjl, hov2, over]

theorem deliver_form : f7 = ⟨3, 72, [.cell 6 true 267], (.seq (.reg [(0, ⟨(some 3), .box 34 267 (.tmp 0), none⟩), (1, ⟨(some 6), .alloc 34 (netZ zero256), none⟩)] [1, 2, 3, 6] []) (.seq (.seq f7r1 (.cond (.tmp 15) (.seq f7r2 .ret) .skip)) (.seq f7r3 (.seq f7r4 (.seq f7r5 (.seq (.seq f7r6 (.cond (.tmp 43) f7r7 .skip)) (.seq (.seq f7r8 (.cond (.tmp 55) f7r9 .skip)) (.seq (.seq f7r10 (.cond (.tmp 65) f7r11 .skip)) (.seq f7r12 .ret)))))))))⟩ := by kernel_rfl
set_option maxHeartbeats 8000000 in
theorem deliver_ret (w : Net) (i : Nat) (tw : Bool) (hi : i < 1000) (hb : NB w) : RetT cfg 7 [.ag (netL w), .t (.i .i64 (i : Int)), .t (.b tw)] (.ag (netL (delivN w i tw))) := by
  obtain ⟨a, b, th, bk, g, n⟩ := w
  obtain ⟨ha, hbb, htl, hbl, ht, hbk, hg, hgb, -, -⟩ := hb
  simp only at ha hbb htl hbl ht hbk hg hgb
  rw [retT_r, runL_pf (fn := f7) rfl rfl, deliver_form]
  have hZ : (netZ zero256).length = 267 := netZ_len (by unfold zero256; rw [List.length_replicate])
  generalize netZ zero256 = Z at hZ ⊢
  have hov : ∀ (G : List V), G.length = 256 → ∀ x0 x1 x2 x3 x4 x5 x6 x7 x8 x9 x : V, over Z 0 (x0 :: x1 :: x2 :: x3 :: x4 :: x5 :: x6 :: x7 :: x8 :: x9 :: (G ++ [x])) = x0 :: x1 :: x2 :: x3 :: x4 :: x5 :: x6 :: x7 :: x8 :: x9 :: (G ++ [x]) := fun G hG x0 x1 x2 x3 x4 x5 x6 x7 x8 x9 x => over_all _ _ (by simp [hG, hZ])
  have htk : ∀ (G : List V), G.length = 256 → ∀ x : V, List.take 257 (G ++ [x]) = G ++ [x] := fun G hG x => List.take_of_length_le (by simp [hG])
  have htr : ∀ (g : List Int) (h : HP) (x : T), treesOf h ((g.map fun n => V.t (.i .i64 n)) ++ [.t x]) = some ((g.map fun n => T.i .i64 n) ++ [x]) := fun g h x => treesOf_app h _ _ _ _ (treesOf_g h g) (by simp [treesOf, treeOf])
  have hmt : ∀ g : List Int, (g.map fun n => T.i .i64 n).map V.t = (g.map fun n => V.t (.i .i64 n)) := fun g => by rw [List.map_map]; rfl
  have hG : (g.map fun n => V.t (.i .i64 n)).length = 256 := by rw [List.length_map]; exact hg
  have htrG := htr g
  have hmtG := hmt g
  have hovG := hov _ hG
  have htkG := htk _ hG
  unfold netL delivN
  by_cases c : th = []
  · subst c
    rw [if_pos rfl]
    generalize (g.map fun n => V.t (.i .i64 n)) = G at *
    generalize (g.map fun n => T.i .i64 n) = TG at *
    simp only [netC, sl, slc, il, List.map_nil] at *
    simp [hG, hovG, htkG, hZ, resOf, resOf1, treesOf, treeOf, htrG, hmtG]
    done
  · rw [if_neg c]
    have hpos : 0 < th.length := List.length_pos_iff.2 c
    have hm : Int.tmod (i : Int) (th.length : Int) = ((i % th.length : Nat) : Int) := rfl
    unfold placeN
    obtain ⟨j, hj⟩ : ∃ j, j = i % th.length := ⟨_, rfl⟩
    have hjl : j < th.length := by rw [hj]; exact Nat.mod_lt _ hpos
    simp only at hm ⊢
    rw [← hj] at hm ⊢
    have hgd : th.getD j [] = th[j] := by simp [List.getD_eq_getElem?_getD, hjl]
    rw [hgd]
    have hr := fun h => recv_q hbb th[j] (by have := ht _ (List.getElem_mem hjl); omega) h
    have hw := fun s k => callEv_tr (C := cfg) (without_ret th j (by omega)) rfl rfl rfl s k
    have hx : (th.map fun s => ([T.s s] : List T))[j]? = some [.s th[j]] := by simp [hjl]
    have hne : ((th.length : Int) == 0) = false := by simp; omega
    have hne2 : ¬ th.length = 0 := by omega
    generalize recvP b th[j] = R at hr ⊢
    obtain ⟨R1, R2, R3, R4, R5⟩ := R
    have hbb1 : (bk.length : Int) * 16 ≤ 140737488355328 := by omega
    have hbb2 : bk.length * 16 ≤ 140737488355328 := by omega
    have hbb3 : (bk.length + 1) * 16 ≤ 140737488355328 := by omega
    have htk3 : List.take (bk.length + 1) ((bk.map fun s => ([T.s s] : List T)) ++ [[T.s R4]]) = (bk.map fun s => ([T.s s] : List T)) ++ [[T.s R4]] := List.take_of_length_le (by simp)
    have htk2 : ∀ l : List (List UInt8), List.take (l.length) (l.map fun s => ([T.s s] : List T)) = l.map fun s => [T.s s] := fun l => List.take_of_length_le (by simp)
    simp only
    by_cases c1 : R3 = true ∧ R2.length = 2
    · rw [if_pos c1]
      obtain ⟨rfl, c1b⟩ := c1
      obtain ⟨t0, t1, rfl⟩ : ∃ t0 t1, R2 = [t0, t1] := by
        match R2, c1b with
        | [t0, t1], _ => exact ⟨t0, t1, rfl⟩
      have hk : t1.toNat < 256 := t1.toNat_lt
      have hkg : t1.toNat < g.length := by omega
      have hgk := hgb _ (List.getElem_mem hkg)
      have hwr : IntKind.i64.wrap (g[t1.toNat] + 1) = g[t1.toNat] + 1 := wrap_id (by omega) (by omega)
      have hbm : bump g t1.toNat = g.set t1.toNat (g[t1.toNat] + 1) := by simp [bump, List.getD_eq_getElem?_getD, hkg]
      have hset : ∀ x : V, ((g.map fun n => V.t (.i .i64 n)) ++ [x]).set t1.toNat (.t (.i .i64 (g[t1.toNat] + 1))) = ((bump g t1.toNat).map fun n => V.t (.i .i64 n)) ++ [x] := fun x => by
        rw [List.set_append_left _ _ (by simpa using hkg), hbm, List.map_set]
      have hdr : ∀ x : V, List.drop t1.toNat ((g.map fun n => V.t (.i .i64 n)) ++ [x]) = .t (.i .i64 g[t1.toNat]) :: List.drop (t1.toNat + 1) ((g.map fun n => V.t (.i .i64 n)) ++ [x]) := fun x => by
        rw [List.drop_eq_getElem_cons (by simp; omega)]
        congr 1
        rw [List.getElem_append_left (by simpa using hkg)]
        simp
      have hG2 : ((bump g t1.toNat).map fun n => V.t (.i .i64 n)).length = 256 := by rw [List.length_map, hbm, List.length_set]; exact hg
      have htrG2 := htr (bump g t1.toNat)
      have hmtG2 := hmt (bump g t1.toNat)
      have hovG2 := hov _ hG2
      have htkG2 := htk _ hG2
      have hkI : (t1.toNat : Int) < 256 := by omega
      have hk1 : 10 + t1.toNat + 1 ≤ 267 := by omega
      have d10 : ∀ (k : Nat) (x0 x1 x2 x3 x4 x5 x6 x7 x8 x9 : V) (L : List V), List.drop (10 + k) (x0 :: x1 :: x2 :: x3 :: x4 :: x5 :: x6 :: x7 :: x8 :: x9 :: L) = List.drop k L := fun k x0 x1 x2 x3 x4 x5 x6 x7 x8 x9 L => by rw [Nat.add_comm]; rfl
      have s10 : ∀ (k : Nat) (x0 x1 x2 x3 x4 x5 x6 x7 x8 x9 v : V) (L : List V), List.set (x0 :: x1 :: x2 :: x3 :: x4 :: x5 :: x6 :: x7 :: x8 :: x9 :: L) (10 + k) v = x0 :: x1 :: x2 :: x3 :: x4 :: x5 :: x6 :: x7 :: x8 :: x9 :: List.set L k v := fun k x0 x1 x2 x3 x4 x5 x6 x7 x8 x9 v L => by rw [Nat.add_comm]; rfl
      simp only [List.getD_cons_succ, List.getD_cons_zero]
      generalize g[t1.toNat] = gk at *
      generalize ((bump g t1.toNat).map fun n => V.t (.i .i64 n)) = G2 at *
      generalize ((bump g t1.toNat).map fun n => T.i .i64 n) = TG2 at *
      generalize (g.map fun n => V.t (.i .i64 n)) = G at *
      generalize (g.map fun n => T.i .i64 n) = TG at *
      have hov2 := hovG2
      simp only [over] at hov2
      simp only [netC, sl, slc, il, recvV, prV, iv, bv] at hr hw ⊢
      by_cases c2 : bk.length < 300
      · have c2' : (bk.length : Int) < 300 := by omega
        cases tw <;> simp [hG, hovG, htkG, hZ, hm, hr, hw, hx, hne, hne2, hjl, hov2, over, resOf, resOf1, treesOf, treeOf, htrG, hmtG, hset, hdr, d10, s10, hG2, htrG2, hmtG2, hovG2, htkG2, hkI, hk1, hwr, c2, c2', rowsOf, treesC, keysOfs, freezeAll, app, elsOf, hbb1, hbb2, hbb3, htk2, htk3]
      · have c2' : ¬ (bk.length : Int) < 300 := by omega
        cases tw <;> simp [hG, hovG, htkG, hZ, hm, hr, hw, hx, hne, hne2, hjl, hov2, over, resOf, resOf1, treesOf, treeOf, htrG, hmtG, hset, hdr, d10, s10, hG2, htrG2, hmtG2, hovG2, htkG2, hkI, hk1, hwr, c2, c2']
    · rw [if_neg c1]
      have c1' : R3 = true → ((R2.length : Int) == 2) = false := fun h => by have : ¬ R2.length = 2 := fun e => c1 ⟨h, e⟩; simp; omega
      generalize (g.map fun n => V.t (.i .i64 n)) = G at *
      generalize (g.map fun n => T.i .i64 n) = TG at *
      have hov2 := hovG
      simp only [over] at hov2
      simp only [netC, sl, slc, il, recvV, prV, iv, bv] at hr hw ⊢
      by_cases c2 : bk.length < 300
      · have c2' : (bk.length : Int) < 300 := by omega
        cases R3 with
        | true => 
          have c3 := c1' rfl
          cases tw <;> simp [hG, hovG, htkG, hZ, hm, hr, hw, hx, hne, hne2, hjl, hov2, over, resOf, resOf1, treesOf, treeOf, htrG, hmtG, c2, c2', c3, rowsOf, treesC, keysOfs, freezeAll, app, elsOf, hbb1, hbb2, hbb3, htk3]
        | false => 
          cases tw <;> simp [hG, hovG, htkG, hZ, hm, hr, hw, hx, hne, hne2, hjl, hov2, over, resOf, resOf1, treesOf, treeOf, htrG, hmtG, c2, c2', rowsOf, treesC, keysOfs, freezeAll, app, elsOf, hbb1, hbb2, hbb3, htk3]
      · have c2' : ¬ (bk.length : Int) < 300 := by omega
        cases R3 with
        | true => 
          have c3 := c1' rfl
          cases tw <;> simp [hG, hovG, htkG, hZ, hm, hr, hw, hx, hne, hne2, hjl, hov2, over, resOf, resOf1, treesOf, treeOf, htrG, hmtG, c2, c2', c3]
        | false => 
          cases tw <;> simp [hG, hovG, htkG, hZ, hm, hr, hw, hx, hne, hne2, hjl, hov2, over, resOf, resOf1, treesOf, treeOf, htrG, hmtG, c2, c2']
end Go.Proofs.Ytccnadleegcobaa.Pv
