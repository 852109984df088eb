/- What the functions of these laws tell (made by mergecom.py out of SFleet6 SDel SRet SFleet7 SFleet8 SFleet9 SFleet10 SFleet11 SFleet12 SFleet13 SFleet14 SRRight SMay SFleet15 SFleet16 SFleet17 SAwake SAwake2 ArgsL LMaps SDoc1 SDoc2 SDoc3 SDoc4 SDoc5 SDoc6 SDoc8 SDoc9 LostP BegP FwdP SDoc10 WireP PTurn PMap PMap2 InvP InvP2 SSame SSame15 LTrue LTrue2). -/
import Derived.Test.YtbocnaoihepjfaaGreatBothA
set_option linter.unusedVariables false
set_option linter.unusedSimpArgs false
section
/- What a fleet's answer tells. -/
namespace Go.Proofs.YtbocnaoihepjfaaGreat.Pv
open Go Go.Pev
variable {N : Nat}

def hitP (a : Msg) (p : Pt) : Bool := decide (p.token = a.token) && decide (p.rank = a.rank) && decide (p.expert = a.expert)
def setP (F : Flt) (i : Nat) (v : List Int) : Flt := { F with ans := F.ans.set i v, answd := F.answd.set i true }
def goodA (F : Flt) (a : Msg) : Prop := a.kind = 2 ∧ a.batch = 1 ∧ a.layer = F.at_ ∧ (a.vec.length : Int) = F.m.dim ∧ F.at_ < F.m.lays.length
instance (F : Flt) (a : Msg) : Decidable (goodA F a) := by unfold goodA; exact inferInstance
def answerP (F : Flt) (a : Msg) : Flt := if goodA F a ∧ 0 ≤ fidx (hitP a) F.parts ∧ F.answd.getD (fidx (hitP a) F.parts).toNat true = false then comeP (setP F (fidx (hitP a) F.parts).toNat a.vec) else F
theorem hit_ret (a : Msg) (p : Pt) : RetT cfg 92 [.ag [iv p.token, iv p.rank, iv p.expert, iv p.weight], .pr (msgC a)] (bv (hitP a p)) := by
  refine RetT.of ?_
  rw [runL_pf (fn := f92) rfl rfl]
  unfold hitP
  by_cases h1 : p.token = a.token
  case neg =>
    have d1 : (p.token == a.token) = false := by simp [h1]
    simp [msgC, h1, d1]
  by_cases h2 : p.rank = a.rank
  case neg =>
    have d2 : (p.rank == a.rank) = false := by simp [h2]
    simp [msgC, h1, h2, d2]
  by_cases h3 : p.expert = a.expert
  · simp [msgC, h1, h2, h3]
  · have d3 : (p.expert == a.expert) = false := by simp [h3]
    simp [msgC, h1, h2, h3, d3]
theorem hits_ret (a : Msg) (l : List Pt) (hl : l.length ≤ 1000000) : RetT cfg 91 [.t (ptl l), .fn 92 [.pr (msgC a)]] (.t (.i .i64 (fidx (hitP a) l))) := by
  refine ixf_run (ag := true) (sz := 4) ptT (hitP a) (fun p => .ag [iv p.token, iv p.rank, iv p.expert, iv p.weight]) rfl rfl (by simp [ptT]) (by simp [ptT]) hl ?_
  intro p _ s k hs
  exact ⟨s.ck, by rw [callEv_cl (C := cfg) (hit_ret a p) rfl rfl rfl s k (by simp [puresOf, pureOf, treesOf, treeOf]), hs]; rfl⟩
/-- A message's variable. -/
def mbox (a : Msg) : Ob := .box 44 [iv a.kind, iv a.fr, iv a.to, iv a.seq, iv a.batch, iv a.layer, iv a.token, iv a.rank, iv a.expert, iv a.epoch, .t (il a.vec)]
theorem fls_new {h : HP} {ck cf ca cb : Nat} {F : Flt} (hS : FlS h ck cf ca cb F) {s c o ck' : Nat} (h1 : s ≠ 34) (h2 : s ≠ 38) (h3 : s ≠ 47) (ob : Ob) (hle : ck ≤ ck') : FlS ((⟨s, c, o⟩, ob) :: h) ck' cf ca cb F := by
  obtain ⟨v, hB, l1, l2, l3, hr⟩ := hS
  refine ⟨v, flb_new hB h1 ob, by omega, by omega, by omega, fun hc => ?_⟩
  obtain ⟨a1, a2, a3, a4, a5⟩ := hr hc
  have e1 : ¬ (⟨s, c, o⟩ : Key) = ⟨38, ca, 6⟩ := by rintro h; cases h; exact h2 rfl
  have e2 : ¬ (⟨s, c, o⟩ : Key) = ⟨47, cb, 6⟩ := by rintro h; cases h; exact h3 rfl
  exact ⟨a1, a2, a3, by simp only [HP.get, if_neg e1]; exact a4, by simp only [HP.get, if_neg e2]; exact a5⟩
theorem fls_le {h : HP} {ck cf ca cb ck' : Nat} {F : Flt} (hS : FlS h ck cf ca cb F) (hle : ck ≤ ck') : FlS h ck' cf ca cb F := by
  obtain ⟨v, hB, l1, l2, l3, hr⟩ := hS
  exact ⟨v, hB, by omega, by omega, by omega, hr⟩
set_option maxHeartbeats 2000000 in
theorem answer_run {h : HP} {ck cf ca cb : Nat} {F : Flt} (a : Msg) (hS : FlS h ck cf ca cb F) (hO : Ok N F) (hav : a.vec.length ≤ 1000000) : ∃ h' ck' ca' cb', runL cfg 52 [.pt ⟨34, cf, 5⟩ 15 0 0, msgV a] h ck = some (.tu [], h', ck') ∧ FlS h' ck' cf ca' cb' (answerP F a) ∧ Ok N (answerP F a) ∧ Ran h ck cf ca cb h' ck' ca' cb' := by
  have hS0 := hS
  obtain ⟨v, hB, l1, l2, l3, hr⟩ := hS
  have hg := hB.1
  rw [runL_pf (fn := f52) rfl rfl]
  simp only [fcs, laysT] at hg
  have bad : ∀ n : Nat, ∀ ob : Ob, ¬ (goodA F a ∧ 0 ≤ fidx (hitP a) F.parts ∧ F.answd.getD (fidx (hitP a) F.parts).toNat true = false) → FlS ((⟨3, ck, 0⟩, ob) :: h) (ck + n) cf ca cb (answerP F a) ∧ Ok N (answerP F a) ∧ Ran h ck cf ca cb ((⟨3, ck, 0⟩, ob) :: h) (ck + n) ca cb := fun n ob hc => by
    unfold answerP
    rw [if_neg hc]
    exact ⟨fls_new hS0 (by decide) (by decide) (by decide) ob (by omega), hO, Ran.to (by omega) fun q hq _ => get_new hq⟩
  by_cases c1 : a.kind = 2
  case neg =>
    have d1 : (a.kind != 2) = true := by simp [c1]
    refine ⟨(⟨3, ck, 0⟩, mbox a) :: h, ck + 2, ca, cb, ?_, bad 2 _ (fun h => c1 h.1.1)⟩
    simp [msgV, mbox, hg, filt_t, d1]
  have d1 : (a.kind != 2) = false := by simp [c1]
  by_cases c2 : a.batch = 1
  case neg =>
    have d2 : (a.batch != 1) = true := by simp [c2]
    refine ⟨(⟨3, ck, 0⟩, mbox a) :: h, ck + 2, ca, cb, ?_, bad 2 _ (fun h => c2 h.1.2.1)⟩
    simp [msgV, mbox, hg, filt_t, d1, d2]
  have d2 : (a.batch != 1) = false := by simp [c2]
  by_cases c3 : a.layer = F.at_
  case neg =>
    have d3 : (a.layer != (F.at_ : Int)) = true := by simp [c3]
    refine ⟨(⟨3, ck, 0⟩, mbox a) :: h, ck + 2, ca, cb, ?_, bad 2 _ (fun h => c3 h.1.2.2.1)⟩
    simp [msgV, mbox, hg, filt_t, d1, d2, d3]
  have d3 : (a.layer != (F.at_ : Int)) = false := by simp [c3]
  by_cases c4 : (a.vec.length : Int) = F.m.dim
  case neg =>
    have d4 : ((a.vec.length : Int) != F.m.dim) = true := by simp [c4]
    refine ⟨(⟨3, ck, 0⟩, mbox a) :: h, ck + 2, ca, cb, ?_, bad 2 _ (fun h => c4 h.1.2.2.2.1)⟩
    simp [msgV, mbox, hg, filt_t, d1, d2, d3, d4]
  have d4 : ((a.vec.length : Int) != F.m.dim) = false := by simp [c4]
  by_cases c5 : F.at_ < F.m.lays.length
  case neg =>
    have d5 : F.m.lays.length ≤ F.at_ := by omega
    refine ⟨(⟨3, ck, 0⟩, mbox a) :: h, ck + 2, ca, cb, ?_, bad 2 _ (fun h => c5 h.1.2.2.2.2)⟩
    simp [msgV, mbox, hg, filt_t, d1, d2, d3, d4, d5]
  have d5 : ¬ F.m.lays.length ≤ F.at_ := by omega
  have hga : goodA F a := ⟨c1, c2, c3, c4, c5⟩
  obtain ⟨r1, r2, r3, r4, r5⟩ := hr c5
  have hf := hO.f1 c5
  have hx := fun (s : St) (k : Key) => callEv_fn (C := cfg) (caps0 := [.pt ⟨3, ck, 0⟩ 11 0 0]) (hits_ret a F.parts (by have := hf.np; omega)) rfl rfl rfl s k
  have hlt := fidx_lt (hitP a) F.parts
  have hge := fidx_ge (hitP a) F.parts
  generalize hidx : fidx (hitP a) F.parts = idx at *
  simp only [r1, r2, r3] at hg
  simp only [ptl, msgC, il] at hx hg
  by_cases c6 : idx < 0
  · refine ⟨(⟨3, ck, 0⟩, mbox a) :: h, ck + 4, ca, cb, ?_, bad 4 _ (fun h => by omega)⟩
    simp [msgV, mbox, hg, filt_t, d1, d2, d3, d4, d5, hx, capsOf, capOf, treesOf, treeOf, c6]
  obtain ⟨i, rfl⟩ : ∃ i : Nat, idx = i := ⟨idx.toNat, by omega⟩
  have hi : i < F.parts.length := by omega
  have hid : i < F.answd.length := by have := hf.nd; omega
  have hia : i < F.ans.length := by have := hf.na; omega
  have d6 : decide ((i : Int) < 0) = false := decide_eq_false (by omega)
  have hgd : F.answd.getD i true = F.answd[i] := by simp [List.getD_eq_getElem?_getD, hid]
  have hrg : (bl F.answd)[i]? = some [.b F.answd[i]] := by simp [bl, hid]
  cases c7 : F.answd[i] with
  | true =>
    rw [c7] at hrg
    refine ⟨(⟨3, ck, 0⟩, mbox a) :: h, ck + 4, ca, cb, ?_, bad 4 _ (fun h => by
      have := h.2.2
      rw [Int.toNat_natCast, hgd, c7] at this
      cases this)⟩
    simp [msgV, mbox, hg, filt_t, d1, d2, d3, d4, d5, hx, capsOf, capOf, treesOf, treeOf, d6, hi, r5, hrg]
  | false =>
    rw [c7] at hrg hgd
    have hAP : answerP F a = comeP (setP F i a.vec) := by
      unfold answerP
      rw [hidx, Int.toNat_natCast, if_pos ⟨hga, by omega, hgd⟩]
    generalize hH : ((⟨3, ck, 0⟩, mbox a) :: HP.put (HP.put h ⟨38, ca, 6⟩ ⟨38, ca, 6⟩ (.row 42 1 ((F.ans.set i a.vec).map fun r => [il r]) false)) ⟨47, cb, 6⟩ ⟨47, cb, 6⟩ (.row 4 1 (bl (F.answd.set i true)) false) : HP) = h2
    have hS2 : FlS h2 (ck + 1 + 1 + 1 + 1 + 1 + 1) cf ca cb (setP F i a.vec) := by
      subst hH
      have hb : FlS (HP.put (HP.put h ⟨38, ca, 6⟩ ⟨38, ca, 6⟩ (.row 42 1 ((F.ans.set i a.vec).map fun r => [il r]) false)) ⟨47, cb, 6⟩ ⟨47, cb, 6⟩ (.row 4 1 (bl (F.answd.set i true)) false)) ck cf ca cb (setP F i a.vec) := by
        refine ⟨v, ⟨?_, hB.2⟩, l1, l2, l3, fun _ => ⟨r1, r2, r3, ?_, ?_⟩⟩
        · rw [get_put_ne (by simp), get_put_ne (by simp)]; exact hB.1
        · rw [get_put_ne (by simp), hp_get_put, if_pos rfl, r4]; rfl
        · rw [hp_get_put, if_pos rfl, get_put_ne (by simp), r5]; rfl
      exact fls_le (fls_new hb (by decide) (by decide) (by decide) _ (Nat.le_refl _)) (by omega)
    have hO2 : Ok N (setP F i a.vec) := ⟨⟨hO.f0.m, hO.f0.toks, hO.f0.ntok, hO.f0.ph, hO.f0.bag⟩, fun _ => ⟨by simp [setP, hf.na], by simp [setP, hf.nd], hf.np, hf.tok, hf.toks, hf.ntok, hf.ph, hf.bag⟩, fun r hr => by
      rcases List.mem_or_eq_of_mem_set hr with hr | rfl
      · exact hO.ans r hr
      · exact hav, hO.led, hO.bags, hO.led5⟩
    obtain ⟨h', ck', ca', cb', hrun, hS', hO', hR⟩ := come_run hS2 hO2
    have hcm := fun e k => callEv_h (C := cfg) (s := ⟨e, h2, ck + 1 + 1 + 1 + 1 + 1⟩) rfl hrun k
    rw [hAP]
    refine ⟨h', ck' + 1 + 1, ca', cb', ?_, fls_le hS' (by omega), hO', ?_⟩
    · rw [← hH] at hcm
      simp only [mbox, il, iv, List.map_set, bl] at hcm r4 r5
      simp only [bl] at hrg
      simp [msgV, hg, filt_t, d1, d2, d3, d4, d5, hx, capsOf, capOf, treesC, treesOf, treeOf, keysOf, freezeAll, d6, hi, hia, hid, r4, r5, bl, hrg, c7, hp_get_put, over, hcm]
    · have hle := hR.le
      refine ⟨by omega, fun q hq e1 e2 e3 => ?_, ?_, ?_⟩
      · rw [hR.fr q (by omega) e1 e2 e3]
        subst hH
        rw [get_new hq, get_put_ne e3, get_put_ne e2]
      · rcases hR.ca with e | e
        · exact .inl e
        · exact .inr (by omega)
      · rcases hR.cb with e | e
        · exact .inl e
        · exact .inr (by omega)
end Go.Proofs.YtbocnaoihepjfaaGreat.Pv
end

section
/- What slices.IndexFunc and slices.DeleteFunc tell, of place.Retire's closure. -/
namespace Go.Proofs.YtbocnaoihepjfaaGreat.Pv
open Go Go.Pev

theorem filt_true {α : Type} (l : List α) : List.filter (fun _ => true) l = l := List.filter_eq_self.2 fun _ _ => rfl

/-- The closure, of read-only cells, or of a variable. -/
theorem ret1_pr (x n : Int) (s : St) (k : Key) : callEv cfg (runL cfg) 62 [.t (.i .i64 x), .pr [.i .i64 n]] s k = some (.t (.b (x == n)), s.hp, s.ck + 4) := by
  refine callEv_h (C := cfg) (c' := s.ck + 3) rfl ?_ k
  rw [runL_pf (fn := f62) rfl rfl]
  simp [filt_true]
theorem ret1_pt (x n : Int) (q : Key) (bt : Nat) (s : St) (k : Key) (hq : s.hp.get q = some (.box bt [.t (.i .i64 n)])) : callEv cfg (runL cfg) 62 [.t (.i .i64 x), .pt q 1 0 0] s k = some (.t (.b (x == n)), s.hp, s.ck + 4) := by
  refine callEv_h (C := cfg) (c' := s.ck + 3) rfl ?_ k
  rw [runL_pf (fn := f62) rfl rfl]
  simp [hq, filt_true]

def idx (l : List Int) (n : Int) : Int := if l.contains n then l.idxOf n else -1

theorem ixf_loop (l : List Int) (n : Int) (hl : l.length ≤ 1000000) : ∀ (k i ck : Nat), i + k = l.length → (∀ j, j < i → l[j]? ≠ some n) → ∃ c, evL cfg (.loop f102l0) ⟨[(0, .t (il l)), (1, .fn 62 [.pr [.i .i64 n]]), (7, iv l.length), (8, iv i)], [], ck⟩ =
    some (if (l.drop i).contains n then (.ret, ⟨[(4, iv (idx l n))], [], c⟩) else (.exit 0, ⟨[(0, .t (il l)), (1, .fn 62 [.pr [.i .i64 n]]), (7, iv l.length), (8, iv l.length), (9, bv false)], [], c⟩)) := by
  intro k
  induction k with
  | zero =>
    intro i ck h _
    obtain rfl : i = l.length := by omega
    refine ⟨ck + 1, ?_⟩
    rw [evL_loop]
    simp [f102l0e]
  | succ k ih =>
    intro i ck h hb
    have hi : i < l.length := by omega
    by_cases hx : l[i] = n
    · have hid : l.idxOf n = i := by
        have h1 : l.idxOf n < l.length := List.idxOf_lt_length_of_mem (by rw [← hx]; exact List.getElem_mem hi)
        have h2 : l[l.idxOf n] = n := List.getElem_idxOf h1
        have h3 : ¬ l.idxOf n < i := fun h => hb _ h (by rw [List.getElem?_eq_getElem h1, h2])
        have h4 : ¬ i < l.idxOf n := fun h => by
          have := List.not_of_lt_findIdx (p := (· == n)) (xs := l) (i := i) (by simpa [List.idxOf] using h)
          simp [hx] at this
        omega
      have hin : l.contains n = true := by simp; rw [← hx]; exact List.getElem_mem hi
      refine ⟨ck + 7 + 1, ?_⟩
      rw [evL_loop, contains_at hi hx]
      simp only [idx, hin, hid]
      simp [f102l0e, hi, hx, ret1_pr, filt_true]
    · obtain ⟨c, hc⟩ := ih (i + 1) (ck + 8) (by omega) (fun j hj => by
        rcases Nat.lt_succ_iff_lt_or_eq.1 hj with h | rfl
        · exact hb j h
        · rw [List.getElem?_eq_getElem hi]; simpa using hx)
      refine ⟨c, ?_⟩
      rw [evL_loop_n (s1 := ⟨[(0, .t (il l)), (1, .fn 62 [.pr [.i .i64 n]]), (7, iv l.length), (8, iv ((i + 1 : Nat) : Int))], [], ck + 8⟩), hc, contains_not hi hx]
      have hb : (l[i] == n) = false := by simp [hx]
      have hw : IntKind.i64.wrap ((i : Int) + 1) = (i : Int) + 1 := wrap_id (by omega) (by omega)
      simp [f102l0e, hi, hb, hw, ret1_pr, filt_true]

theorem ixf_ret (l : List Int) (n : Int) (hl : l.length ≤ 1000000) : RetT cfg 102 [.t (il l), .fn 62 [.pr [.i .i64 n]]] (iv (idx l n)) := by
  obtain ⟨c, hc⟩ := ixf_loop l n hl l.length 0 2 (by omega) (by omega)
  refine RetT.of ?_
  rw [runL_pf (fn := f102) rfl rfl]
  simp at hc
  by_cases hx : n ∈ l
  · simp [hx] at hc; simp [hc]
  · have : idx l n = -1 := by simp [idx, hx]
    rw [this]
    simp [hx] at hc; simp [hc]

theorem ixf_call (l : List Int) (n : Int) (hl : l.length ≤ 1000000) (k q : Key) (ty bt : Nat) (s : St) (kk : Key) (hk : s.hp.get k = some (.row ty 1 (cl l) false)) (hq : s.hp.get q = some (.box bt [.t (.i .i64 n)])) : callEv cfg (runL cfg) 102 [.ow k 1 0 l.length, .fn 62 [.pt q 1 0 0]] s kk = some (.t (.i .i64 (idx l n)), s.hp, s.ck) := by
  have h1 : treeOf s.hp (.ow k 1 0 l.length) = some (il l) := treeOf_ow hk (by simp [cl])
  refine callEv_t (C := cfg) rfl rfl (ps := [.t (il l), .fn 62 [.pr [.i .i64 n]]]) ?_ (ixf_ret l n hl) (.inl rfl)
  simp only [puresOf, pureOf, h1]
  simp [capsOf, capOf, hq, treesOf, treeOf]

theorem del_loop (n : Int) (k q : Key) (ty bt : Nat) (rest : HP) (hkq : ¬ k = q) (hq : rest.get q = some (.box bt [.t (.i .i64 n)])) : ∀ (m j w : Nat) (r : List Int) (ck : Nat), j + m = r.length → w ≤ j → r.length ≤ 1000000 → ∃ c r', r'.length = r.length ∧ r'.take (w + ((r.drop j).filter (· != n)).length) = r.take w ++ (r.drop j).filter (· != n) ∧ evL cfg (.loop f61l0) ⟨[(0, .ow k 1 0 r.length), (1, .fn 62 [.pt q 1 0 0]), (5, iv w), (6, iv j)], (k, .row ty 1 (cl r) false) :: rest, ck⟩ =
    some (.exit 0, ⟨[(0, .ow k 1 0 r.length), (1, .fn 62 [.pt q 1 0 0]), (5, iv ((w + ((r.drop j).filter (· != n)).length : Nat) : Int)), (6, iv r.length), (19, bv false)], (k, .row ty 1 (cl r') false) :: rest, c⟩) := by
  intro m
  induction m with
  | zero =>
    intro j w r ck h hw hl
    obtain rfl : j = r.length := by omega
    refine ⟨ck + 1, r, rfl, by simp, ?_⟩
    rw [evL_loop]
    simp [f61l0e]
  | succ m ih =>
    intro j w r ck h hwj hl
    have hj : j < r.length := by omega
    have hw6 : IntKind.i64.wrap ((j : Int) + 1) = (j : Int) + 1 := wrap_id (by omega) (by omega)
    have hw5 : IntKind.i64.wrap ((w : Int) + 1) = (w : Int) + 1 := wrap_id (by omega) (by omega)
    have hd : r.drop j = r[j] :: r.drop (j + 1) := List.drop_eq_getElem_cons hj
    have hwl : w < r.length := by omega
    by_cases hx : r[j] = n
    · have hb : (r[j] == n) = true := by simp [hx]
      have hf : (r.drop j).filter (· != n) = (r.drop (j + 1)).filter (· != n) := by rw [hd]; simp [hx]
      obtain ⟨c, r', h1, h2, h3⟩ := ih (j + 1) w r (ck + 8) (by omega) (by omega) hl
      refine ⟨c, r', h1, by rw [hf]; exact h2, ?_⟩
      rw [hf, ← h3]
      rw [evL_loop_n (s1 := ⟨[(0, .ow k 1 0 r.length), (1, .fn 62 [.pt q 1 0 0]), (5, iv w), (6, iv ((j + 1 : Nat) : Int))], (k, .row ty 1 (cl r) false) :: rest, ck + 8⟩)]
      have hr1 := fun (s : St) (kk : Key) hg => ret1_pt r[j] n q bt s kk hg
      simp [f61l0e, hj, hb, hw6, cl, hr1, hkq, hq, filt_true]
    · have hb : (r[j] == n) = false := by simp [hx]
      have hf : (r.drop j).filter (· != n) = r[j] :: (r.drop (j + 1)).filter (· != n) := by rw [hd]; exact List.filter_cons_of_pos (by simpa using hx)
      obtain ⟨c, r', h1, h2, h3⟩ := ih (j + 1) (w + 1) (r.set w r[j]) (ck + 10) (by simp; omega) (by omega) (by simpa using hl)
      have hdr : (r.set w r[j]).drop (j + 1) = r.drop (j + 1) := by
        rw [List.drop_set]; simp; omega
      rw [hdr] at h2 h3
      simp only [List.length_set] at h1 h2 h3
      have htk : (r.set w r[j]).take (w + 1) = r.take w ++ [r[j]] := by
        rw [List.take_succ_eq_append_getElem (by simpa using hwl)]
        simp [List.take_set_of_le]
      refine ⟨c, r', h1, ?_, ?_⟩
      · rw [hf, List.length_cons, show w + (((r.drop (j + 1)).filter (· != n)).length + 1) = w + 1 + ((r.drop (j + 1)).filter (· != n)).length by omega, h2, htk]
        simp
      · rw [hf, List.length_cons, show w + (((r.drop (j + 1)).filter (· != n)).length + 1) = w + 1 + ((r.drop (j + 1)).filter (· != n)).length by omega, ← h3]
        rw [evL_loop_n (s1 := ⟨[(0, .ow k 1 0 r.length), (1, .fn 62 [.pt q 1 0 0]), (5, iv ((w + 1 : Nat) : Int)), (6, iv ((j + 1 : Nat) : Int))], (k, .row ty 1 (cl (r.set w r[j])) false) :: rest, ck + 10⟩)]
        have hr1 := fun (s : St) (kk : Key) hg => ret1_pt r[j] n q bt s kk hg
        simp [f61l0e, hj, hb, hw6, hw5, cl, hr1, hkq, hq, filt_true, hwl, treesC, treesOf, treeOf, keysOf, freezeAll, over, List.map_set]

theorem del_split (n : Int) : ∀ l : List Int, n ∈ l → l.take (l.idxOf n) ++ (l.drop (l.idxOf n + 1)).filter (· != n) = l.filter (· != n)
  | [], h => by cases h
  | a :: l, h => by
    by_cases e : a = n
    · subst e; simp
    · have h' : n ∈ l := by
        rcases List.mem_cons.1 h with h | h
        · exact absurd h.symm e
        · exact h
      have := del_split n l h'
      have hi : (a :: l).idxOf n = l.idxOf n + 1 := by
        rw [List.idxOf_cons]
        have : (a == n) = false := by simpa using e
        rw [this]; rfl
      rw [hi, List.take_succ_cons, List.drop_succ_cons, List.cons_append, this, List.filter_cons_of_pos (by simpa using e)]

theorem del_run (l : List Int) (n : Int) (hl : l.length ≤ 1000000) (k q : Key) (ty bt : Nat) (rest : HP) (hkq : ¬ k = q) (hq : rest.get q = some (.box bt [.t (.i .i64 n)])) (hk4 : ¬ k.s = 4) (hf : rest.filter (fun p => !([4] : List Nat).contains p.1.s) = rest) (ck : Nat) : ∃ c, runL cfg 61 [.ow k 1 0 l.length, .fn 62 [.pt q 1 0 0]] ((k, .row ty 1 (cl l) false) :: rest) ck = some (.ow k 1 0 (l.filter (· != n)).length, (k, .row ty 1 (cl (l.filter (· != n))) false) :: rest, c) := by
  have hix := fun (s : St) (kk : Key) h1 h2 => ixf_call l n hl k q ty bt s kk h1 h2
  have hf : List.filter (fun p : Key × Ob => !decide (p.fst.s = 4)) rest = rest := List.filter_eq_self.2 fun a ha => by
    have := List.filter_eq_self.1 hf a ha
    simpa using this
  by_cases hx : n ∈ l
  · have hidx : idx l n = l.idxOf n := by simp [idx, hx]
    have hil : l.idxOf n < l.length := List.idxOf_lt_length_of_mem hx
    have hw : IntKind.i64.wrap ((l.idxOf n : Int) + 1) = (l.idxOf n : Int) + 1 := wrap_id (by omega) (by omega)
    obtain ⟨c, r', h1, h2, h3⟩ := del_loop n k q ty bt rest hkq hq (l.length - (l.idxOf n + 1)) (l.idxOf n + 1) (l.idxOf n) l (ck + 4) (by omega) (by omega) hl
    rw [del_split n l hx] at h2
    have hlen : l.idxOf n + ((l.drop (l.idxOf n + 1)).filter (· != n)).length = (l.filter (· != n)).length := by
      rw [← del_split n l hx, List.length_append, List.length_take, Nat.min_eq_left (by omega)]
    rw [hlen] at h2 h3
    have hn1 : ((l.idxOf n : Int) == -1) = false := by simp
    have hle : (l.filter (· != n)).length ≤ l.length := List.length_filter_le _ _
    have hclr : (cl r').take (l.filter (· != n)).length = cl (l.filter (· != n)) := by
      rw [← h2]; simp [cl]
    have hlr : (cl r').length = l.length := by simp [cl, h1]
    refine ⟨c + 2, ?_⟩
    rw [runL_pf (fn := f61) rfl rfl]
    simp at h3
    simp [hk4, hf, hix, hkq, hq, hidx, filt_true, hn1, hw, h3, clr, hle, hlr, hclr]
  · have hidx : idx l n = -1 := by simp [idx, hx]
    have hfl : l.filter (· != n) = l := List.filter_eq_self.2 fun a ha => by
      have : a ≠ n := fun e => hx (e ▸ ha)
      simpa using this
    refine ⟨ck + 4, ?_⟩
    rw [runL_pf (fn := f61) rfl rfl, hfl]
    simp [hk4, hf, hix, hkq, hq, hidx, filt_true]
end Go.Proofs.YtbocnaoihepjfaaGreat.Pv
end

section
/- What place.Retire tells. -/
namespace Go.Proofs.YtbocnaoihepjfaaGreat.Pv
open Go Go.Pev

def pret (e : Int) (h : List (List Int)) (x n : Int) : Int × List (List Int) × Int := if may e h x n = false then (e, h, 1) else if holds h x n = false then (e, h, 4) else if (h.getD x.toNat []).length = 1 then (e, h, 7) else (e + 1, h.set x.toNat ((h.getD x.toNat []).filter (· != n)), 0)

theorem turned_ow (e : Int) (h : List (List Int)) (x : Nat) (l : List Int) (hh : h.length ≤ 1000000) (hx : x < h.length) (he : 0 ≤ e ∧ e < 2147483647) (s : St) (k1 k : Key) (ty m : Nat) (hm : m = l.length) (hg : s.hp.get k1 = some (.row ty 1 (cl l) false)) : callEv cfg (runL cfg) 60 [.ag [iv e, .t (gl h)], iv x, .ow k1 1 0 m] s k = some (.ag [iv (e + 1), .t (gl (h.set x l))], freezeAll s.hp [k1], s.ck) := by
  subst hm
  have hps : puresOf s.hp [.ag [iv e, .t (gl h)], iv x, .ow k1 1 0 l.length] = some [.ag [iv e, .t (gl h)], iv x, .t (il l)] := by
    have ht : List.take l.length (cl l) = cl l := List.take_of_length_le (by simp [cl])
    simp [puresOf, pureOf, treesOf, treeOf, hg, ht, gl, il, cl]
    simpa [cl] using ht
  exact callEv_k (C := cfg) (k := k) rfl rfl hps (turned_ret e h x l hh hx he) rfl

theorem pret_ret (e : Int) (h : List (List Int)) (x n : Int) (hh : h.length ≤ 1000000) (hr : ∀ r ∈ h, r.length ≤ 100000) : RetT cfg 24 [.ag [iv e, .t (gl h)], iv x, iv n] (.tu [.ag [iv (pret e h x n).1, .t (gl (pret e h x n).2.1)], iv (pret e h x n).2.2]) := by
  have hm := fun s k => callEv_tr (C := cfg) (may_ret e h x n hh (fun r hm => by have := hr r hm; omega)) rfl rfl rfl s k
  have hho := fun s k => callEv_tr (C := cfg) (holds_ret e h x n (fun r hm => by have := hr r hm; omega)) rfl rfl rfl s k
  simp only [gl, il, iv, bv] at hm hho
  unfold RetT
  rw [runL_pf (fn := f24) rfl rfl]
  unfold pret
  by_cases h1 : may e h x n = false
  · rw [if_pos h1]
    simp [gl, il, hm, h1, over]
    refine ⟨_, _, ⟨rfl, rfl⟩, ?_⟩
    simp [resOf, resOfs, resOf1, treesOf, treeOf, gl, il]
  · rw [if_neg h1]
    have h1' : may e h x n = true := by simpa using h1
    by_cases h2 : holds h x n = false
    · rw [if_pos h2]
      simp [gl, il, hm, hho, h1', h2, over]
      refine ⟨_, _, ⟨rfl, rfl⟩, ?_⟩
      simp [resOf, resOfs, resOf1, treesOf, treeOf, gl, il]
    · rw [if_neg h2]
      have h2' : holds h x n = true := by simpa using h2
      have hp := h1'
      simp only [may, Bool.and_eq_true, decide_eq_true_eq] at hp
      obtain ⟨⟨⟨⟨⟨p1, p2⟩, p3⟩, p4⟩, p5⟩, p6⟩ := hp
      have p0 := (right_e p1).1
      obtain ⟨y, rfl⟩ : ∃ y : Nat, x = y := ⟨x.toNat, by omega⟩
      have hy : y < h.length := by omega
      have hry := hr _ (List.getElem_mem hy)
      have hgd : h.getD y [] = h[y] := by simp [List.getD_eq_getElem?_getD, List.getElem?_eq_getElem hy]
      simp only [Int.toNat_natCast, hgd]
      by_cases h3 : h[y].length = 1
      · rw [if_pos h3]
        simp [gl, il, hm, hho, h1', h2', over, hy, h3]
        refine ⟨_, _, ⟨rfl, rfl⟩, ?_⟩
        simp [resOf, resOfs, resOf1, treesOf, treeOf, gl, il]
      · rw [if_neg h3]
        have h3b : ((h[y].length : Int) == 1) = false := by simp; omega
        have hcl := fun hp k => callO_tr (C := cfg) (clone_ret (h[y].map fun n => [.i .i64 n]) (by simp) (by simpa using (by omega : h[y].length ≤ 1000000))) rfl rfl rfl hp k
        obtain ⟨c, hde⟩ := del_run h[y] n (by omega) ⟨38, 4, 7⟩ ⟨5, 0, 1⟩ 3 3 [(⟨6, 0, 2⟩, .box 27 [.t (.i .i64 0), .nl]), (⟨5, 0, 1⟩, .box 3 [iv n]), (⟨3, 0, 0⟩, .box 27 [iv e, .t (gl h)])] (by simp) (by simp) (by simp) (by simp) 5
        have hdE := fun (env : Env) (k : Key) => callEv_h (C := cfg) (s := ⟨env, _, 4⟩) rfl hde k
        have hT := fun (s : St) (k1 k : Key) (hg : s.hp.get k1 = some (.row 3 1 (cl (h[y].filter (· != n))) false)) => turned_ow e h y (h[y].filter (· != n)) hh hy ⟨p0, p6⟩ s k1 k _ _ rfl hg
        simp only [gl, il, iv, bv, cl, List.length_map] at hcl hdE hT
        simp [gl, il, hm, hho, h1', h2', hy, h3b, hcl, hdE, hT, freezeAll, freeze1, over, keptB, isBox, isRow]
        refine ⟨_, _, ⟨rfl, rfl⟩, ?_⟩
        simp [resOf, resOfs, resOf1, treesOf, treeOf, gl, il]
end Go.Proofs.YtbocnaoihepjfaaGreat.Pv
end

section
/- What a fleet's Drop, Twice, Add, Retire, Bag, Worked, Done tell. -/
namespace Go.Proofs.YtbocnaoihepjfaaGreat.Pv
open Go Go.Pev
variable {N : Nat}

/-- The same but for what lies in the box. -/
theorem fls_put {h : HP} {ck cf ca cb : Nat} {F F' : Flt} {v v' : Vs} (hB : FlB h cf F v) (l1 : cf < ck) (l2 : ca < ck) (l3 : cb < ck) (hr : F.at_ < F.m.lays.length → rowsAre h F v ca cb) (hV : VsOk F' v') (e1 : F'.parts = F.parts) (e2 : F'.ans = F.ans) (e3 : F'.answd = F.answd) (e4 : F'.at_ = F.at_) (e5 : F'.m = F.m) (g1 : v'.vp = v.vp) (g2 : v'.va = v.va) (g3 : v'.vd = v.vd) : FlS (h.put ⟨34, cf, 5⟩ ⟨34, cf, 5⟩ (.box 78 (fcs F' v'))) ck cf ca cb F' := by
  refine ⟨v', ⟨?_, hV⟩, l1, l2, l3, fun hc => ?_⟩
  · rw [hp_get_put, if_pos rfl, hB.1]; rfl
  · rw [e4, e5] at hc
    obtain ⟨r1, r2, r3, r4, r5⟩ := hr hc
    exact ⟨by rw [g1, e1]; exact r1, by rw [g2, e1]; exact r2, by rw [g3, e1]; exact r3, by rw [get_put_ne (by simp), e2]; exact r4, by rw [get_put_ne (by simp), e3]; exact r5⟩
theorem ran_put {h : HP} {ck cf ca cb n : Nat} (ob : Ob) : Ran h ck cf ca cb (h.put ⟨34, cf, 5⟩ ⟨34, cf, 5⟩ ob) (ck + n) ca cb := Ran.to (by omega) fun q hq e => get_put_ne e
theorem take_s {l : List (List UInt8)} {i : Int} (h : ∀ s ∈ l, s.length ≤ 100000) : (∀ s ∈ (bagTake l i).2.1, s.length ≤ 100000) ∧ (bagTake l i).1.length ≤ 100000 ∧ (bagTake l i).2.1.length ≤ l.length := by
  unfold bagTake
  split
  · refine ⟨fun s hs => ?_, ?_, ?_⟩
    · rcases List.mem_append.1 hs with hs | hs
      · exact h s (List.mem_of_mem_take hs)
      · exact h s (List.mem_of_mem_drop hs)
    · rename_i hc
      have hj : i.toNat < l.length := by omega
      have : l.getD i.toNat [] = l[i.toNat] := by simp [List.getD_eq_getElem?_getD, hj]
      simp only [this]
      exact h _ (List.getElem_mem hj)
    · simp; omega
  · exact ⟨h, by simp, Nat.le_refl _⟩
def dropP (F : Flt) (i : Int) : Flt × Int := ({ F with bag := (bagTake F.bag i).2.1 }, if (bagTake F.bag i).2.2 then 0 else 4)
theorem bag_ok {F : Flt} {b : List (List UInt8)} (hO : Ok N F) (h1 : b.length ≤ 1000000) (h2 : ∀ s ∈ b, s.length ≤ 100000) : Ok N { F with bag := b } := ⟨⟨hO.f0.m, hO.f0.toks, hO.f0.ntok, hO.f0.ph, h1⟩, fun hc => ⟨(hO.f1 hc).na, (hO.f1 hc).nd, (hO.f1 hc).np, (hO.f1 hc).tok, (hO.f1 hc).toks, (hO.f1 hc).ntok, (hO.f1 hc).ph, h1⟩, hO.ans, hO.led, h2, hO.led5⟩
theorem drop_run {h : HP} {ck cf ca cb : Nat} {F : Flt} (i : Int) (hS : FlS h ck cf ca cb F) (hO : Ok N F) : ∃ h' ck', runL cfg 29 [.pt ⟨34, cf, 5⟩ 15 0 0, iv i] h ck = some (iv (dropP F i).2, h', ck') ∧ FlS h' ck' cf ca cb (dropP F i).1 ∧ Ok N (dropP F i).1 ∧ Ran h ck cf ca cb h' ck' ca cb := by
  obtain ⟨v, hB, l1, l2, l3, hr⟩ := hS
  have hg := hB.1
  obtain ⟨o0, o1, o2, o3, o4, o5, o6⟩ := hB.2
  have hT := fun s k => callEv_rd (C := cfg) (btake_ret F.bag i hO.f0.bag) rfl rfl (rdA_v o5 (rdA_t rdA_nil)) s k
  obtain ⟨t1, t2, t3⟩ := take_s (i := i) hO.bags
  unfold dropP
  generalize bagTake F.bag i = r at *
  obtain ⟨s, rest, ok⟩ := r
  have hV : VsOk { F with bag := rest } { v with vb := .t (sl rest) } := ⟨o0, o1, o2, o3, o4, rd_t _, o6⟩
  refine ⟨h.put ⟨34, cf, 5⟩ ⟨34, cf, 5⟩ (.box 78 (fcs { F with bag := rest } { v with vb := .t (sl rest) })), ck + 5, ?_, fls_le (fls_put hB l1 l2 l3 hr hV rfl rfl rfl rfl rfl rfl rfl rfl) (by omega), bag_ok hO (by have := hO.f0.bag; simp only at t3 ⊢; omega) t1, ran_put _⟩
  simp only [iv, bv] at hT
  simp only [fcs] at hg
  rw [runL_pf (fn := f29) rfl rfl]
  cases ok <;> simp [fcs, hg, hT, filt_t, over]
def twiceP (F : Flt) (i : Int) : Flt × Int := if 0 ≤ i ∧ i < F.bag.length then ({ F with bag := bagTwice F.bag i }, 0) else (F, 4)
theorem twice_s {l : List (List UInt8)} {i : Int} (h : ∀ s ∈ l, s.length ≤ 100000) (hl : l.length ≤ 1000000) : (∀ s ∈ bagTwice l i, s.length ≤ 100000) ∧ (bagTwice l i).length ≤ 1000000 := by
  unfold bagTwice
  split
  · rename_i hc
    have hj : i.toNat < l.length := by omega
    have e : l.getD i.toNat [] = l[i.toNat] := by simp [List.getD_eq_getElem?_getD, hj]
    unfold bagPut
    split
    · refine ⟨fun s hs => ?_, by simp; omega⟩
      rcases List.mem_append.1 hs with hs | hs
      · exact h s hs
      · rw [List.mem_singleton] at hs
        rw [hs, e]
        exact h _ (List.getElem_mem hj)
    · exact ⟨h, hl⟩
  · exact ⟨h, hl⟩
theorem twice_run {h : HP} {ck cf ca cb : Nat} {F : Flt} (i : Int) (hS : FlS h ck cf ca cb F) (hO : Ok N F) : ∃ h' ck', runL cfg 63 [.pt ⟨34, cf, 5⟩ 15 0 0, iv i] h ck = some (iv (twiceP F i).2, h', ck') ∧ FlS h' ck' cf ca cb (twiceP F i).1 ∧ Ok N (twiceP F i).1 ∧ Ran h ck cf ca cb h' ck' ca cb := by
  have hS0 := hS
  obtain ⟨v, hB, l1, l2, l3, hr⟩ := hS
  have hg := hB.1
  obtain ⟨o0, o1, o2, o3, o4, o5, o6⟩ := hB.2
  have hT := fun s k => callEv_rd (C := cfg) (btwice_ret F.bag i hO.f0.bag) rfl rfl (rdA_v o5 (rdA_t rdA_nil)) s k
  have hlen := rd_len o5
  rw [slc_len] at hlen
  rw [runL_pf (fn := f63) rfl rfl]
  unfold twiceP
  simp only [fcs] at hg
  by_cases c1 : i < 0
  · rw [if_neg (by omega)]
    refine ⟨h, ck + 3, ?_, fls_le hS0 (by omega), hO, Ran.to (by omega) fun _ _ _ => rfl⟩
    simp [hg, c1, filt_t]
  by_cases c2 : (F.bag.length : Int) ≤ i
  · rw [if_neg (by omega)]
    refine ⟨h, ck + 3, ?_, fls_le hS0 (by omega), hO, Ran.to (by omega) fun _ _ _ => rfl⟩
    simp [hg, c1, c2, hlen, filt_t]
  rw [if_pos (by omega)]
  obtain ⟨t1, t2⟩ := twice_s (i := i) hO.bags hO.f0.bag
  have hV : VsOk { F with bag := bagTwice F.bag i } { v with vb := .t (sl (bagTwice F.bag i)) } := ⟨o0, o1, o2, o3, o4, rd_t _, o6⟩
  refine ⟨h.put ⟨34, cf, 5⟩ ⟨34, cf, 5⟩ (.box 78 (fcs { F with bag := bagTwice F.bag i } { v with vb := .t (sl (bagTwice F.bag i)) })), ck + 4, ?_, fls_le (fls_put hB l1 l2 l3 hr hV rfl rfl rfl rfl rfl rfl rfl rfl) (by omega), bag_ok hO t2 t1, ran_put _⟩
  simp [fcs, hg, hT, c1, c2, hlen, filt_t, over]
def addP (F : Flt) (x n : Int) : Flt × Int := ({ F with pe := (padd F.pe F.ph x n).1, ph := (padd F.pe F.ph x n).2.1 }, (padd F.pe F.ph x n).2.2)
def retP (F : Flt) (x n : Int) : Flt × Int := ({ F with pe := (pret F.pe F.ph x n).1, ph := (pret F.pe F.ph x n).2.1 }, (pret F.pe F.ph x n).2.2)
theorem map_ok {F : Flt} {e : Int} {ph : List (List Int)} (hO : Ok N F) (h1 : ph.length ≤ 1000000 ∧ ∀ r ∈ ph, r.length ≤ 100000) : Ok N { F with pe := e, ph := ph } := ⟨⟨hO.f0.m, hO.f0.toks, hO.f0.ntok, h1, hO.f0.bag⟩, fun hc => ⟨(hO.f1 hc).na, (hO.f1 hc).nd, (hO.f1 hc).np, (hO.f1 hc).tok, (hO.f1 hc).toks, (hO.f1 hc).ntok, h1, hO.f0.bag⟩, hO.ans, hO.led, hO.bags, hO.led5⟩
theorem padd_few {e : Int} {ph : List (List Int)} (x n : Int) (h : ph.length ≤ 1000000 ∧ ∀ r ∈ ph, r.length ≤ 100000) : (padd e ph x n).2.1.length ≤ 1000000 ∧ ∀ r ∈ (padd e ph x n).2.1, r.length ≤ 100000 := by
  unfold padd
  split
  · exact h
  · split
    · exact h
    · rename_i h1 h2
      refine ⟨by simp; exact h.1, fun r hr => ?_⟩
      rcases List.mem_or_eq_of_mem_set hr with hr | rfl
      · exact h.2 r hr
      · have hm : may e ph x n = true := by simpa using h1
        simp only [may, right, Bool.and_eq_true, decide_eq_true_eq, List.all_eq_true] at hm
        have hxl : x.toNat < ph.length := by omega
        have hrow := (hm.1.1.1.1.1.2 _ (List.getElem_mem hxl)).1
        have hl := rowUp_len hrow
        have eg : ph.getD x.toNat [] = ph[x.toNat] := by simp [List.getD_eq_getElem?_getD, hxl]
        rw [eg]
        simp only [srt, List.length_mergeSort, List.length_append, List.length_cons, List.length_nil]
        omega
theorem pret_few {e : Int} {ph : List (List Int)} (x n : Int) (h : ph.length ≤ 1000000 ∧ ∀ r ∈ ph, r.length ≤ 100000) : (pret e ph x n).2.1.length ≤ 1000000 ∧ ∀ r ∈ (pret e ph x n).2.1, r.length ≤ 100000 := by
  unfold pret
  split
  · exact h
  · split
    · exact h
    · split
      · exact h
      · rename_i h1 h2 h3
        refine ⟨by simp; exact h.1, fun r hr => ?_⟩
        rcases List.mem_or_eq_of_mem_set hr with hr | rfl
        · exact h.2 r hr
        · have hm : may e ph x n = true := by simpa using h1
          simp only [may, right, Bool.and_eq_true, decide_eq_true_eq, List.all_eq_true] at hm
          have hxl : x.toNat < ph.length := by omega
          have eg : ph.getD x.toNat [] = ph[x.toNat] := by simp [List.getD_eq_getElem?_getD, hxl]
          rw [eg]
          have := List.length_filter_le (fun z => z != n) ph[x.toNat]
          have := h.2 _ (List.getElem_mem hxl)
          omega
theorem fadd_run {h : HP} {ck cf ca cb : Nat} {F : Flt} (x n : Int) (hS : FlS h ck cf ca cb F) (hO : Ok N F) : ∃ h' ck', runL cfg 25 [.pt ⟨34, cf, 5⟩ 15 0 0, iv x, iv n] h ck = some (iv (addP F x n).2, h', ck') ∧ FlS h' ck' cf ca cb (addP F x n).1 ∧ Ok N (addP F x n).1 ∧ Ran h ck cf ca cb h' ck' ca cb := by
  obtain ⟨v, hB, l1, l2, l3, hr⟩ := hS
  have hg := hB.1
  have hT := fun s k => callEv_tr (C := cfg) (padd_ret F.pe F.ph x n hO.f0.ph.1 hO.f0.ph.2) rfl rfl rfl s k
  have hfew := padd_few (e := F.pe) x n hO.f0.ph
  unfold addP
  generalize padd F.pe F.ph x n = r at *
  obtain ⟨e, ph, er⟩ := r
  have hX : FlS (h.put ⟨34, cf, 5⟩ ⟨34, cf, 5⟩ (.box 78 (fcs { F with pe := e, ph := ph } v))) ck cf ca cb { F with pe := e, ph := ph } := fls_put hB l1 l2 l3 hr hB.2 rfl rfl rfl rfl rfl rfl rfl rfl
  refine ⟨(⟨7, ck + 1, 10⟩, .box 27 [iv e, .t (gl ph)]) :: h.put ⟨34, cf, 5⟩ ⟨34, cf, 5⟩ (.box 78 (fcs { F with pe := e, ph := ph } v)), ck + 4, ?_, fls_le (fls_new hX (s := 7) (c := ck + 1) (o := 10) (by decide) (by decide) (by decide) _ (Nat.le_refl _)) (by omega), map_ok hO hfew, Ran.to (by omega) fun q hq e => by rw [get_new (by omega), get_put_ne e]⟩
  simp only [fcs, gl, iv] at hT hg
  rw [runL_pf (fn := f25) rfl rfl]
  simp [fcs, gl, hg, hT, filt_t, over]
theorem fret_run {h : HP} {ck cf ca cb : Nat} {F : Flt} (x n : Int) (hS : FlS h ck cf ca cb F) (hO : Ok N F) : ∃ h' ck', runL cfg 26 [.pt ⟨34, cf, 5⟩ 15 0 0, iv x, iv n] h ck = some (iv (retP F x n).2, h', ck') ∧ FlS h' ck' cf ca cb (retP F x n).1 ∧ Ok N (retP F x n).1 ∧ Ran h ck cf ca cb h' ck' ca cb := by
  obtain ⟨v, hB, l1, l2, l3, hr⟩ := hS
  have hg := hB.1
  have hT := fun s k => callEv_tr (C := cfg) (pret_ret F.pe F.ph x n hO.f0.ph.1 hO.f0.ph.2) rfl rfl rfl s k
  have hfew := pret_few (e := F.pe) x n hO.f0.ph
  unfold retP
  generalize pret F.pe F.ph x n = r at *
  obtain ⟨e, ph, er⟩ := r
  have hX : FlS (h.put ⟨34, cf, 5⟩ ⟨34, cf, 5⟩ (.box 78 (fcs { F with pe := e, ph := ph } v))) ck cf ca cb { F with pe := e, ph := ph } := fls_put hB l1 l2 l3 hr hB.2 rfl rfl rfl rfl rfl rfl rfl rfl
  refine ⟨(⟨7, ck + 1, 10⟩, .box 27 [iv e, .t (gl ph)]) :: h.put ⟨34, cf, 5⟩ ⟨34, cf, 5⟩ (.box 78 (fcs { F with pe := e, ph := ph } v)), ck + 4, ?_, fls_le (fls_new hX (s := 7) (c := ck + 1) (o := 10) (by decide) (by decide) (by decide) _ (Nat.le_refl _)) (by omega), map_ok hO hfew, Ran.to (by omega) fun q hq e => by rw [get_new (by omega), get_put_ne e]⟩
  simp only [fcs, gl, iv] at hT hg
  rw [runL_pf (fn := f26) rfl rfl]
  simp [fcs, gl, hg, hT, filt_t, over]
end Go.Proofs.YtbocnaoihepjfaaGreat.Pv
end

section
/- What a fleet's Bag, Worked, Done tell. -/
namespace Go.Proofs.YtbocnaoihepjfaaGreat.Pv
open Go Go.Pev
variable {N : Nat}

theorem fls_fr {h h' : HP} {ck ck' cf ca cb : Nat} {F : Flt} (hS : FlS h ck cf ca cb F) (hle : ck ≤ ck') (hfr : ∀ q, q.c < ck → h'.get q = h.get q) : FlS h' ck' cf ca cb F := by
  obtain ⟨v, hB, l1, l2, l3, hr⟩ := hS
  refine ⟨v, ⟨?_, hB.2⟩, by omega, by omega, by omega, fun hc => ?_⟩
  · rw [hfr _ l1]; exact hB.1
  · obtain ⟨r1, r2, r3, r4, r5⟩ := hr hc
    exact ⟨r1, r2, r3, by rw [hfr _ l2]; exact r4, by rw [hfr _ l3]; exact r5⟩
theorem callEv_rdo {C : Cfg} {f : Nat} {args ps : List V} {ty sz : Nat} {els : List (List T)} (h : RetO C f ps ty sz els) (hm : C.hpm f = false) (ho : C.own f = true) (ha : RdA args ps) (s : St) (k : Key) : callEv C (runL C) f args s k = some (.ow k sz 0 els.length, (k, .row ty sz els false) :: s.hp, s.ck) := by
  rw [callEv_o hm ho (rdA_is ha s.hp).1 h, (rdA_is ha s.hp).2]; rfl
theorem bag_run {h : HP} {ck cf ca cb : Nat} {F : Flt} (hS : FlS h ck cf ca cb F) (hO : Ok N F) : runL cfg 14 [.pt ⟨34, cf, 5⟩ 15 0 0] h ck = some (.ow ⟨7, ck + 1, 4⟩ 1 0 F.bag.length, (⟨7, ck + 1, 4⟩, .row 9 1 (slc F.bag) false) :: (⟨2, ck, 0⟩, .row 9 1 [] false) :: h, ck + 2) := by
  obtain ⟨v, hB, l1, l2, l3, hr⟩ := hS
  have hg := hB.1
  obtain ⟨o0, o1, o2, o3, o4, o5, o6⟩ := hB.2
  have hc := fun s k => callEv_rdo (C := cfg) (clones_ret F.bag hO.f0.bag) rfl rfl (rdA_v o5 rdA_nil) s k
  have hl := slc_len F.bag
  rw [hl] at hc
  simp only [fcs] at hg
  rw [runL_pf (fn := f14) rfl rfl]
  simp [hg, hc, filt_t]
def doneP (F : Flt) : List (List Int) × Bool := if F.at_ < F.m.lays.length then ([], false) else (F.toks, true)
theorem done_run {h : HP} {ck cf ca cb : Nat} {F : Flt} (hS : FlS h ck cf ca cb F) (hO : Ok N F) : ∃ h' ck' kd, runL cfg 17 [.pt ⟨34, cf, 5⟩ 15 0 0] h ck = some (.tu [.ow kd 1 0 (doneP F).1.length, bv (doneP F).2], h', ck') ∧ h'.get kd = some (.row 42 1 ((doneP F).1.map fun r => [il r]) false) ∧ ck ≤ ck' ∧ ck ≤ kd.c ∧ kd.c < ck' ∧ (kd.s = 2 ∨ kd.s = 19) ∧ ∀ q, q.c < ck → h'.get q = h.get q := by
  obtain ⟨v, hB, l1, l2, l3, hr⟩ := hS
  have hg := hB.1
  rw [runL_pf (fn := f17) rfl rfl]
  unfold doneP
  by_cases c : F.at_ < F.m.lays.length
  · rw [if_pos c]
    refine ⟨(⟨2, ck + 1 + 1, 0⟩, .row 42 1 [] false) :: (⟨2, ck, 0⟩, .row 42 1 [] false) :: h, ck + 3, ⟨2, ck + 1 + 1, 0⟩, ?_, by simp, by omega, by simp; omega, by simp, .inl rfl, fun q hq => by rw [get_new (by omega), get_new hq]⟩
    simp only [fcs, laysT] at hg
    simp [hg, c, filt_t]
  · rw [if_neg c]
    have hc := fun s k => callEv_tro (C := cfg) (clone2_ret (F.toks.map fun r => [il r]) (by simp) (by simpa using hO.f0.toks.1)) rfl rfl rfl s k
    refine ⟨(⟨19, ck + 1 + 1, 4⟩, .row 42 1 (F.toks.map fun r => [il r]) false) :: (⟨2, ck, 0⟩, .row 42 1 [] false) :: h, ck + 3, ⟨19, ck + 1 + 1, 4⟩, ?_, by simp, by omega, by simp; omega, by simp, .inr rfl, fun q hq => by rw [get_new (by omega), get_new hq]⟩
    simp only [fcs, laysT, gl] at hg
    simp only [List.length_map, il] at hc
    simp [hg, c, filt_t, hc]
def workedP (F : Flt) : Nat := (F.led.map (·.length)).sum
def wkS (F : Flt) (i : Nat) : Nat := ((F.led.take i).map (·.length)).sum
def wkI (F : Flt) (v : Vs) (h : HP) (ck0 : Nat) (i : Nat) (s : St) : Prop := ∃ ck, ck0 ≤ ck ∧ s = ⟨[(3, iv (wkS F i)), (9, .ag [v.l0, v.l1, v.l2, v.l3, v.l4]), (10, iv (i : Int))], h, ck⟩
theorem wk_bound {N : Nat} {F : Flt} (hO : Ok N F) (i : Nat) : wkS F i ≤ 5 * N := by
  have key : ∀ (l : List (List Ent)), (∀ x ∈ l, x.length ≤ N) → (l.map (·.length)).sum ≤ l.length * N := by
    intro l
    induction l with
    | nil => intro _; simp
    | cons a l ih =>
      intro h
      have h1 := ih (fun x hx => h x (List.mem_cons_of_mem _ hx))
      have h2 := h a List.mem_cons_self
      simp only [List.map_cons, List.sum_cons, List.length_cons, Nat.add_mul]
      omega
  have := key (F.led.take i) (fun x hx => (hO.led x (List.mem_of_mem_take hx)).1)
  have hl : (F.led.take i).length ≤ 5 := by simp [hO.led5]; omega
  have := Nat.mul_le_mul_right N hl
  unfold wkS
  omega
theorem wk_loop {h : HP} {F : Flt} {v : Vs} (hV : VsOk F v) (hO : Ok N F) (hN : N ≤ 1000000) (ck : Nat) : ∃ e ck', ck ≤ ck' ∧ evL cfg (.loop f18l0) ⟨[(3, iv 0), (9, .ag [v.l0, v.l1, v.l2, v.l3, v.l4]), (10, iv 0)], h, ck⟩ = some (.exit 0, ⟨(3, iv (workedP F)) :: e, h, ck'⟩) := by
  obtain ⟨o0, o1, o2, o3, o4, -⟩ := hV
  have h5 := hO.led5
  refine loop_q (Q := fun E => ∃ e ck', ck ≤ ck' ∧ E = some (.exit 0, ⟨(3, iv (workedP F)) :: e, h, ck'⟩)) 5 (wkI F v h ck) ?_ ?_ _ ⟨ck, Nat.le_refl _, rfl⟩
  · rintro i s hi ⟨ck, hck, rfl⟩
    have hs : wkS F (i + 1) = wkS F i + (F.led.getD i []).length := by
      unfold wkS
      have hil : i < F.led.length := by omega
      have e : F.led.getD i [] = F.led[i] := by simp [List.getD_eq_getElem?_getD, hil]
      rw [List.take_succ_eq_append_getElem hil, List.map_append, List.sum_append, e]
      simp only [List.map_cons, List.map_nil, List.sum_cons, List.sum_nil, Nat.add_zero]
    have b1 := wk_bound hO (i + 1)
    have hw : IntKind.i64.wrap ((wkS F i : Int) + ((F.led.getD i []).length : Int)) = (wkS F (i + 1) : Int) := by
      rw [hs] at b1 ⊢
      rw [wrap_id (by omega) (by omega)]; rfl
    have q0 := rd_len (xs := (F.led.getD 0 []).map enT) o0
    have q1 := rd_len (xs := (F.led.getD 1 []).map enT) o1
    have q2 := rd_len (xs := (F.led.getD 2 []).map enT) o2
    have q3 := rd_len (xs := (F.led.getD 3 []).map enT) o3
    have q4 := rd_len (xs := (F.led.getD 4 []).map enT) o4
    simp only [List.length_map, List.getD_eq_getElem?_getD] at q0 q1 q2 q3 q4 hw
    have e1 : IntKind.i64.wrap 1 = 1 := by decide
    have e2 : IntKind.i64.wrap 2 = 2 := by decide
    have e3 : IntKind.i64.wrap 3 = 3 := by decide
    have e4 : IntKind.i64.wrap 4 = 4 := by decide
    have e5 : IntKind.i64.wrap 5 = 5 := by decide
    match i, hi with
    | 0, _ => simp only [Int.natCast_zero] at hw ⊢
              simp [f18l0e, q0, filt_t, hw, e1]; exact ⟨_, by omega, rfl⟩
    | 1, _ => simp [f18l0e, q1, filt_t, hw, e2]; exact ⟨_, by omega, rfl⟩
    | 2, _ => simp [f18l0e, q2, filt_t, hw, e3]; exact ⟨_, by omega, rfl⟩
    | 3, _ => simp [f18l0e, q3, filt_t, hw, e4]; exact ⟨_, by omega, rfl⟩
    | 4, _ => simp [f18l0e, q4, filt_t, hw, e5]; exact ⟨_, by omega, rfl⟩
  · rintro s ⟨ck, hck, rfl⟩
    have : wkS F 5 = workedP F := by unfold wkS workedP; rw [List.take_of_length_le (by omega)]
    rw [this]
    simp [f18l0e, filt_t]
    omega
theorem worked_run {h : HP} {ck cf ca cb : Nat} {F : Flt} (hS : FlS h ck cf ca cb F) (hO : Ok N F) (hN : N ≤ 1000000) : ∃ ck', runL cfg 18 [.pt ⟨34, cf, 5⟩ 15 0 0] h ck = some (iv (workedP F), h, ck') ∧ ck ≤ ck' := by
  obtain ⟨v, hB, l1, l2, l3, hr⟩ := hS
  have hg := hB.1
  obtain ⟨e, ck', hle, hL⟩ := wk_loop (h := h) hB.2 hO hN (ck + 1 + 1 + 1)
  refine ⟨ck' + 1, ?_, by omega⟩
  simp only [fcs] at hg
  simp at hL
  rw [runL_pf (fn := f18) rfl rfl]
  simp [hg, filt_t, hL]
end Go.Proofs.YtbocnaoihepjfaaGreat.Pv
end

section
/- What a fleet's Deliver tells. -/
namespace Go.Proofs.YtbocnaoihepjfaaGreat.Pv
open Go Go.Pev
variable {N : Nat}

def ledAt (F : Flt) (n : Int) : List Ent := F.led.getD n.toNat []
def nodeP (F : Flt) (a : Msg) : List Ent × Msg × Bool := workP F.m F.pe F.ph a.to (ledAt F a.to) a
def workF (F : Flt) (a : Msg) : Flt := { F with led := F.led.set a.to.toNat (nodeP F a).1, bag := if (nodeP F a).2.2 then sendB F.bag (nodeP F a).2.1 else F.bag }
def gotP (F : Flt) (s : List UInt8) : Flt :=
  if (takeP s).2 ≠ 0 then F
  else if (takeP s).1.to = 0 then answerP F (takeP s).1
  else if (takeP s).1.to ≤ 4 then workF F (takeP s).1
  else F
def delvP (F : Flt) (i : Int) : Flt × Int :=
  if (bagTake F.bag i).2.2 then (gotP { F with bag := (bagTake F.bag i).2.1 } (bagTake F.bag i).1, 0) else (F, 4)
theorem takeP_ok {s : List UInt8} (h : (takeP s).2 = 0) : wrightM (takeP s).1 = true := by
  unfold takeP at h ⊢
  split
  · rename_i c; rw [if_pos c] at h; cases h
  · rename_i c
    rw [if_neg c] at h
    split
    · rename_i c2; rw [if_pos c2] at h; cases h
    · rename_i c2
      rw [if_neg c2] at h
      split
      · rename_i c3; rw [if_pos c3] at h; cases h
      · rename_i c3
        have : wrightM (msgB s) ≠ false := fun e => c3 (.inr e)
        simpa using this
theorem takeP_vec (s : List UInt8) : (takeP s).1.vec.length ≤ 1000000 := by
  by_cases h : (takeP s).2 = 0
  · have := (wright_num (takeP_ok h)).2.2.2.2.2.1; omega
  · unfold takeP at h ⊢
    split
    · simp [msg0]
    · split
      · simp [msg0]
      · split
        · simp [msg0]
        · rename_i c1 c2 c3
          rw [if_neg c1, if_neg c2, if_neg c3] at h
          exact absurd rfl h
theorem workV_len {m : Mod} {l : List Ent} {a : Msg} (hm : FewM m) (hl : ∀ e ∈ l, e.vec.length ≤ 1000000) (pe node : Int) (ph : List (List Int)) (hf : fitsP m pe ph node a = true) : (workV m l a).length ≤ 1000000 := by
  obtain ⟨i, hi, j, hj, ei, ej, hx, hla, hea⟩ := fits_exp hf
  unfold workV
  split
  · unfold findP
    split
    · simp
    · rename_i h
      have hlt := fidx_lt (atKey (keyOf a)) l
      have hq : (fidx (atKey (keyOf a)) l).toNat < l.length := by omega
      have : l.getD (fidx (atKey (keyOf a)) l).toNat ent0 = l[(fidx (atKey (keyOf a)) l).toNat] := by simp [List.getD_eq_getElem?_getD, hq]
      simp only [this]
      exact hl _ (List.getElem_mem hq)
  · rw [hea]
    simp only [runP, scoresP, List.length_map]
    exact ((hm.2 _ (List.getElem_mem hi)).2.2 _ (List.getElem_mem hj)).2.1
theorem nodeP_ok {F : Flt} {a : Msg} (hO : Ok N F) (hav : a.vec.length ≤ 1000000) : (nodeP F a).1.length ≤ N + 1 ∧ (∀ e ∈ (nodeP F a).1, e.vec.length ≤ 1000000) ∧ (nodeP F a).2.1.vec.length ≤ 1000000 := by
  have hl : (ledAt F a.to).length ≤ N ∧ ∀ e ∈ ledAt F a.to, e.vec.length ≤ 1000000 := by
    unfold ledAt
    by_cases h : a.to.toNat < F.led.length
    · have : F.led.getD a.to.toNat [] = F.led[a.to.toNat] := by simp [List.getD_eq_getElem?_getD, h]
      rw [this]; exact hO.led _ (List.getElem_mem h)
    · have : F.led.getD a.to.toNat [] = [] := by simp [List.getD_eq_getElem?_getD, h]
      rw [this]; simp
  unfold nodeP workP
  split
  · exact ⟨by simp only; omega, hl.2, by simp [msg0]⟩
  · split
    · exact ⟨by simp only; omega, hl.2, by simp [staleOf]⟩
    · rename_i h1 h2
      have hf : fitsP F.m F.pe F.ph a.to a = true := by simpa using h1
      have hv := workV_len hO.f0.m hl.2 _ _ _ hf
      refine ⟨?_, ?_, hv⟩
      · unfold workL; split
        · simp only; omega
        · simp only [List.length_append, List.length_cons, List.length_nil]; omega
      · intro e he
        unfold workL at he
        split at he
        · exact hl.2 e he
        · rcases List.mem_append.1 he with he | he
          · exact hl.2 e he
          · rw [List.mem_singleton] at he
            rw [he]; exact hv
theorem workF_ok {F : Flt} {a : Msg} (hO : Ok N F) (hav : a.vec.length ≤ 1000000) : Ok (N + 1) (workF F a) := by
  obtain ⟨n1, n2, n3⟩ := nodeP_ok hO hav
  have hbl : (workF F a).bag.length ≤ 1000000 := by
    simp only [workF]; split
    · exact sendB_len hO.f0.bag
    · exact hO.f0.bag
  have hbs : ∀ s ∈ (workF F a).bag, s.length ≤ 100000 := by
    simp only [workF]; split
    · exact sendB_s hO.bags
    · exact hO.bags
  refine ⟨⟨hO.f0.m, hO.f0.toks, hO.f0.ntok, hO.f0.ph, hbl⟩, fun hc => ⟨(hO.f1 hc).na, (hO.f1 hc).nd, (hO.f1 hc).np, (hO.f1 hc).tok, (hO.f1 hc).toks, (hO.f1 hc).ntok, (hO.f1 hc).ph, hbl⟩, hO.ans, ?_, hbs, by simp [workF, hO.led5]⟩
  intro l hl
  simp only [workF] at hl
  rcases List.mem_or_eq_of_mem_set hl with hl | rfl
  · have := hO.led l hl; exact ⟨by omega, this.2⟩
  · exact ⟨n1, n2⟩
theorem Ok.up {F : Flt} (h : Ok N F) : Ok (N + 1) F := ⟨h.f0, h.f1, h.ans, fun l hl => ⟨by have := (h.led l hl).1; omega, (h.led l hl).2⟩, h.bags, h.led5⟩
/-- The ledger's value of a node. -/
def Vs.at (v : Vs) : Nat → V
  | 0 => v.l0 | 1 => v.l1 | 2 => v.l2 | 3 => v.l3 | _ => v.l4
def Vs.put (v : Vs) (n : Nat) (x : V) : Vs := match n with
  | 0 => { v with l0 := x } | 1 => { v with l1 := x } | 2 => { v with l2 := x } | 3 => { v with l3 := x } | _ => { v with l4 := x }
theorem vs_put {F : Flt} {v : Vs} {n : Nat} (hn : n < 5) (hV : VsOk F v) (h5 : F.led.length = 5) (l : List Ent) : VsOk { F with led := F.led.set n l } (v.put n (.t (enl l))) := by
  obtain ⟨o0, o1, o2, o3, o4, o5, o6⟩ := hV
  obtain ⟨m, pe, ph, led, bag, toks, at_, parts, ans, answd⟩ := F
  simp only at h5 o0 o1 o2 o3 o4 o5 o6
  match led, h5 with
  | [a0, a1, a2, a3, a4], _ =>
    match n, hn with
    | 0, _ => exact ⟨rd_t _, o1, o2, o3, o4, o5, o6⟩
    | 1, _ => exact ⟨o0, rd_t _, o2, o3, o4, o5, o6⟩
    | 2, _ => exact ⟨o0, o1, rd_t _, o3, o4, o5, o6⟩
    | 3, _ => exact ⟨o0, o1, o2, rd_t _, o4, o5, o6⟩
    | 4, _ => exact ⟨o0, o1, o2, o3, rd_t _, o5, o6⟩
theorem vs_at {F : Flt} {v : Vs} {n : Nat} (hn : n < 5) (hV : VsOk F v) : Rd (v.at n) (enl (F.led.getD n [])) := by
  obtain ⟨o0, o1, o2, o3, o4, o5, o6⟩ := hV
  match n, hn with
  | 0, _ => exact o0
  | 1, _ => exact o1
  | 2, _ => exact o2
  | 3, _ => exact o3
  | 4, _ => exact o4
end Go.Proofs.YtbocnaoihepjfaaGreat.Pv
end

section
/- What a fleet's Deliver tells: the node's regions. -/
namespace Go.Proofs.YtbocnaoihepjfaaGreat.Pv
open Go Go.Pev
variable {N : Nat}

/-- The cells after a node's ledger was laid anew. -/
def lcs (n : Nat) (x d ly pe ph l0 l1 l2 l3 l4 vb tk at_ vp va vd : V) : List V := match n with
  | 1 => [d, ly, pe, ph, l0, x, l2, l3, l4, vb, tk, at_, vp, va, vd]
  | 2 => [d, ly, pe, ph, l0, l1, x, l3, l4, vb, tk, at_, vp, va, vd]
  | 3 => [d, ly, pe, ph, l0, l1, l2, x, l4, vb, tk, at_, vp, va, vd]
  | _ => [d, ly, pe, ph, l0, l1, l2, l3, x, vb, tk, at_, vp, va, vd]
def lsel (n : Nat) (l1 l2 l3 l4 : V) : V := match n with
  | 1 => l1 | 2 => l2 | 3 => l3 | _ => l4
def wst : Pc := .seq f21r10 (.seq f21r11 f21r12)
set_option maxHeartbeats 2000000 in
theorem wst1 {h : HP} {cf c8 ck : Nat} {d ly pe ph l0 l1 l2 l3 l4 vb tk at_ vp va vd : V} {a o : Msg} {L : T} {is : Bool} (hg : h.get ⟨34, cf, 5⟩ = some (.box 78 [d, ly, pe, ph, l0, l1, l2, l3, l4, vb, tk, at_, vp, va, vd])) (h8 : h.get ⟨8, c8, 5⟩ = some (mbox a)) (ht : a.to = 1) (hW : callQ (runL cfg) 53 [.ag [d, ly], .ag [pe, ph], iv 1, l1, msgV a] h = some (.tu [.t L, msgV o, bv is])) (hl : cf < ck) :
    ∃ e, evL cfg wst ⟨[(0, .pt ⟨34, cf, 5⟩ 15 0 0), (8, .pt ⟨8, c8, 5⟩ 11 0 0), (44, bv true)], h, ck⟩ = some (.normal, ⟨(0, .pt ⟨34, cf, 5⟩ 15 0 0) :: (11, .pt ⟨11, ck, 23⟩ 11 0 0) :: (78, bv is) :: e, HP.put ((⟨11, ck, 23⟩, mbox o) :: h) ⟨34, cf, 5⟩ ⟨34, cf, 5⟩ (.box 78 (lcs 1 (.t L) d ly pe ph l0 l1 l2 l3 l4 vb tk at_ vp va vd)), ck + 1 + 1 + 1⟩) := by
  unfold wst
  simp only [msgV, il, iv, bv] at hW
  simp only [mbox, il, iv, ht] at h8
  rw [ht] at hW
  simp [hg, h8, hW, filt_t, lcs, mbox, HP.put, over]
set_option maxHeartbeats 2000000 in
theorem wst2 {h : HP} {cf c8 ck : Nat} {d ly pe ph l0 l1 l2 l3 l4 vb tk at_ vp va vd : V} {a o : Msg} {L : T} {is : Bool} (hg : h.get ⟨34, cf, 5⟩ = some (.box 78 [d, ly, pe, ph, l0, l1, l2, l3, l4, vb, tk, at_, vp, va, vd])) (h8 : h.get ⟨8, c8, 5⟩ = some (mbox a)) (ht : a.to = 2) (hW : callQ (runL cfg) 53 [.ag [d, ly], .ag [pe, ph], iv 2, l2, msgV a] h = some (.tu [.t L, msgV o, bv is])) (hl : cf < ck) :
    ∃ e, evL cfg wst ⟨[(0, .pt ⟨34, cf, 5⟩ 15 0 0), (8, .pt ⟨8, c8, 5⟩ 11 0 0), (44, bv true)], h, ck⟩ = some (.normal, ⟨(0, .pt ⟨34, cf, 5⟩ 15 0 0) :: (11, .pt ⟨11, ck, 23⟩ 11 0 0) :: (78, bv is) :: e, HP.put ((⟨11, ck, 23⟩, mbox o) :: h) ⟨34, cf, 5⟩ ⟨34, cf, 5⟩ (.box 78 (lcs 2 (.t L) d ly pe ph l0 l1 l2 l3 l4 vb tk at_ vp va vd)), ck + 1 + 1 + 1⟩) := by
  unfold wst
  simp only [msgV, il, iv, bv] at hW
  simp only [mbox, il, iv, ht] at h8
  rw [ht] at hW
  simp [hg, h8, hW, filt_t, lcs, mbox, HP.put, over]
set_option maxHeartbeats 2000000 in
theorem wst3 {h : HP} {cf c8 ck : Nat} {d ly pe ph l0 l1 l2 l3 l4 vb tk at_ vp va vd : V} {a o : Msg} {L : T} {is : Bool} (hg : h.get ⟨34, cf, 5⟩ = some (.box 78 [d, ly, pe, ph, l0, l1, l2, l3, l4, vb, tk, at_, vp, va, vd])) (h8 : h.get ⟨8, c8, 5⟩ = some (mbox a)) (ht : a.to = 3) (hW : callQ (runL cfg) 53 [.ag [d, ly], .ag [pe, ph], iv 3, l3, msgV a] h = some (.tu [.t L, msgV o, bv is])) (hl : cf < ck) :
    ∃ e, evL cfg wst ⟨[(0, .pt ⟨34, cf, 5⟩ 15 0 0), (8, .pt ⟨8, c8, 5⟩ 11 0 0), (44, bv true)], h, ck⟩ = some (.normal, ⟨(0, .pt ⟨34, cf, 5⟩ 15 0 0) :: (11, .pt ⟨11, ck, 23⟩ 11 0 0) :: (78, bv is) :: e, HP.put ((⟨11, ck, 23⟩, mbox o) :: h) ⟨34, cf, 5⟩ ⟨34, cf, 5⟩ (.box 78 (lcs 3 (.t L) d ly pe ph l0 l1 l2 l3 l4 vb tk at_ vp va vd)), ck + 1 + 1 + 1⟩) := by
  unfold wst
  simp only [msgV, il, iv, bv] at hW
  simp only [mbox, il, iv, ht] at h8
  rw [ht] at hW
  simp [hg, h8, hW, filt_t, lcs, mbox, HP.put, over]
set_option maxHeartbeats 2000000 in
theorem wst4 {h : HP} {cf c8 ck : Nat} {d ly pe ph l0 l1 l2 l3 l4 vb tk at_ vp va vd : V} {a o : Msg} {L : T} {is : Bool} (hg : h.get ⟨34, cf, 5⟩ = some (.box 78 [d, ly, pe, ph, l0, l1, l2, l3, l4, vb, tk, at_, vp, va, vd])) (h8 : h.get ⟨8, c8, 5⟩ = some (mbox a)) (ht : a.to = 4) (hW : callQ (runL cfg) 53 [.ag [d, ly], .ag [pe, ph], iv 4, l4, msgV a] h = some (.tu [.t L, msgV o, bv is])) (hl : cf < ck) :
    ∃ e, evL cfg wst ⟨[(0, .pt ⟨34, cf, 5⟩ 15 0 0), (8, .pt ⟨8, c8, 5⟩ 11 0 0), (44, bv true)], h, ck⟩ = some (.normal, ⟨(0, .pt ⟨34, cf, 5⟩ 15 0 0) :: (11, .pt ⟨11, ck, 23⟩ 11 0 0) :: (78, bv is) :: e, HP.put ((⟨11, ck, 23⟩, mbox o) :: h) ⟨34, cf, 5⟩ ⟨34, cf, 5⟩ (.box 78 (lcs 4 (.t L) d ly pe ph l0 l1 l2 l3 l4 vb tk at_ vp va vd)), ck + 1 + 1 + 1⟩) := by
  unfold wst
  simp only [msgV, il, iv, bv] at hW
  simp only [mbox, il, iv, ht] at h8
  rw [ht] at hW
  simp [hg, h8, hW, filt_t, lcs, mbox, HP.put, over]
end Go.Proofs.YtbocnaoihepjfaaGreat.Pv
end

section
/- What a fleet's Deliver tells. -/
namespace Go.Proofs.YtbocnaoihepjfaaGreat.Pv
open Go Go.Pev
variable {N : Nat}

theorem vs_same {v : Vs} {n : Nat} (hn : n < 5) (x : V) : (v.put n x).vp = v.vp ∧ (v.put n x).va = v.va ∧ (v.put n x).vd = v.vd := by
  match n, hn with
  | 0, _ => exact ⟨rfl, rfl, rfl⟩
  | 1, _ => exact ⟨rfl, rfl, rfl⟩
  | 2, _ => exact ⟨rfl, rfl, rfl⟩
  | 3, _ => exact ⟨rfl, rfl, rfl⟩
  | 4, _ => exact ⟨rfl, rfl, rfl⟩
theorem fcs_lcs {F : Flt} {v : Vs} {n : Nat} (h1 : 1 ≤ n) (h4 : n ≤ 4) (x : V) (l : List (List Ent)) : fcs { F with led := l } (v.put n x) = lcs n x (iv F.m.dim) (.t (laysT F.m)) (iv F.pe) (.t (gl F.ph)) v.l0 v.l1 v.l2 v.l3 v.l4 v.vb (.t (gl F.toks)) (iv F.at_) v.vp v.va v.vd := by
  match n, h1, h4 with
  | 1, _, _ => rfl
  | 2, _, _ => rfl
  | 3, _, _ => rfl
  | 4, _, _ => rfl
theorem wst_all {h : HP} {cf c8 ck : Nat} {d ly pe ph l0 l1 l2 l3 l4 vb tk at_ vp va vd : V} {a o : Msg} {L : T} {is : Bool} {n : Nat} (h1 : 1 ≤ n) (h4 : n ≤ 4) (hg : h.get ⟨34, cf, 5⟩ = some (.box 78 [d, ly, pe, ph, l0, l1, l2, l3, l4, vb, tk, at_, vp, va, vd])) (h8 : h.get ⟨8, c8, 5⟩ = some (mbox a)) (ht : a.to = n) (hW : callQ (runL cfg) 53 [.ag [d, ly], .ag [pe, ph], iv n, lsel n l1 l2 l3 l4, msgV a] h = some (.tu [.t L, msgV o, bv is])) (hl : cf < ck) :
    ∃ e, evL cfg wst ⟨[(0, .pt ⟨34, cf, 5⟩ 15 0 0), (8, .pt ⟨8, c8, 5⟩ 11 0 0), (44, bv true)], h, ck⟩ = some (.normal, ⟨(0, .pt ⟨34, cf, 5⟩ 15 0 0) :: (11, .pt ⟨11, ck, 23⟩ 11 0 0) :: (78, bv is) :: e, HP.put ((⟨11, ck, 23⟩, mbox o) :: h) ⟨34, cf, 5⟩ ⟨34, cf, 5⟩ (.box 78 (lcs n (.t L) d ly pe ph l0 l1 l2 l3 l4 vb tk at_ vp va vd)), ck + 1 + 1 + 1⟩) := by
  match n, h1, h4 with
  | 1, _, _ => exact wst1 hg h8 ht hW hl
  | 2, _, _ => exact wst2 hg h8 ht hW hl
  | 3, _, _ => exact wst3 hg h8 ht hW hl
  | 4, _, _ => exact wst4 hg h8 ht hW hl
def wtl : Pc := .cond (.tmp 78) f21r13 .skip
/-- The heap after the node's work. -/
theorem flb_work {h : HP} {cf ck : Nat} {F : Flt} {v : Vs} {n : Nat} (h1 : 1 ≤ n) (h4 : n ≤ 4) (hB : FlB h cf F v) (h5 : F.led.length = 5) (hl : cf < ck) (l : List Ent) (ob : Ob) : ∃ v' : Vs, FlB (HP.put ((⟨11, ck, 23⟩, ob) :: h) ⟨34, cf, 5⟩ ⟨34, cf, 5⟩ (.box 78 (lcs n (.t (enl l)) (iv F.m.dim) (.t (laysT F.m)) (iv F.pe) (.t (gl F.ph)) v.l0 v.l1 v.l2 v.l3 v.l4 v.vb (.t (gl F.toks)) (iv F.at_) v.vp v.va v.vd))) cf { F with led := F.led.set n l } v' ∧ v'.vp = v.vp ∧ v'.va = v.va ∧ v'.vd = v.vd := by
  obtain ⟨q1, q2, q3⟩ := vs_same (v := v) (n := n) (by omega) (.t (enl l))
  refine ⟨v.put n (.t (enl l)), ⟨?_, vs_put (by omega) hB.2 h5 l⟩, q1, q2, q3⟩
  rw [fcs_lcs h1 h4, hp_get_put, if_pos rfl, get_new (q := ⟨34, cf, 5⟩) hl, hB.1]
  rfl
theorem lsel_at {v : Vs} {n : Nat} (h1 : 1 ≤ n) (h4 : n ≤ 4) : lsel n v.l1 v.l2 v.l3 v.l4 = v.at n := by
  match n, h1, h4 with
  | 1, _, _ => rfl
  | 2, _, _ => rfl
  | 3, _, _ => rfl
  | 4, _, _ => rfl
theorem wtl_run {h : HP} {cf ck c11 : Nat} {F : Flt} {v : Vs} (hB : FlB h cf F v) (o : Msg) (h11 : h.get ⟨11, c11, 23⟩ = some (mbox o)) (is : Bool) (e : List (Nat × V)) (hb : F.bag.length ≤ 1000000) (hv : o.vec.length ≤ 1000000) :
    ∃ h' ck' vb e', evL cfg wtl ⟨(0, .pt ⟨34, cf, 5⟩ 15 0 0) :: (11, .pt ⟨11, c11, 23⟩ 11 0 0) :: (78, bv is) :: e, h, ck⟩ = some (.normal, ⟨e', h', ck'⟩) ∧ ck ≤ ck' ∧ FlB h' cf { F with bag := if is then sendB F.bag o else F.bag } { v with vb := vb } ∧ ∀ q, q.c < ck → q ≠ ⟨34, cf, 5⟩ → h'.get q = h.get q := by
  unfold wtl
  cases is with
  | false => exact ⟨h, ck, v.vb, _, by simp [bv]; rfl, Nat.le_refl _, hB, fun _ _ _ => rfl⟩
  | true =>
    obtain ⟨h3, ck3, vb3, hrun, hle, hB3, hfr3⟩ := send_run (ck := ck + 1) o hB hb hv
    have hS := fun e k => callEv_h (C := cfg) (s := ⟨e, h, ck⟩) rfl hrun k
    refine ⟨h3, ck3 + 1 + 1, vb3, [], ?_, by omega, hB3, fun q hq hk => hfr3 q (by omega) hk⟩
    simp only [mbox, il, iv] at h11
    simp only [msgV, il, iv] at hS
    simp [bv, h11, hS, filt_t]
theorem work_stage {h : HP} {cf ck c8 : Nat} {F : Flt} {v : Vs} (a : Msg) (hB : FlB h cf F v) (hO : Ok N F) (hN : N ≤ 800000) (hav : a.vec.length ≤ 1000000) (h0 : 1 ≤ a.to) (h4 : a.to ≤ 4) (h8 : h.get ⟨8, c8, 5⟩ = some (mbox a)) (hl : cf < ck) :
    ∃ e s, evL cfg wst ⟨[(0, .pt ⟨34, cf, 5⟩ 15 0 0), (8, .pt ⟨8, c8, 5⟩ 11 0 0), (44, bv true)], h, ck⟩ = some (.normal, s) ∧ ∃ h' ck' v', evL cfg wtl s = some (.normal, ⟨e, h', ck'⟩) ∧ ck ≤ ck' ∧ FlB h' cf (workF F a) v' ∧ v'.vp = v.vp ∧ v'.va = v.va ∧ v'.vd = v.vd ∧ ∀ q, q.c < ck → q ≠ ⟨34, cf, 5⟩ → h'.get q = h.get q := by
  obtain ⟨n, hn2⟩ : ∃ n : Nat, a.to = n := ⟨a.to.toNat, by omega⟩
  have hn1 : 1 ≤ n := by omega
  have hn4 : n ≤ 4 := by omega
  have hlok : (F.led.getD n []).length ≤ N ∧ ∀ e ∈ F.led.getD n [], e.vec.length ≤ 1000000 := by
    have hlt : n < F.led.length := by rw [hO.led5]; omega
    have : F.led.getD n [] = F.led[n] := by simp [List.getD_eq_getElem?_getD, hlt]
    rw [this]; exact hO.led _ (List.getElem_mem hlt)
  have hW := fun hp => callQ_rd (C := cfg) (args := [modV F.m, mapV F.pe F.ph, iv a.to, v.at n, msgV a]) (work_ret F.m F.pe F.ph a.to (F.led.getD n []) a hO.f0.m hO.f0.ph.1 (fun r hr => by have := hO.f0.ph.2 r hr; omega) (by omega) (by omega) hlok.2) (rdA_ag (cs := [.i .i64 F.m.dim, laysT F.m]) (rdA_ag (cs := [.i .i64 F.pe, gl F.ph]) (rdA_t (rdA_v (vs_at (by omega) hB.2) (rdA_ag (cs := msgC a) rdA_nil))))) hp
  have hnp : nodeP F a = workP F.m F.pe F.ph a.to (F.led.getD n []) a := by unfold nodeP ledAt; rw [hn2]; rfl
  obtain ⟨n1, n2, n3⟩ := nodeP_ok hO (a := a) hav
  unfold workF
  have hto : a.to.toNat = n := by omega
  rw [hto]
  rw [← hnp] at hW
  generalize nodeP F a = r at *
  obtain ⟨L, out, is⟩ := r
  simp only at hW n1 n2 n3 ⊢
  rw [hn2, ← lsel_at hn1 hn4] at hW
  obtain ⟨e, he⟩ := wst_all hn1 hn4 hB.1 h8 hn2 (hW _) hl
  obtain ⟨v2, hB2, q1, q2, q3⟩ := flb_work hn1 hn4 hB hO.led5 hl L (mbox out)
  have h11 : HP.get (HP.put ((⟨11, ck, 23⟩, mbox out) :: h) ⟨34, cf, 5⟩ ⟨34, cf, 5⟩ (.box 78 (lcs n (.t (enl L)) (iv F.m.dim) (.t (laysT F.m)) (iv F.pe) (.t (gl F.ph)) v.l0 v.l1 v.l2 v.l3 v.l4 v.vb (.t (gl F.toks)) (iv F.at_) v.vp v.va v.vd))) ⟨11, ck, 23⟩ = some (mbox out) := by
    rw [get_put_ne (by simp)]; simp [HP.get]
  obtain ⟨h3, ck3, vb3, e3, hrun, hle, hB3, hfr3⟩ := wtl_run (ck := ck + 1 + 1 + 1) hB2 out h11 is e hO.f0.bag n3
  refine ⟨e3, _, he, h3, ck3, _, hrun, by omega, hB3, q1, q2, q3, fun q hq hk => ?_⟩
  rw [hfr3 q (by omega) hk, get_put_ne hk, get_new hq]
end Go.Proofs.YtbocnaoihepjfaaGreat.Pv
end

section
/- What a fleet's Deliver tells, whole. -/
namespace Go.Proofs.YtbocnaoihepjfaaGreat.Pv
open Go Go.Pev
variable {N : Nat}

theorem evL_pre {C : Cfg} {a b c x : Pc} {s s' : St} (h : evL C (.seq a (.seq b c)) s = some (.normal, s')) : evL C (.seq a (.seq b (.seq c x))) s = evL C x s' := by
  have key : ∀ (r : Option (Ex × St)) (f : St → Option (Ex × St)) (t : Option (Ex × St)), thenC r f = t → ∀ s', t = some (.normal, s') → ∃ s1, r = some (.normal, s1) ∧ f s1 = some (.normal, s') := by
    intro r f t h s' ht
    subst ht
    cases r with
    | none => simp [thenC] at h
    | some r =>
      obtain ⟨o, s1⟩ := r
      cases o with
      | normal => exact ⟨s1, rfl, h⟩
      | _ => simp [thenC] at h
  rw [evL_seq] at h
  obtain ⟨s1, e1, h⟩ := key _ _ _ h _ rfl
  rw [evL_seq] at h
  obtain ⟨s2, e2, h⟩ := key _ _ _ h _ rfl
  rw [evL_seq, e1]
  show evL C _ s1 = _
  rw [evL_seq, e2]
  show evL C _ s2 = _
  rw [evL_seq, h]
  rfl
def dvW : Pc := .seq f21r10 (.seq f21r11 (.seq f21r12 wtl))
theorem dvW_run {h : HP} {cf ck c8 : Nat} {F : Flt} {v : Vs} (a : Msg) (hB : FlB h cf F v) (hO : Ok N F) (hN : N ≤ 800000) (hav : a.vec.length ≤ 1000000) (h0 : 1 ≤ a.to) (h4 : a.to ≤ 4) (h8 : h.get ⟨8, c8, 5⟩ = some (mbox a)) (hl : cf < ck) :
    ∃ e h' ck' v', evL cfg dvW ⟨[(0, .pt ⟨34, cf, 5⟩ 15 0 0), (8, .pt ⟨8, c8, 5⟩ 11 0 0), (44, bv true)], h, ck⟩ = some (.normal, ⟨e, h', ck'⟩) ∧ ck ≤ ck' ∧ FlB h' cf (workF F a) v' ∧ v'.vp = v.vp ∧ v'.va = v.va ∧ v'.vd = v.vd ∧ ∀ q, q.c < ck → q ≠ ⟨34, cf, 5⟩ → h'.get q = h.get q := by
  obtain ⟨e, s, hs, h', ck', v', ht, r⟩ := work_stage (N := N) a hB hO hN hav h0 h4 h8 hl
  exact ⟨e, h', ck', v', (evL_pre hs).trans ht, r⟩
def dvK : Pc := .block 0 (.seq f21r6 (.cond (.tmp 34) .skip (.seq f21r7 (.cond (.tmp 37) f21r8 (.seq f21r9 (.cond (.tmp 44) dvW .skip))))))
abbrev dvB : Pc := (.seq f21r0 (.seq f21r1 (.seq (.seq f21r2 (.cond (.tmp 24) (.seq f21r3 .ret) .skip)) (.seq f21r4 (.seq f21r5 (.seq dvK (.seq f21r14 .ret)))))))
def gotM (F : Flt) (a : Msg) (st : Int) : Flt := if st ≠ 0 then F else if a.to = 0 then answerP F a else if a.to ≤ 4 then workF F a else F
theorem ran_in {h h' : HP} {ck cf ca cb ck1 ck2 ck' ca' cb' : Nat} (r : Ran h ck1 cf ca cb h' ck2 ca' cb') (h1 : ck ≤ ck1) (h2 : ck2 ≤ ck') : Ran h ck cf ca cb h' ck' ca' cb' := by
  have := r.le
  refine ⟨by omega, fun q hq a b c => r.fr q (by omega) a b c, ?_, ?_⟩
  · rcases r.ca with e | e
    · exact .inl e
    · exact .inr (by omega)
  · rcases r.cb with e | e
    · exact .inl e
    · exact .inr (by omega)
theorem dvK_run {h : HP} {ck cf ca cb c8 : Nat} {F : Flt} (a : Msg) (st : Int) (hS : FlS h ck cf ca cb F) (hO : Ok N F) (hN : N ≤ 800000) (hav : a.vec.length ≤ 1000000) (hto : st = 0 → 0 ≤ a.to) (h8 : h.get ⟨8, c8, 5⟩ = some (mbox a)) : ∃ e h' ck' ca' cb', evL cfg dvK ⟨[(0, .pt ⟨34, cf, 5⟩ 15 0 0), (8, .pt ⟨8, c8, 5⟩ 11 0 0), (9, iv st)], h, ck⟩ = some (.normal, ⟨e, h', ck'⟩) ∧ FlS h' ck' cf ca' cb' (gotM F a st) ∧ Ok (N + 1) (gotM F a st) ∧ Ran h ck cf ca cb h' ck' ca' cb' := by
  unfold dvK gotM
  have h8' := h8
  simp only [mbox, il, iv] at h8'
  by_cases c1 : st = 0
  case neg =>
    rw [if_pos c1]
    refine ⟨[(0, .pt ⟨34, cf, 5⟩ 15 0 0), (8, .pt ⟨8, c8, 5⟩ 11 0 0), (34, bv true)], h, ck + 1, ca, cb, ?_, fls_le hS (by omega), hO.up, Ran.to (by omega) fun _ _ _ => rfl⟩
    have b1 : (st != 0) = true := by simpa using c1
    simp [b1, bv, filt_t]
  have h0 := hto c1
  rw [if_neg (by simpa using c1)]
  subst c1
  by_cases c2 : a.to = 0
  · rw [if_pos c2]
    obtain ⟨h3, ck3, ca3, cb3, hrun, hS3, hO3, hR3⟩ := answer_run (ck := ck + 1 + 1 + 1) a (fls_le hS (by omega)) hO hav
    have hA := fun e k => callEv_h (C := cfg) (s := ⟨e, h, ck + 1 + 1⟩) rfl hrun k
    have b2 : (a.to == 0) = true := by simpa using c2
    refine ⟨[], h3, ck3 + 2, ca3, cb3, ?_, fls_le hS3 (by omega), hO3.up, ran_in hR3 (by omega) (by omega)⟩
    simp only [msgV, il, iv] at hA
    simp [h8', hA, b2, filt_t]
  rw [if_neg c2]
  have b2 : (a.to == 0) = false := by simpa using c2
  by_cases c3 : a.to ≤ 4
  · rw [if_pos c3]
    obtain ⟨v, hB, l1, l2, l3, hr⟩ := hS
    obtain ⟨e3, h3, ck3, v3, hrun, hle, hB3, q1, q2, q3, hfr⟩ := dvW_run (ck := ck + 1 + 1 + 1) a hB hO hN hav (by omega) c3 h8 (by omega)
    refine ⟨e3, h3, ck3, ca, cb, ?_, ⟨v3, hB3, by omega, by omega, by omega, fun hc => ?_⟩, workF_ok hO hav, ⟨by omega, fun q hq h1 _ _ => hfr q (by omega) h1, .inl rfl, .inl rfl⟩⟩
    · simp only [bv] at hrun
      simp [h8', b2, c3, filt_t, hrun]
    · obtain ⟨r1, r2, r3, r4, r5⟩ := hr hc
      exact ⟨by rw [q1, r1]; rfl, by rw [q2, r2]; rfl, by rw [q3, r3]; rfl, by rw [hfr _ (by simp only; omega) (by simp)]; exact r4, by rw [hfr _ (by simp only; omega) (by simp)]; exact r5⟩
  · rw [if_neg c3]
    refine ⟨[(0, .pt ⟨34, cf, 5⟩ 15 0 0), (8, .pt ⟨8, c8, 5⟩ 11 0 0), (44, bv false)], h, ck + 3, ca, cb, ?_, fls_le hS (by omega), hO.up, Ran.to (by omega) fun _ _ _ => rfl⟩
    simp [bv, h8', b2, c3, filt_t]
end Go.Proofs.YtbocnaoihepjfaaGreat.Pv
end

section
/- What a fleet's Deliver tells, whole. -/
namespace Go.Proofs.YtbocnaoihepjfaaGreat.Pv
open Go Go.Pev
variable {N : Nat}

theorem ran_mid {h h' : HP} {ck cf ca cb ck' ca' cb' : Nat} {ob ob2 : Ob} (r : Ran ((⟨8, ck + 4, 5⟩, ob2) :: h.put ⟨34, cf, 5⟩ ⟨34, cf, 5⟩ ob) (ck + 5) cf ca cb h' ck' ca' cb') : Ran h ck cf ca cb h' ck' ca' cb' := by
  have := r.le
  refine ⟨by omega, fun q hq a b c => ?_, ?_, ?_⟩
  · rw [r.fr q (by omega) a b c, get_new (by omega), get_put_ne a]
  · rcases r.ca with e | e
    · exact .inl e
    · exact .inr (by omega)
  · rcases r.cb with e | e
    · exact .inl e
    · exact .inr (by omega)
theorem deliver_run {h : HP} {ck cf ca cb : Nat} {F : Flt} (i : Int) (hS : FlS h ck cf ca cb F) (hO : Ok N F) (hN : N ≤ 800000) : ∃ h' ck' ca' cb', runL cfg 21 [.pt ⟨34, cf, 5⟩ 15 0 0, iv i] h ck = some (iv (delvP F i).2, h', ck') ∧ FlS h' ck' cf ca' cb' (delvP F i).1 ∧ Ok (N + 1) (delvP F i).1 ∧ Ran h ck cf ca cb h' ck' ca' cb' := by
  have hS0 := hS
  obtain ⟨v, hB, l1, l2, l3, hr⟩ := hS
  have hg := hB.1
  obtain ⟨o0, o1, o2, o3, o4, o5, o6⟩ := hB.2
  have hT := fun s k => callEv_rd (C := cfg) (btake_ret F.bag i hO.f0.bag) rfl rfl (rdA_v o5 (rdA_t rdA_nil)) s k
  obtain ⟨t1, t2, t3⟩ := take_s (i := i) hO.bags
  unfold delvP
  generalize bagTake F.bag i = r at *
  obtain ⟨s, rest, ok⟩ := r
  simp only at t1 t2 t3 hT ⊢
  rw [runL_pf (fn := ⟨2, 82, [.tmp 4], dvB⟩) rfl rfl]
  simp only [iv, bv] at hT
  cases ok with
  | false =>
    refine ⟨h, ck + 4, ca, cb, ?_, fls_le hS0 (by omega), hO.up, Ran.to (by omega) fun _ _ _ => rfl⟩
    simp only [fcs] at hg
    simp [dvB, hg, hT, filt_t]
  | true =>
    have hV : VsOk { F with bag := rest } { v with vb := .t (sl rest) } := ⟨o0, o1, o2, o3, o4, rd_t _, o6⟩
    have hS1 := fls_put hB l1 l2 l3 hr hV rfl rfl rfl rfl rfl rfl rfl rfl
    have hO1 : Ok N { F with bag := rest } := bag_ok hO (by have := hO.f0.bag; omega) t1
    have hk := fun t k => callEv_tr (C := cfg) (take_ret s t2) rfl rfl rfl t k
    have hav := takeP_vec s
    have htw : (takeP s).2 = 0 → 0 ≤ (takeP s).1.to := fun e => (wright_num (takeP_ok e)).2.2.2.2.2.2.1.1
    have hgm : gotP { F with bag := rest } s = gotM { F with bag := rest } (takeP s).1 (takeP s).2 := rfl
    simp only [↓reduceIte]
    rw [hgm]
    generalize takeP s = q at *
    obtain ⟨a, st⟩ := q
    simp only at hk hav htw ⊢
    obtain ⟨e, h3, ck3, ca3, cb3, hrun, hS3, hO3, hR3⟩ := dvK_run (c8 := ck + 4) (ck := ck + 5) (h := (⟨8, ck + 4, 5⟩, mbox a) :: h.put ⟨34, cf, 5⟩ ⟨34, cf, 5⟩ (.box 78 (fcs { F with bag := rest } { v with vb := .t (sl rest) }))) a st (fls_new hS1 (by decide) (by decide) (by decide) _ (by omega)) hO1 hN hav htw (by simp [HP.get])
    refine ⟨h3, ck3 + 1, ca3, cb3, ?_, fls_le hS3 (by omega), hO3, ?_⟩
    · simp only [msgV, il, iv] at hk
      simp only [mbox, fcs, il, iv] at hrun
      simp only [fcs, iv] at hg
      simp [dvB, hg, hT, hk, filt_t, over]
      simp [hrun]
    · refine ran_in (ck1 := ck) (ck2 := ck3) (ran_mid hR3) (by omega) (by omega)
end Go.Proofs.YtbocnaoihepjfaaGreat.Pv
end

section
/- What fleet.New tells. -/
namespace Go.Proofs.YtbocnaoihepjfaaGreat.Pv
open Go Go.Pev

def newF (m : Mod) (pe : Int) (ph ts : List (List Int)) : Flt := ⟨m, pe, ph, [[], [], [], [], []], [], ts, 0, [], [], []⟩
def newOk (m : Mod) (pe : Int) (ph ts : List (List Int)) : Bool := modRight m && tokRight m ts && right pe ph && m.lays.all fun l => !decide (ph.length < l.exps.length)
def startF (m : Mod) (pe : Int) (ph ts : List (List Int)) : Flt := comeP (beginP (newF m pe ph ts))
theorem new1_ret (l : Lay) (pe : Int) (ph : List (List Int)) : RetT cfg 34 [layV l, .pr [.i .i64 pe, gl ph]] (bv (decide (ph.length < l.exps.length))) := by
  refine RetT.of ?_
  rw [runL_pf (fn := f34) rfl rfl]
  by_cases c : ph.length < l.exps.length
  · have c' : ((l.exps.length : Int) > ph.length) := by omega
    simp [layV, gl, c]
  · simp [layV, gl, c]
theorem newc_ret (m : Mod) (pe : Int) (ph : List (List Int)) (h : FewM m) : RetT cfg 33 [.t (laysT m), .fn 34 [.pr [.i .i64 pe, gl ph]]] (bv (!(m.lays.all fun l => !decide (ph.length < l.exps.length)))) := by
  rw [List.not_all_eq_any_not]
  refine ctf_run (ix := 72) rfl rfl rfl rfl (fun _ => rfl) ?_
  refine ixf_run (ag := true) (sz := 3) layT _ layV rfl rfl (by simp [layT]) (by simp [layT, layV]) h.1 ?_
  intro l hl s k hs
  exact ⟨s.ck, by rw [callEv_cl (C := cfg) (new1_ret l pe ph) rfl rfl rfl s k (by simp [puresOf, pureOf, layV, treesOf, treeOf]), hs, Bool.not_not]; rfl⟩
end Go.Proofs.YtbocnaoihepjfaaGreat.Pv
end

section
/- The document's Right of the layer 17. -/
namespace Go.Proofs.YtbocnaoihepjfaaGreat.Pv
open Go Go.Pev
theorem rright_row (r : List Int) (i : V) (ty : Nat) (bx : List V) (hr : r.length ≤ 1000000) : ∀ (k j : Nat) (last : Int) (ck : Nat), j + k = r.length → ((j = 0 ∧ last = 0) ∨ (0 < j ∧ r[j - 1]? = some last ∧ 1 ≤ last)) → ∃ c, evL cfg (.loop f40l0) ⟨[(1, .pt ⟨1, 0, 0⟩ 2 0 0), (3, i), (4, .t (il r)), (5, iv j)], [(⟨1, 0, 0⟩, .box ty bx)], ck⟩ =
    some (if rowUp last (r.drop j) then (.exit 2, ⟨[(1, .pt ⟨1, 0, 0⟩ 2 0 0), (3, i), (4, .t (il r)), (5, iv r.length), (38, bv false)], [(⟨1, 0, 0⟩, .box ty bx)], c⟩) else (.ret, ⟨[(2, bv false)], [], c⟩)) := by
  intro k
  induction k with
  | zero =>
    intro j last ck h _
    obtain rfl : j = r.length := by omega
    refine ⟨ck + 1, ?_⟩
    rw [evL_loop]
    simp [f40l0e, rowUp]
  | succ k ih =>
    intro j last ck h hlast
    have hj : j < r.length := by omega
    have hw : IntKind.i64.wrap ((j : Int) + 1) = (j : Int) + 1 := wrap_id (by omega) (by omega)
    have hw2 : IntKind.i64.wrap ((j : Int) - 1) = (j : Int) - 1 := wrap_id (by omega) (by omega)
    rw [rowUp_at last hj]
    by_cases h1 : r[j] < 1
    · have h1' : ¬ last < r[j] := by rcases hlast with ⟨_, h⟩ | ⟨_, _, h⟩ <;> omega
      refine ⟨ck + 3, ?_⟩
      rw [evL_loop]
      simp [f40l0e, hj, h1, h1']
    · by_cases h2 : 4 < r[j]
      · have h2' : ¬ r[j] ≤ 4 := by omega
        refine ⟨ck + 3, ?_⟩
        rw [evL_loop]
        simp [f40l0e, hj, h1, h2, h2']
      · have h2' : r[j] ≤ 4 := by omega
        rcases hlast with ⟨rfl, rfl⟩ | ⟨h0, hl1, hl2⟩
        · obtain ⟨c, hc⟩ := ih 1 r[0] (ck + 3) (by omega) (.inr ⟨by omega, by simp [hj], by omega⟩)
          have h3 : (0 : Int) < r[0] := by omega
          refine ⟨c, ?_⟩
          rw [evL_loop_n (s1 := ⟨[(1, .pt ⟨1, 0, 0⟩ 2 0 0), (3, i), (4, .t (il r)), (5, iv ((1 : Nat) : Int))], [(⟨1, 0, 0⟩, .box ty bx)], ck + 3⟩), hc]
          · have h3d : decide ((0 : Int) < r[0]) = true := by simpa using h3
            have h2d : decide (r[0] ≤ 4) = true := by simpa using h2'
            rw [h3d, h2d, Bool.true_and, Bool.true_and]
          · simp at hw
            simp [f40l0e, hj, h1, h2, hw]
        · have h0' : (0 : Int) < j := by omega
          have h4 : (1 : Int) ≤ (j : Int) := by omega
          have h5 : ((j : Int) - 1).toNat = j - 1 := by omega
          have hj1 : j - 1 < r.length := by omega
          have hl1' : r[j - 1] = last := by rw [List.getElem?_eq_getElem hj1] at hl1; exact Option.some.inj hl1
          by_cases h3 : r[j] ≤ last
          · have h3' : ¬ last < r[j] := by omega
            refine ⟨ck + 3, ?_⟩
            rw [evL_loop]
            simp [f40l0e, hj, h1, h2, h0', h0, hw2, h4, h5, hj1, hl1', h3, h3']
          · have h3' : last < r[j] := by omega
            obtain ⟨c, hc⟩ := ih (j + 1) r[j] (ck + 3) (by omega) (.inr ⟨by omega, by simp [hj], by omega⟩)
            refine ⟨c, ?_⟩
            rw [evL_loop_n (s1 := ⟨[(1, .pt ⟨1, 0, 0⟩ 2 0 0), (3, i), (4, .t (il r)), (5, iv ((j + 1 : Nat) : Int))], [(⟨1, 0, 0⟩, .box ty bx)], ck + 3⟩), hc]
            · simp [h2', h3']
            · simp [f40l0e, hj, h1, h2, h0', h0, hw2, h4, h5, hj1, hl1', h3, hw]

theorem rright_rows (e : Int) (h : List (List Int)) (ty : Nat) (hh : h.length ≤ 1000000) (hr : ∀ r ∈ h, r.length ≤ 1000000) : ∀ (k i ck : Nat), i + k = h.length → ∃ c, evL cfg (.loop f40l1) ⟨[(1, .pt ⟨1, 0, 0⟩ 2 0 0), (3, iv i)], [(⟨1, 0, 0⟩, .box ty [iv e, .t (gl h)])], ck⟩ =
    some (if ((h.drop i).all fun r => rowUp 0 r && !r.isEmpty) then (.exit 0, ⟨[(1, .pt ⟨1, 0, 0⟩ 2 0 0), (3, iv h.length), (24, bv false)], [(⟨1, 0, 0⟩, .box ty [iv e, .t (gl h)])], c⟩) else (.ret, ⟨[(2, bv false)], [], c⟩)) := by
  intro k
  induction k with
  | zero =>
    intro i ck hk
    obtain rfl : i = h.length := by omega
    refine ⟨ck + 1, ?_⟩
    rw [evL_loop]
    simp [f40l1e, gl]
  | succ k ih =>
    intro i ck hk
    have hi : i < h.length := by omega
    have hw : IntKind.i64.wrap ((i : Int) + 1) = (i : Int) + 1 := wrap_id (by omega) (by omega)
    have hri := hr _ (List.getElem_mem hi)
    have hall : ((h.drop i).all fun r => rowUp 0 r && !r.isEmpty) = ((rowUp 0 h[i] && !h[i].isEmpty) && ((h.drop (i + 1)).all fun r => rowUp 0 r && !r.isEmpty)) := by
      rw [List.drop_eq_getElem_cons hi]; rfl
    by_cases h2 : h[i].length = 0
    · have h2' : h[i] = [] := List.eq_nil_of_length_eq_zero h2
      refine ⟨ck + 4, ?_⟩
      have hb : (((h[i].length : Nat) : Int) == 0) = true := by simp [h2]
      rw [evL_loop, hall, if_neg (by simp [h2'])]
      simp [f40l1e, gl, hi, hb]
    · have h2' : ¬ h[i] = [] := fun e => h2 (by rw [e]; rfl)
      have h2b : (((h[i].length : Nat) : Int) == 0) = false := by simp; exact h2'
      obtain ⟨c0, hc0⟩ := rright_row h[i] (iv i) ty [iv e, .t (gl h)] hri h[i].length 0 0 (ck + 4) (by omega) (.inl ⟨rfl, rfl⟩)
      simp only [List.drop_zero, gl, il, iv, bv, Int.natCast_zero] at hc0
      by_cases h1 : rowUp 0 h[i] = true
      · rw [if_pos h1] at hc0
        obtain ⟨c, hc⟩ := ih (i + 1) (c0 + 1) (by omega)
        refine ⟨c, ?_⟩
        rw [evL_loop_n (s1 := ⟨[(1, .pt ⟨1, 0, 0⟩ 2 0 0), (3, iv ((i + 1 : Nat) : Int))], [(⟨1, 0, 0⟩, .box ty [iv e, .t (gl h)])], c0 + 1⟩), hc]
        · rw [hall]; simp [h1, h2']
        · simp [f40l1e, gl, hi, hc0, h2b, hw]
      · rw [if_neg h1] at hc0
        refine ⟨c0, ?_⟩
        rw [evL_loop, hall]
        simp [f40l1e, gl, hi, hc0, h1, h2b]

theorem rright_ret (e : Int) (h : List (List Int)) (hh : h.length ≤ 1000000) (hr : ∀ r ∈ h, r.length ≤ 1000000) : RetT cfg 40 [.ag [iv e, .t (gl h)]] (bv (right e h)) := by
  obtain ⟨c, hc⟩ := rright_rows e h 35 hh hr h.length 0 3 (by omega)
  refine RetT.of ?_
  rw [runL_pf (fn := f40) rfl rfl]
  simp only [List.drop_zero, gl, il, iv, bv, Int.natCast_zero] at hc
  by_cases h2 : e < 0
  · have h2' : ¬ 0 ≤ e := by omega
    simp [gl, right, h2, h2']
  · have h2' : 0 ≤ e := by omega
    by_cases h3 : 2147483647 < e
    · have h3' : ¬ e ≤ 2147483647 := by omega
      simp [gl, right, h2, h3, h3']
    · have h3' : e ≤ 2147483647 := by omega
      by_cases h4 : (8 : Int) < h.length
      · have h4' : ¬ h.length ≤ 8 := by omega
        simp [gl, right, h2, h3, h4, h4']
      · have h4' : h.length ≤ 8 := by omega
        by_cases h1 : (h.all fun r => rowUp 0 r && !r.isEmpty) = true
        · rw [if_pos h1] at hc
          simp [gl, hc, right, h1, h2, h2', h3, h3', h4, h4']
        · rw [if_neg h1] at hc
          simp [gl, hc, right, h1, h2, h2', h3, h3', h4, h4']

end Go.Proofs.YtbocnaoihepjfaaGreat.Pv
end

section
/- What the document's May of the layer 19, Small of the layer 15 tell. -/
namespace Go.Proofs.YtbocnaoihepjfaaGreat.Pv
open Go Go.Pev

def smallX (x : Exp) : Bool := small x.inn && small x.out
def smallL (l : Lay) : Bool := decide (l.exps.length ≤ 9) && small l.gate && l.exps.all smallX
def smallM (m : Mod) : Bool := decide (m.lays.length ≤ 5) && m.lays.all smallL
theorem small_call (h : List (List Int)) (s : St) (k : Key) : callEv cfg (runL cfg) 10 [.t (gl h)] s k = some (bv (small h), s.hp, s.ck) := callEv_tr (C := cfg) (small_ret h) rfl rfl rfl s k
def sxI (xs : List Exp) (w0 w1 w2 : V) (i : Nat) (s : St) : Prop := Upto smallX xs i ∧ ∃ ck, s = ⟨[(12, w0), (13, w1), (14, w2), (29, .t (.l (xs.map exT))), (30, iv xs.length), (31, iv (i : Int))], [], ck⟩
def sxQ (xs : List Exp) (w0 w1 w2 : V) (E : Option (Ex × St)) : Prop :=
  (xs.all smallX = true ∧ ∃ ck, E = some (.exit 2, ⟨[(12, w0), (13, w1), (14, w2), (29, .t (.l (xs.map exT))), (30, iv xs.length), (31, iv xs.length), (32, bv false)], [], ck⟩)) ∨
  (xs.all smallX = false ∧ ∃ ck, E = some (.ret, ⟨[(2, bv false)], [], ck⟩))
theorem sx_loop (xs : List Exp) (w0 w1 w2 : V) (hl : xs.length ≤ 1000000) (ck : Nat) : sxQ xs w0 w1 w2 (evL cfg (.loop f9l0) ⟨[(12, w0), (13, w1), (14, w2), (29, .t (.l (xs.map exT))), (30, iv xs.length), (31, iv 0)], [], ck⟩) := by
  refine loop_q xs.length (sxI xs w0 w1 w2) ?_ ?_ _ ⟨upto0 _ _, ck, rfl⟩
  · rintro i s hi ⟨h1, ck, rfl⟩
    have hw : IntKind.i64.wrap ((i : Int) + 1) = (i : Int) + 1 := wrap_id (by omega) (by omega)
    have hr := small_call xs[i].inn
    have hr2 := small_call xs[i].out
    have hx : smallX xs[i] = (small xs[i].inn && small xs[i].out) := rfl
    simp only [gl, iv, bv] at hr hr2
    by_cases g : small xs[i].inn = true
    · by_cases g2 : small xs[i].out = true
      · simp [f9l0e, exT, gl, hi, hr, hr2, hw, g, g2, over]
        exact ⟨upto_s h1 hi (by rw [hx, g, g2]; rfl), _, rfl⟩
      · have g' : small xs[i].out = false := by simpa using g2
        simp [f9l0e, exT, gl, hi, hr, hr2, hw, g, g', over]
        exact .inr ⟨all_not hi (by rw [hx, g']; simp), _, rfl⟩
    · have g' : small xs[i].inn = false := by simpa using g
      simp [f9l0e, exT, gl, hi, hr, hr2, hw, g', over]
      exact .inr ⟨all_not hi (by rw [hx, g']; rfl), _, rfl⟩
  · rintro s ⟨h1, ck, rfl⟩
    simp [f9l0e]
    exact .inl ⟨upto_all h1, _, rfl⟩
def syI (m : Mod) (i : Nat) (s : St) : Prop := Upto smallL m.lays i ∧ ∃ ck, s = ⟨[(12, .t (laysT m)), (13, iv m.lays.length), (14, iv (i : Int))], [], ck⟩
theorem sm_loop (m : Mod) (h : m.lays.length ≤ 5) (ck : Nat) : ryQ (m.lays.all smallL) (evL cfg (.loop f9l1) ⟨[(12, .t (laysT m)), (13, iv m.lays.length), (14, iv 0)], [], ck⟩) := by
  refine loop_q m.lays.length (syI m) ?_ ?_ _ ⟨upto0 _ _, ck, rfl⟩
  · rintro i s hi ⟨h1, ck, rfl⟩
    have hw : IntKind.i64.wrap ((i : Int) + 1) = (i : Int) + 1 := wrap_id (by omega) (by omega)
    have hA := small_call m.lays[i].gate
    have hE := fun (hz : m.lays[i].exps.length ≤ 1000000) ck => sx_loop m.lays[i].exps (.t (laysT m)) (iv m.lays.length) (iv i) hz ck
    have hR : smallL m.lays[i] = (decide (m.lays[i].exps.length ≤ 9) && small m.lays[i].gate && m.lays[i].exps.all smallX) := rfl
    have hno : smallL m.lays[i] = false → (m.lays.all smallL) = false := fun e => all_not (p := smallL) hi e
    have hyes : smallL m.lays[i] = true → Upto smallL m.lays (i + 1) := fun e => upto_s h1 hi e
    generalize (m.lays.all smallL) = b at *
    generalize hli : m.lays[i] = l at *
    simp only [gl, iv, bv] at hA
    by_cases c1 : (9 : Int) < l.exps.length
    · have c1' : ¬ l.exps.length ≤ 9 := by omega
      simp [f9l1e, laysT, hli, hi, layT, c1, over]
      exact .inr ⟨hno (by simp [hR, c1']), _, _, rfl⟩
    have c1' : l.exps.length ≤ 9 := by omega
    by_cases c3 : small l.gate = true
    case neg =>
      have c3' : small l.gate = false := by simpa using c3
      simp [f9l1e, laysT, hli, hi, layT, c1, gl, hA, c3', over]
      exact .inr ⟨hno (by simp [hR, c3']), _, _, rfl⟩
    rcases hE (by omega) (ck + 1 + 1 + 1 + 1) with ⟨g, ck2, hc⟩ | ⟨g, ck2, hc⟩
    · simp [laysT] at hc
      simp [f9l1e, laysT, hli, hi, layT, c1, gl, hA, c3, hc, hw, over]
      exact ⟨hyes (by rw [hR, g]; simp [c1', c3]), _, rfl⟩
    · simp [laysT] at hc
      simp [f9l1e, laysT, hli, hi, layT, c1, gl, hA, c3, hc, hw, over]
      exact .inr ⟨hno (by rw [hR, g]; simp), _, _, rfl⟩
  · rintro s ⟨h1, ck, rfl⟩
    simp [f9l1e]
    exact .inl ⟨upto_all h1, _, _, _, rfl⟩
theorem smallM_ret (m : Mod) : RetT cfg 9 [modV m] (bv (smallM m)) := by
  have hL := sm_loop m
  refine RetT.of ?_
  rw [runL_pf (fn := f9) rfl rfl]
  unfold smallM modV
  generalize (m.lays.all smallL) = b at *
  by_cases c1 : (5 : Int) < m.lays.length
  · have c1' : ¬ m.lays.length ≤ 5 := by omega
    simp [laysT, c1, c1']
  have c1' : m.lays.length ≤ 5 := by omega
  rcases hL c1' 3 with ⟨rfl, e, hh, ck2, hc⟩ | ⟨rfl, hh, ck2, hc⟩
  · simp [laysT] at hc
    simp [laysT, c1, c1', hc]
  · simp [laysT] at hc
    simp [laysT, c1, c1', hc]
def myI (m : Mod) (pe : Int) (ph : List (List Int)) (i : Nat) (s : St) : Prop := Upto (fun l : Lay => !decide (ph.length < l.exps.length)) m.lays i ∧ ∃ ck, s = ⟨[(4, .pt ⟨4, 0, 1⟩ 2 0 0), (24, .t (laysT m)), (25, iv m.lays.length), (26, iv (i : Int))], [(⟨4, 0, 1⟩, .box 35 [iv pe, .t (gl ph)])], ck⟩
def myQ (b : Bool) (E : Option (Ex × St)) : Prop := (b = true ∧ ∃ h ck a c d e, E = some (.exit 0, ⟨[(4, .pt ⟨4, 0, 1⟩ 2 0 0), (24, a), (25, c), (26, d), (27, e)], h, ck⟩)) ∨ (b = false ∧ ∃ h ck, E = some (.ret, ⟨[(6, bv false)], h, ck⟩))
theorem may_loop (m : Mod) (pe : Int) (ph : List (List Int)) (h : FewM m) (ck : Nat) : myQ (m.lays.all fun l => !decide (ph.length < l.exps.length)) (evL cfg (.loop f13l0) ⟨[(4, .pt ⟨4, 0, 1⟩ 2 0 0), (24, .t (laysT m)), (25, iv m.lays.length), (26, iv 0)], [(⟨4, 0, 1⟩, .box 35 [iv pe, .t (gl ph)])], ck⟩) := by
  refine loop_q m.lays.length (myI m pe ph) ?_ ?_ _ ⟨upto0 _ _, ck, rfl⟩
  · rintro i s hi ⟨h1, ck, rfl⟩
    have hw : IntKind.i64.wrap ((i : Int) + 1) = (i : Int) + 1 := wrap_id (by have := h.1; omega) (by have := h.1; omega)
    by_cases c : ph.length < m.lays[i].exps.length
    · simp [f13l0e, laysT, gl, hi, layT, c, over]
      exact .inr ⟨all_not hi (by simp [c]), _, _, rfl⟩
    · simp [f13l0e, laysT, gl, hi, layT, c, hw, over]
      exact ⟨upto_s h1 hi (by simp [c]), ck + 1 + 1 + 1 + 1, by simp [laysT, gl]⟩
  · rintro s ⟨h1, ck, rfl⟩
    simp [f13l0e]
    exact .inl ⟨upto_all h1, _, _, _, _, _, _, rfl⟩
theorem rmay_ret (m : Mod) (pe : Int) (ph ts : List (List Int)) (hm : FewM m) (ht : Few ts) (hp : ph.length ≤ 1000000 ∧ ∀ r ∈ ph, r.length ≤ 100000) : RetT cfg 13 [modV m, mapV pe ph, .t (gl ts)] (bv (newOk m pe ph ts)) := by
  have h1 := fun s k => callEv_tr (C := cfg) (rmod_ret m hm) rfl rfl rfl s k
  have h2 := fun s k => callEv_tr (C := cfg) (rtok_ret m ts ht) rfl rfl rfl s k
  have h3 := fun s k => callEv_tr (C := cfg) (rright_ret pe ph hp.1 (fun r hr => by have := hp.2 r hr; omega)) rfl rfl rfl s k
  have hL := may_loop m pe ph hm
  refine RetT.of ?_
  rw [runL_pf (fn := f13) rfl rfl]
  unfold newOk
  simp only [modV, mapV, gl, iv, bv, laysT] at h1 h2 h3 hL
  generalize modRight m = b1 at *
  generalize tokRight m ts = b2 at *
  generalize right pe ph = b3 at *
  generalize (m.lays.all fun l => !decide (ph.length < l.exps.length)) = b4 at *
  cases b1 with
  | false => simp [modV, mapV, laysT, gl, h1]
  | true =>
  cases b2 with
  | false => simp [modV, mapV, laysT, gl, h1, h2]
  | true =>
  cases b3 with
  | false => simp [modV, mapV, laysT, gl, h1, h2, h3]
  | true =>
  rcases hL 3 with ⟨rfl, hh, ck2, a, c, d, e, hc⟩ | ⟨rfl, hh, ck2, hc⟩
  · simp [modV, mapV, laysT, gl, h1, h2, h3, hc]
  · simp [bv] at hc
    simp [modV, mapV, laysT, gl, h1, h2, h3, hc]
end Go.Proofs.YtbocnaoihepjfaaGreat.Pv
end

section
/- What fleet.New tells, when it takes. -/
namespace Go.Proofs.YtbocnaoihepjfaaGreat.Pv
open Go Go.Pev

def v0 : Vs := ⟨.nl, .nl, .nl, .nl, .nl, .nl, .nl, .nl, .nl⟩
theorem v0_ok (m : Mod) (pe : Int) (ph ts : List (List Int)) : VsOk (newF m pe ph ts) v0 := ⟨.inr ⟨rfl, rfl⟩, .inr ⟨rfl, rfl⟩, .inr ⟨rfl, rfl⟩, .inr ⟨rfl, rfl⟩, .inr ⟨rfl, rfl⟩, .inr ⟨rfl, rfl⟩, .inr ⟨rfl, rfl⟩⟩
theorem new_good {m : Mod} {pe : Int} {ph ts : List (List Int)} (hm : FewM m) (ht : Few ts) (hp : ph.length ≤ 1000000 ∧ ∀ r ∈ ph, r.length ≤ 100000) (hb : newOk m pe ph ts = true) (h : HP) (ck : Nat) : ∃ h' ck' cf ca cb, runL cfg 12 [modV m, mapV pe ph, .t (gl ts)] h ck = some (.tu [.pt ⟨34, cf, 5⟩ 15 0 0, iv 0], h', ck') ∧ FlS h' ck' cf ca cb (startF m pe ph ts) ∧ Ok 0 (startF m pe ph ts) ∧ ck ≤ cf ∧ ck ≤ ca ∧ ck ≤ cb ∧ ck ≤ ck' ∧ ∀ q, q.c < ck → h'.get q = h.get q := by
  have h1 := fun s k => callEv_tr (C := cfg) (mod_ret m hm) rfl rfl rfl s k
  have h2 := fun s k => callEv_tr (C := cfg) (tok_ret m ts ht) rfl rfl rfl s k
  have h3 := fun s k => callEv_tr (C := cfg) (pright_ret pe ph hp.1 (fun r hr => by have := hp.2 r hr; omega)) rfl rfl rfl s k
  have h4 := fun s k => callEv_fn (C := cfg) (caps0 := [.pt ⟨4, ck, 1⟩ 2 0 0]) (newc_ret m pe ph hm) rfl rfl rfl s k
  have h5 := fun hp => callQ_tr (C := cfg) (RetO.tree (clone2_ret (ts.map fun r => [il r]) (by simp) (by simpa using ht.1))) rfl hp
  have hb0 := hb
  unfold newOk at hb
  simp only [Bool.and_eq_true] at hb
  obtain ⟨⟨⟨b1, b2⟩, b3⟩, b4⟩ := hb
  have hmr := b1
  have htr := b2
  simp only [modRight, Bool.and_eq_true, decide_eq_true_eq] at hmr
  simp only [tokRight, Bool.and_eq_true, decide_eq_true_eq] at htr
  have hlt : (newF m pe ph ts).at_ < (newF m pe ph ts).m.lays.length := by show 0 < m.lays.length; omega
  have hF0 : Fit0 (newF m pe ph ts) := ⟨hm, ht, by show ts.length ≤ 10000; omega, hp, by simp [newF]⟩
  have hB0 : FlB ((⟨34, ck + 1 + 1, 5⟩, .box 78 (fcs (newF m pe ph ts) v0)) :: (⟨4, ck, 1⟩, .box 27 [iv pe, .t (gl ph)]) :: (⟨3, ck, 0⟩, .box 24 [iv m.dim, .t (laysT m)]) :: h) (ck + 1 + 1) (newF m pe ph ts) v0 := ⟨by simp [HP.get], v0_ok _ _ _ _⟩
  obtain ⟨ha, ka, va, ca, cb, ra, la, fa, wa, ga⟩ := begin_run (ck := ck + 1 + 1 + 1 + 1) hB0 hF0 (by omega)
  obtain ⟨wr, w1, w2, w3, w4⟩ := wa hlt
  have hOb : Ok 0 (beginP (newF m pe ph ts)) := beginP_ok hF0 (by simp [newF]) (by simp [newF]) (by simp [newF]) rfl
  have hSa : FlS ha ka (ck + 1 + 1) ca cb (beginP (newF m pe ph ts)) := ⟨va, fa, by omega, w2, w4, fun _ => wr⟩
  obtain ⟨hc, kc, cc, cd, rc, sc, oc, nc⟩ := come_run (ck := ka + 1 + 1 + 1) (fls_le hSa (by omega)) hOb
  have q1 := fun e k => callEv_h (C := cfg) (s := ⟨e, _, ck + 1 + 1 + 1⟩) rfl ra k
  have q2 := fun e k => callEv_h (C := cfg) (s := ⟨e, _, ka + 1 + 1⟩) rfl rc k
  refine ⟨hc, kc + 3, ck + 1 + 1, cc, cd, ?_, fls_le sc (by omega), oc, by omega, ?_, ?_, by have := nc.le; omega, fun q hq => ?_⟩
  · rw [runL_pf (fn := f12) rfl rfl]
    simp only [newF, v0, fcs, modV, mapV, gl, iv, bv, laysT, il, b1, b2, b3, b4, Int.natCast_zero] at h1 h2 h3 h4 h5 q1 q2
    simp [modV, mapV, laysT, gl, h1, h2, h3, h4, h5, filt_t, capsOf, capOf, treesOf, treeOf, buildV, cells, over, q1, q2]

  · rcases nc.ca with e | e <;> omega
  · rcases nc.cb with e | e <;> omega
  · rw [nc.fr q (by omega) (by rintro rfl; simp at hq; omega) (by rintro rfl; simp at hq; omega) (by rintro rfl; simp at hq; omega), ga q (by omega) (by rintro rfl; simp at hq; omega), get_new (by omega), get_new hq, get_new hq]
end Go.Proofs.YtbocnaoihepjfaaGreat.Pv
end

section
/- What law19.do tells. -/
namespace Go.Proofs.YtbocnaoihepjfaaGreat.Pv
open Go Go.Pev
variable {N : Nat}

theorem askS_run {h : HP} {ck cf ca cb : Nat} {F : Flt} (hS : FlS h ck cf ca cb F) (hO : Ok N F) : ∃ h' ck', runL cfg 28 [.pt ⟨34, cf, 5⟩ 15 0 0] h ck = some (.tu [], h', ck') ∧ FlS h' ck' cf ca cb (askP F) ∧ Ok N (askP F) ∧ Ran h ck cf ca cb h' ck' ca cb := by
  obtain ⟨v, hB, l1, l2, l3, hr⟩ := hS
  by_cases c : F.at_ < F.m.lays.length
  · obtain ⟨h', ck', vb, hrun, hle, hB', hfr⟩ := ask_run hB (hO.f1 c) l1 l3 (fun hc => by obtain ⟨r1, r2, r3, r4, r5⟩ := hr hc; exact ⟨r1, r3, r5⟩)
    obtain ⟨e1, e2, e3, e4, e5, e6, e7, e8, e9⟩ := askP_m F
    refine ⟨h', ck', hrun, ⟨_, hB', by omega, by omega, by omega, fun hc => ?_⟩, askP_ok hO, Ran.to hle hfr⟩
    obtain ⟨r1, r2, r3, r4, r5⟩ := hr c
    exact ⟨by rw [e7]; exact r1, by rw [e7]; exact r2, by rw [e7]; exact r3, by rw [hfr _ l2 (by simp), e8]; exact r4, by rw [hfr _ l3 (by simp), e9]; exact r5⟩
  · have hg := hB.1
    have e : askP F = F := by unfold askP; rw [if_neg c]
    rw [e]
    refine ⟨h, ck + 1, ?_, ⟨v, hB, by omega, by omega, by omega, hr⟩, hO, Ran.to (by omega) fun _ _ _ => rfl⟩
    have c' : F.m.lays.length ≤ F.at_ := by omega
    simp only [fcs, laysT] at hg
    rw [runL_pf (fn := f28) rfl rfl]
    simp [hg, c', filt_t]
structure Act where
  k : Int
  n : Int
  m : Int
def FewA (a : Act) : Prop := (0 ≤ a.k ∧ a.k < 256) ∧ (0 ≤ a.n ∧ a.n < 256) ∧ 0 ≤ a.m ∧ a.m < 256
def actC (a : Act) : List T := [.i .u8 a.k, .i .u8 a.n, .i .u8 a.m]
def actV (a : Act) : V := .ag [.t (.i .u8 a.k), .t (.i .u8 a.n), .t (.i .u8 a.m)]
def whichP (F : Flt) (a : Act) : Int := if 0 < F.bag.length then a.n % F.bag.length else 0
def doAt (F : Flt) (a : Act) (i : Int) : Flt :=
  if a.k % 6 = 0 then askP F
  else if a.k % 6 = 1 then (delvP F i).1
  else if a.k % 6 = 2 then (dropP F i).1
  else if a.k % 6 = 3 then (twiceP F i).1
  else if a.k % 6 = 4 then (addP F (a.n % 8) (a.m % 5)).1
  else (retP F (a.n % 8) (a.m % 5)).1
def doP (F : Flt) (a : Act) : Flt := doAt F a (whichP F a)
def doK : Pc := .seq f27r5 (.block 0 (.seq f27r6 (.cond (.tmp 19) f27r7 (.seq f27r8 (.cond (.tmp 23) f27r9 (.seq f27r10 (.cond (.tmp 28) f27r11 (.seq f27r12 (.cond (.tmp 33) f27r13 (.seq f27r14 (.cond (.tmp 38) f27r15 (.seq f27r16 (.cond (.tmp 50) f27r17 .skip)))))))))))))
theorem rem6 {k : Int} (h : 0 ≤ k) : k.tmod 6 = k % 6 := Int.tmod_eq_emod_of_nonneg h
theorem doK_run {h : HP} {ck cf ca cb c3 : Nat} {F : Flt} (a : Act) (i : Int) (ha : FewA a) (hS : FlS h ck cf ca cb F) (hO : Ok N F) (hN : N ≤ 800000) (h3 : h.get ⟨3, c3, 0⟩ = some (.box 64 ((actC a).map .t))) (E : Env) (e0 : E.get 0 = .pt ⟨34, cf, 5⟩ 15 0 0) (e3 : E.get 3 = .pt ⟨3, c3, 0⟩ 3 0 0) (e5 : E.get 5 = iv i) : ∃ e h' ck' ca' cb', evL cfg doK ⟨E, h, ck⟩ = some (.normal, ⟨e, h', ck'⟩) ∧ FlS h' ck' cf ca' cb' (doAt F a i) ∧ Ok (N + 1) (doAt F a i) ∧ Ran h ck cf ca cb h' ck' ca' cb' := by
  obtain ⟨⟨k1, k2⟩, ⟨n1, n2⟩, m1, m2⟩ := ha
  unfold doK doAt
  have h3' := h3
  simp only [actC, List.map_cons, List.map_nil] at h3'
  simp only [iv] at e5
  have ht := rem6 k1
  have h6 : a.k % 6 = 0 ∨ a.k % 6 = 1 ∨ a.k % 6 = 2 ∨ a.k % 6 = 3 ∨ a.k % 6 = 4 ∨ a.k % 6 = 5 := by omega
  have hn8 : a.n.tmod 8 = a.n % 8 := Int.tmod_eq_emod_of_nonneg n1
  have hm5 : a.m.tmod 5 = a.m % 5 := Int.tmod_eq_emod_of_nonneg m1
  have hw8 : IntKind.i64.wrap (a.n % 8) = a.n % 8 := wrap_id (by omega) (by omega)
  have hw5 : IntKind.i64.wrap (a.m % 5) = a.m % 5 := wrap_id (by omega) (by omega)
  rcases h6 with c | c | c | c | c | c
  · rw [if_pos c]
    rw [c] at ht
    obtain ⟨h4, ck4, hrun, hS4, hO4, hR4⟩ := askS_run (ck := ck + 1 + 1 + 1) (fls_le hS (by omega)) hO
    have hA := fun e k => callEv_h (C := cfg) (s := ⟨e, h, ck + 1 + 1⟩) rfl hrun k
    refine ⟨[], h4, ck4 + 2, ca, cb, ?_, fls_le hS4 (by omega), hO4.up, ran_in hR4 (by omega) (by omega)⟩
    try simp only [iv] at hA
    simp [e0, e3, e5, h3', ht, hA, hn8, hm5, hw8, hw5, filt_t]
  · rw [if_neg (by omega), if_pos c]
    rw [c] at ht
    obtain ⟨h4, ck4, ca4, cb4, hrun, hS4, hO4, hR4⟩ := deliver_run (ck := ck + 1 + 1 + 1 + 1) i (fls_le hS (by omega)) hO hN
    have hA := fun e k => callEv_h (C := cfg) (s := ⟨e, h, ck + 1 + 1 + 1⟩) rfl hrun k
    refine ⟨[], h4, ck4 + 2, ca4, cb4, ?_, fls_le hS4 (by omega), hO4, ran_in hR4 (by omega) (by omega)⟩
    try simp only [iv] at hA
    simp [e0, e3, e5, h3', ht, hA, hn8, hm5, hw8, hw5, filt_t]
  · rw [if_neg (by omega), if_neg (by omega), if_pos c]
    rw [c] at ht
    obtain ⟨h4, ck4, hrun, hS4, hO4, hR4⟩ := drop_run (ck := ck + 1 + 1 + 1 + 1 + 1) i (fls_le hS (by omega)) hO
    have hA := fun e k => callEv_h (C := cfg) (s := ⟨e, h, ck + 1 + 1 + 1 + 1⟩) rfl hrun k
    refine ⟨[], h4, ck4 + 2, ca, cb, ?_, fls_le hS4 (by omega), hO4.up, ran_in hR4 (by omega) (by omega)⟩
    try simp only [iv] at hA
    simp [e0, e3, e5, h3', ht, hA, hn8, hm5, hw8, hw5, filt_t]
  · rw [if_neg (by omega), if_neg (by omega), if_neg (by omega), if_pos c]
    rw [c] at ht
    obtain ⟨h4, ck4, hrun, hS4, hO4, hR4⟩ := twice_run (ck := ck + 1 + 1 + 1 + 1 + 1 + 1) i (fls_le hS (by omega)) hO
    have hA := fun e k => callEv_h (C := cfg) (s := ⟨e, h, ck + 1 + 1 + 1 + 1 + 1⟩) rfl hrun k
    refine ⟨[], h4, ck4 + 2, ca, cb, ?_, fls_le hS4 (by omega), hO4.up, ran_in hR4 (by omega) (by omega)⟩
    try simp only [iv] at hA
    simp [e0, e3, e5, h3', ht, hA, hn8, hm5, hw8, hw5, filt_t]
  · rw [if_neg (by omega), if_neg (by omega), if_neg (by omega), if_neg (by omega), if_pos c]
    rw [c] at ht
    obtain ⟨h4, ck4, hrun, hS4, hO4, hR4⟩ := fadd_run (ck := ck + 1 + 1 + 1 + 1 + 1 + 1 + 1) (a.n % 8) (a.m % 5) (fls_le hS (by omega)) hO
    have hA := fun e k => callEv_h (C := cfg) (s := ⟨e, h, ck + 1 + 1 + 1 + 1 + 1 + 1⟩) rfl hrun k
    refine ⟨[], h4, ck4 + 2, ca, cb, ?_, fls_le hS4 (by omega), hO4.up, ran_in hR4 (by omega) (by omega)⟩
    try simp only [iv] at hA
    simp [e0, e3, e5, h3', ht, hA, hn8, hm5, hw8, hw5, filt_t]
  · rw [if_neg (by omega), if_neg (by omega), if_neg (by omega), if_neg (by omega), if_neg (by omega)]
    rw [c] at ht
    obtain ⟨h4, ck4, hrun, hS4, hO4, hR4⟩ := fret_run (ck := ck + 1 + 1 + 1 + 1 + 1 + 1 + 1 + 1) (a.n % 8) (a.m % 5) (fls_le hS (by omega)) hO
    have hA := fun e k => callEv_h (C := cfg) (s := ⟨e, h, ck + 1 + 1 + 1 + 1 + 1 + 1 + 1⟩) rfl hrun k
    refine ⟨[], h4, ck4 + 2, ca, cb, ?_, fls_le hS4 (by omega), hO4.up, ran_in hR4 (by omega) (by omega)⟩
    try simp only [iv] at hA
    simp [e0, e3, e5, h3', ht, hA, hn8, hm5, hw8, hw5, filt_t]
end Go.Proofs.YtbocnaoihepjfaaGreat.Pv
end

section
/- What law19.do tells, whole. -/
namespace Go.Proofs.YtbocnaoihepjfaaGreat.Pv
open Go Go.Pev
variable {N : Nat}

abbrev doB : Pc := .seq f27r0 (.seq f27r1 (.seq f27r2 (.seq (.seq f27r3 (.cond (.tmp 10) f27r4 .skip)) doK)))
theorem fls_box {h : HP} {ck cf ca cb : Nat} {F : Flt} (hS : FlS h ck cf ca cb F) {s c o ck' : Nat} (h0 : ck ≤ c) (ob : Ob) (hle : ck ≤ ck') : FlS ((⟨s, c, o⟩, ob) :: h) ck' cf ca cb F := fls_fr hS hle (fun q hq => get_new (by omega))
theorem do_run {h : HP} {ck cf ca cb : Nat} {F : Flt} (a : Act) (ha : FewA a) (hS : FlS h ck cf ca cb F) (hO : Ok N F) (hN : N ≤ 800000) : ∃ h' ck' ca' cb', runL cfg 27 [.pt ⟨34, cf, 5⟩ 15 0 0, actV a] h ck = some (.tu [], h', ck') ∧ FlS h' ck' cf ca' cb' (doP F a) ∧ Ok (N + 1) (doP F a) ∧ Ran h ck cf ca cb h' ck' ca' cb' := by
  have hS1 : FlS ((⟨3, ck, 0⟩, .box 64 ((actC a).map .t)) :: h) (ck + 1 + 1) cf ca cb F := fls_box hS (Nat.le_refl _) _ (by omega)
  have hbg := bag_run hS1 hO
  have hA := fun e k => callEv_h (C := cfg) (s := ⟨e, _, ck + 1⟩) rfl hbg k
  have hS2 : ∀ n, FlS ((⟨7, ck + 1 + 1 + 1, 4⟩, .row 9 1 (slc F.bag) false) :: (⟨2, ck + 1 + 1, 0⟩, .row 9 1 [] false) :: (⟨3, ck, 0⟩, .box 64 ((actC a).map .t)) :: h) (ck + 1 + 1 + 2 + n) cf ca cb F := fun n => fls_box (fls_box hS1 (Nat.le_refl _) _ (Nat.le_refl _)) (by omega) _ (by omega)
  unfold doP
  have hn := ha.2.1
  rw [runL_pf (fn := ⟨2, 62, [], doB⟩) rfl rfl]
  have hfin : ∀ {n h4 ck4 ca4 cb4}, Ran ((⟨7, ck + 1 + 1 + 1, 4⟩, .row 9 1 (slc F.bag) false) :: (⟨2, ck + 1 + 1, 0⟩, .row 9 1 [] false) :: (⟨3, ck, 0⟩, .box 64 ((actC a).map .t)) :: h) (ck + 1 + 1 + 2 + n) cf ca cb h4 ck4 ca4 cb4 → Ran h ck cf ca cb h4 ck4 ca4 cb4 := by
    intro n h4 ck4 ca4 cb4 r
    have := r.le
    refine ⟨by omega, fun q hq x y z => ?_, ?_, ?_⟩
    · rw [r.fr q (by omega) x y z, get_new (by omega), get_new (by omega), get_new (by omega)]
    · rcases r.ca with e | e
      · exact .inl e
      · exact .inr (by omega)
    · rcases r.cb with e | e
      · exact .inl e
      · exact .inr (by omega)
  by_cases c : 0 < F.bag.length
  · have hw : whichP F a = a.n % F.bag.length := by unfold whichP; rw [if_pos c]
    have ht : a.n.tmod F.bag.length = a.n % F.bag.length := Int.tmod_eq_emod_of_nonneg hn.1
    have hwn : IntKind.i64.wrap a.n = a.n := wrap_id (by omega) (by omega)
    have c0 : ¬ F.bag = [] := by intro e; rw [e] at c; simp at c
    obtain ⟨e, h4, ck4, ca4, cb4, hrun, hS4, hO4, hR4⟩ := doK_run (c3 := ck) (ck := ck + 1 + 1 + 2 + 1 + 1 + 1 + 1 + 1) a (whichP F a) ha (hS2 5) hO hN (by simp [HP.get]) [(0, .pt ⟨34, cf, 5⟩ 15 0 0), (3, .pt ⟨3, ck, 0⟩ 3 0 0), (5, iv (whichP F a))] rfl rfl rfl
    refine ⟨h4, ck4, ca4, cb4, ?_, hS4, hO4, hfin (n := 5) hR4⟩
    rw [hw] at hrun
    simp [actC, actV] at hA hrun ⊢
    simp [hA, c, c0, hwn, ht, hrun, filt_t]
  · have hw : whichP F a = 0 := by unfold whichP; rw [if_neg c]
    have c0 : F.bag.length = 0 := by omega
    obtain ⟨e, h4, ck4, ca4, cb4, hrun, hS4, hO4, hR4⟩ := doK_run (c3 := ck) (ck := ck + 1 + 1 + 2 + 1 + 1 + 1 + 1) a (whichP F a) ha (hS2 4) hO hN (by simp [HP.get]) [(0, .pt ⟨34, cf, 5⟩ 15 0 0), (3, .pt ⟨3, ck, 0⟩ 3 0 0), (4, iv 0), (5, iv (whichP F a)), (10, bv false)] rfl rfl rfl
    refine ⟨h4, ck4, ca4, cb4, ?_, hS4, hO4, hfin (n := 4) hR4⟩
    rw [hw] at hrun
    simp [actC, actV] at hA hrun ⊢
    rw [c0] at hA
    simp [hA, c, c0, hrun, filt_t]
end Go.Proofs.YtbocnaoihepjfaaGreat.Pv
end

section
/- The fleet of law19.awake, reckoned. -/
namespace Go.Proofs.YtbocnaoihepjfaaGreat.Pv
open Go Go.Pev

def awM : Mod := ⟨1, [⟨[[65536]], [⟨[[65536]], [[65536]]⟩], 1⟩]⟩
theorem aw_ok : newOk awM 0 [[2]] [[7]] = true := by decide +kernel
def awF : Flt := startF awM 0 [[2]] [[7]]
theorem aw_bag : awF.bag.length = 1 := by decide +kernel
def awF1 : Flt := (delvP awF 0).1
theorem aw_d1 : (delvP awF 0).2 = 0 := by decide +kernel
def awF2 : Flt := (delvP awF1 0).1
theorem aw_d2 : (delvP awF1 0).2 = 0 := by decide +kernel
theorem aw_done : doneP awF2 = ([[14]], true) := by decide +kernel
theorem aw_worked : workedP awF2 = 1 := by decide +kernel
theorem aw_drop : (dropP awF2 0).2 = 4 := by decide +kernel
end Go.Proofs.YtbocnaoihepjfaaGreat.Pv
end

section
/- What law19.awake tells. -/
namespace Go.Proofs.YtbocnaoihepjfaaGreat.Pv
open Go Go.Pev

theorem awake_ret : RetT cfg 11 [] (bv true) := by
  have hm : FewM awM := ⟨by simp [awM], by simp [awM, FewL, FewX, Few]⟩
  obtain ⟨h1, k1, cf, ca1, cb1, r1, s1, o1, -, -, -, -, -⟩ := new_good (ph := [[2]]) (ts := [[7]]) (pe := 0) hm ⟨by simp, by simp⟩ ⟨by simp, by simp⟩ aw_ok [(⟨2, 2, 8⟩, .box 24 [iv 1, .t (laysT awM)])] 4
  have q1 := fun e k => callEv_h (C := cfg) (s := ⟨e, _, 3⟩) rfl r1 k
  have s1' := fls_le s1 (ck' := k1 + 1 + 1 + 1) (by omega)
  have rb := bag_run s1' o1
  have q2 := fun e k => callEv_h (C := cfg) (s := ⟨e, _, k1 + 1 + 1⟩) rfl rb k
  have eb : awF.bag.length = 1 := aw_bag
  obtain ⟨h2, k2, ca2, cb2, r2, s2, o2, -⟩ := deliver_run (ck := k1 + 1 + 1 + 1 + 2 + 1 + 1) 0 (fls_box (fls_box (s := 2) (c := k1 + 1 + 1 + 1) (o := 0) s1' (Nat.le_refl _) (.row 9 1 [] false) (Nat.le_refl _)) (s := 7) (c := k1 + 1 + 1 + 1 + 1) (o := 4) (by omega) (.row 9 1 (slc awF.bag) false) (by omega)) o1 (by omega)
  have q3 := fun e k => callEv_h (C := cfg) (s := ⟨e, _, k1 + 1 + 1 + 1 + 2 + 1⟩) rfl r2 k
  obtain ⟨h3, k3, ca3, cb3, r3, s3, o3, -⟩ := deliver_run (ck := k2 + 1 + 1) 0 (fls_le s2 (by omega)) o2 (by omega)
  have q4 := fun e k => callEv_h (C := cfg) (s := ⟨e, _, k2 + 1⟩) rfl r3 k
  obtain ⟨h4, k4, kd, r4, g4, l4, l5, l6, l7, f4⟩ := done_run (ck := k3 + 1 + 1 + 1) (fls_le s3 (by omega)) o3
  have q5 := fun e k => callEv_h (C := cfg) (s := ⟨e, _, k3 + 1 + 1⟩) rfl r4 k
  have s4 := fls_fr (fls_le s3 (ck' := k3 + 1 + 1 + 1) (by omega)) l4 f4
  obtain ⟨k5, r5, l8⟩ := worked_run (ck := k4 + 1 + 1 + 1) (fls_le s4 (by omega)) o3 (by omega)
  have q6 := fun e k => callEv_h (C := cfg) (s := ⟨e, _, k4 + 1 + 1⟩) rfl r5 k
  obtain ⟨h6, k6, r6, s6, o6, -⟩ := drop_run (ck := k5 + 1 + 1) 0 (fls_le (fls_le s4 (ck' := k4 + 1 + 1 + 1) (by omega)) (by omega)) o3
  have q7 := fun e k => callEv_h (C := cfg) (s := ⟨e, _, k5 + 1⟩) rfl r6 k
  have d1 : (delvP (startF awM 0 [[2]] [[7]]) 0).2 = 0 := aw_d1
  have d2 : (delvP (delvP (startF awM 0 [[2]] [[7]]) 0).1 0).2 = 0 := aw_d2
  have d3 : doneP (delvP (delvP (startF awM 0 [[2]] [[7]]) 0).1 0).1 = ([[14]], true) := aw_done
  have d4 : workedP (delvP (delvP (startF awM 0 [[2]] [[7]]) 0).1 0).1 = 1 := aw_worked
  have d5 : (dropP (delvP (delvP (startF awM 0 [[2]] [[7]]) 0).1 0).1 0).2 = 4 := aw_drop
  have d6 : (startF awM 0 [[2]] [[7]]).bag.length = 1 := aw_bag
  rw [d1] at q3
  rw [d2] at q4
  rw [d3] at q5 g4
  rw [d4] at q6
  rw [d5] at q7
  rw [d6] at q2
  clear r1 r2 r3 r4 r5 r6 rb d1 d2 d3 d4 d5 d6 s1 s2 s3 s4 s6 o1 o2 o3 o6 s1' hm
  unfold awF at q3
  generalize slc (startF awM 0 [[2]] [[7]]).bag = bg at *
  simp [modV, mapV, laysT, awM, layT, exT, gl, il, iv, bv] at q1 q2 q3 q4 q5 q6 q7 g4
  refine RetT.of ?_
  rw [runL_pf (fn := f11) rfl rfl]
  simp [buildV, cells, over, rowsOf, treesC, treesOf, treeOf, keysOfs, freezeAll, keysOf, keysOf1, filt_t, q1, q2, q3, q4, q5, q6, q7, g4]
end Go.Proofs.YtbocnaoihepjfaaGreat.Pv
end

section
/- What the arguments of these laws are: models, acts. -/
set_option maxRecDepth 100000
namespace Go.Proofs.YtbocnaoihepjfaaGreat.Pv
open Go Go.Pev Go.RowKit Go.WideShapes
theorem u_exps : PP.underlying 51 = some (.slice 67) := by kernel_rfl
theorem u_exp : structT PP 67 = some [25, 25] := by kernel_rfl
theorem u_lay : structT PP 53 = some [25, 51, 3] := by kernel_rfl
theorem u_lays : PP.underlying 22 = some (.slice 53) := by kernel_rfl
theorem u_mod : structT PP 24 = some [3, 22] := by kernel_rfl
theorem u_u8 : PP.underlying 5 = some (.int .u8) := by kernel_rfl
theorem u_act : structT PP 64 = some [5, 5, 5] := by kernel_rfl
theorem u_acts : PP.underlying 61 = some (.slice 64) := by kernel_rfl
theorem f_exp {k : Nat} (c : List T) (h : Fits PP (k + 4) 67 c) : ∃ x : Exp, c = exT x ∧ True := by
  have h0 := fits_struct u_exp h
  obtain ⟨a, r1, rfl, -, h1⟩ := fitsT_cons (mk := fun l : List (List Int) => [gl l]) (Q := fun _ => True) (fun c h => by obtain ⟨l, e, -⟩ := f_intss (k := k) c h; exact ⟨l, e, trivial⟩) h0
  obtain ⟨b, r2, rfl, -, h2⟩ := fitsT_cons (mk := fun l : List (List Int) => [gl l]) (Q := fun _ => True) (fun c h => by obtain ⟨l, e, -⟩ := f_intss (k := k) c h; exact ⟨l, e, trivial⟩) h1
  cases h2
  exact ⟨⟨a, b⟩, rfl, trivial⟩
theorem f_exps {k : Nat} (c : List T) (h : Fits PP (k + 5) 51 c) : ∃ l : List Exp, c = [.l (l.map exT)] ∧ True := by
  obtain ⟨l, rfl, -, -⟩ := fits_slice (mk := exT) (Q := fun _ => True) u_exps f_exp h
  exact ⟨l, rfl, trivial⟩
theorem f_lay {k : Nat} (c : List T) (h : Fits PP (k + 6) 53 c) : ∃ l : Lay, c = layT l ∧ True := by
  have h0 := fits_struct u_lay h
  obtain ⟨a, r1, rfl, -, h1⟩ := fitsT_cons (mk := fun l : List (List Int) => [gl l]) (Q := fun _ => True) (fun c h => by obtain ⟨l, e, -⟩ := f_intss (k := k + 2) c h; exact ⟨l, e, trivial⟩) h0
  obtain ⟨b, r2, rfl, -, h2⟩ := fitsT_cons f_exps h1
  obtain ⟨n, r3, rfl, -, h3⟩ := fitsT_cons f_int h2
  cases h3
  exact ⟨⟨a, b, n⟩, rfl, trivial⟩
theorem f_lays {k : Nat} (c : List T) (h : Fits PP (k + 7) 22 c) : ∃ l : List Lay, c = [.l (l.map layT)] ∧ True := by
  obtain ⟨l, rfl, -, -⟩ := fits_slice (mk := layT) (Q := fun _ => True) u_lays f_lay h
  exact ⟨l, rfl, trivial⟩
theorem a_mod {k : Nat} {x : V} (h : ArgFit PP (k + 8) 24 x) : ∃ m : Mod, x = modV m ∧ I64 m.dim := by
  obtain ⟨ts, rfl, h0⟩ := argFit_struct u_mod h
  obtain ⟨e, r1, rfl, he, h1⟩ := fitsT_cons f_int h0
  obtain ⟨l, r2, rfl, hl, h2⟩ := fitsT_cons f_lays h1
  cases h2
  exact ⟨⟨e, l⟩, rfl, he⟩
theorem a_intss {k : Nat} {x : V} (h : ArgFit PP (k + 3) 25 x) : ∃ l : List (List Int), x = .t (gl l) ∧ ∀ r ∈ l, ∀ n ∈ r, I64 n := by
  obtain ⟨l, rfl, _, hw⟩ := argFit_slice (mk := fun r : List Int => [il r]) (Q := fun r => ∀ n ∈ r, I64 n) u_intss f_ints h
  exact ⟨l, rfl, hw⟩
theorem f_u8 {k : Nat} (c : List T) (h : Fits PP (k + 1) 5 c) : ∃ m : Int, c = [.i .u8 m] ∧ (0 ≤ m ∧ m < 256) := by
  obtain ⟨m, rfl, hw⟩ := fits_int u_u8 h
  simp only [Lit.wf, Bool.and_eq_true, decide_eq_true_eq] at hw
  have h1 : IntKind.u8.min = 0 := by decide
  have h2 : IntKind.u8.max = 255 := by decide
  exact ⟨m, rfl, by omega, by omega⟩
theorem f_act {k : Nat} (c : List T) (h : Fits PP (k + 2) 64 c) : ∃ a : Act, c = actC a ∧ FewA a := by
  have h0 := fits_struct u_act h
  obtain ⟨a, r1, rfl, h1, h0⟩ := fitsT_cons f_u8 h0
  obtain ⟨b, r2, rfl, h2, h0⟩ := fitsT_cons f_u8 h0
  obtain ⟨d, r3, rfl, h3, h0⟩ := fitsT_cons f_u8 h0
  cases h0
  exact ⟨⟨a, b, d⟩, rfl, h1, h2, h3⟩
theorem a_acts {k : Nat} {x : V} (h : ArgFit PP (k + 3) 61 x) : ∃ l : List Act, x = .t (.l (l.map actC)) ∧ (l.length ≤ 140737488355328 ∧ ∀ a ∈ l, FewA a) := by
  obtain ⟨l, rfl, hb, hw⟩ := argFit_slice (mk := actC) (Q := FewA) u_acts f_act h
  refine ⟨l, rfl, ?_, hw⟩
  have : PP.bytesOf 64 = 3 := by kernel_rfl
  rw [this] at hb
  have : reachBytes ≤ 140737488355328 := by decide
  omega
theorem few_small {h : List (List Int)} (s : small h = true) : Few h := by
  unfold small at s
  simp only [decide_eq_true_eq] at s
  exact ⟨by omega, fun r hr => by have := s.2 r hr; omega⟩
theorem smallM_few {m : Mod} (h : smallM m = true) : FewM m := by
  simp only [smallM, smallL, smallX, Bool.and_eq_true, decide_eq_true_eq, List.all_eq_true] at h
  refine ⟨by omega, fun l hl => ?_⟩
  obtain ⟨⟨h1, h2⟩, h3⟩ := h.2 l hl
  exact ⟨few_small h2, by omega, fun x hx => ⟨few_small (h3 x hx).1, few_small (h3 x hx).2⟩⟩
end Go.Proofs.YtbocnaoihepjfaaGreat.Pv
end

section
/- FleetMaps, reckoned. -/
namespace Go.Proofs.YtbocnaoihepjfaaGreat.Pv
open Go Go.Pev

def frontOk (m : Mod) (pe : Int) (ph ts : List (List Int)) : Bool := smallM m && small ph && small ts && newOk m pe ph ts
theorem smallM_call (m : Mod) (s : St) (k : Key) : callEv cfg (runL cfg) 9 [modV m] s k = some (bv (smallM m), s.hp, s.ck) := callEv_tr (C := cfg) (smallM_ret m) rfl rfl rfl s k
theorem awake_call (s : St) (k : Key) : callEv cfg (runL cfg) 11 [] s k = some (bv true, s.hp, s.ck) := callEv_tr (C := cfg) awake_ret rfl rfl rfl s k
theorem small_ph {ph : List (List Int)} (s : small ph = true) : ph.length ≤ 1000000 ∧ ∀ r ∈ ph, r.length ≤ 100000 := by
  unfold small at s
  simp only [decide_eq_true_eq] at s
  exact ⟨by omega, fun r hr => by have := s.2 r hr; omega⟩
theorem may_call {m : Mod} {pe : Int} {ph ts : List (List Int)} (h1 : smallM m = true) (h2 : small ph = true) (h3 : small ts = true) (s : St) (k : Key) : callEv cfg (runL cfg) 13 [modV m, mapV pe ph, .t (gl ts)] s k = some (bv (newOk m pe ph ts), s.hp, s.ck) := callEv_tr (C := cfg) (rmay_ret m pe ph ts (smallM_few h1) (few_small h3) (small_ph h2)) rfl rfl rfl s k
end Go.Proofs.YtbocnaoihepjfaaGreat.Pv
end

section
/- What the document's numbers, rows and shares tell. -/
namespace Go.Proofs.YtbocnaoihepjfaaGreat.Pv
open Go Go.Pev

theorem rhold_ret (n : Int) : RetT cfg 83 [iv n] (iv (hold n)) := by
  refine RetT.of ?_
  rw [runL_pf (fn := f83) rfl rfl]
  unfold hold
  by_cases h1 : 2147483647 < n
  · simp [h1]
  · by_cases h2 : n < -2147483647
    · simp [h1, h2]
    · simp [h1, h2]
theorem rhold_call (n : Int) (s : St) (k : Key) : callEv cfg (runL cfg) 83 [.t (.i .i64 n)] s k = some (.t (.i .i64 (hold n)), s.hp, s.ck) := callEv_tr (C := cfg) (rhold_ret n) rfl rfl rfl s k
theorem rhold_callq (n : Int) (hp : HP) : callQ (runL cfg) 83 [.t (.i .i64 n)] hp = some (.t (.i .i64 (hold n))) := callQ_tr (C := cfg) (rhold_ret n) rfl hp
theorem tdiv_in {x : Int} (h1 : -4611686018427387904 < x) (h2 : x < 4611686018427387904) : -4611686018427387904 ≤ x.tdiv 65536 ∧ x.tdiv 65536 ≤ 4611686018427387904 := by
  rcases Int.le_total 0 x with h | h
  · rw [Int.tdiv_eq_ediv_of_nonneg h]; omega
  · have e : x = -(-x) := by omega
    rw [e, Int.neg_tdiv, Int.tdiv_eq_ediv_of_nonneg (by omega)]; omega
theorem rmul_ret (a b : Int) : RetT cfg 84 [iv a, iv b] (iv (fmul a b)) := by
  have hm := held_mul a b
  have ha := hold_in a
  have hb := hold_in b
  have h1 := rhold_call
  have e := rmul_is a b
  rw [← e]
  unfold rmul
  refine RetT.of ?_
  rw [runL_pf (fn := f84) rfl rfl]
  have h1a := fun s k => h1 a s k
  have h1b := fun s k => h1 b s k
  generalize hold a = A at *
  generalize hold b = B at *
  have w1 : IntKind.i64.wrap (-A) = -A := wrap_id (by omega) (by omega)
  have w2 : IntKind.i64.wrap (-B) = -B := wrap_id (by omega) (by omega)
  have w3 : IntKind.i64.wrap (A * B) = A * B := wrap_id (by omega) (by omega)
  have w4 : IntKind.i64.wrap (-(A * B)) = -(A * B) := wrap_id (by omega) (by omega)
  have t1 : -4611686018427387904 ≤ (A * B).tdiv 65536 ∧ (A * B).tdiv 65536 ≤ 4611686018427387904 := tdiv_in hm.1 hm.2
  have w5 : IntKind.i64.wrap ((A * B).tdiv 65536) = (A * B).tdiv 65536 := wrap_id (by omega) (by omega)
  have w6 : IntKind.i64.wrap (-((A * B).tdiv 65536)) = -((A * B).tdiv 65536) := wrap_id (by omega) (by omega)
  by_cases c1 : A < 0
  · by_cases c2 : B < 0
    · simp [h1a, h1b, h1, c1, c2, w1, w2, Int.neg_mul_neg, w3, w5]
    · simp [h1a, h1b, h1, c1, c2, w1, w2, Int.neg_mul, w3, w4, w5, w6]
  · by_cases c2 : B < 0
    · simp [h1a, h1b, h1, c1, c2, w1, w2, Int.mul_neg, w3, w4, w5, w6]
    · simp [h1a, h1b, h1, c1, c2, w1, w2, w3, w5]
theorem rmul_callq (a b : Int) (hp : HP) : callQ (runL cfg) 84 [.t (.i .i64 a), .t (.i .i64 b)] hp = some (.t (.i .i64 (fmul a b))) := callQ_tr (C := cfg) (rmul_ret a b) rfl hp
theorem rmul_call (a b : Int) (s : St) (k : Key) : callEv cfg (runL cfg) 84 [.t (.i .i64 a), .t (.i .i64 b)] s k = some (.t (.i .i64 (fmul a b)), s.hp, s.ck) := callEv_tr (C := cfg) (rmul_ret a b) rfl rfl rfl s k
theorem rpart_ret (n : Int) : RetT cfg 116 [iv n] (iv (partP n)) := by
  refine RetT.of ?_
  rw [runL_pf (fn := f116) rfl rfl, ← partP_is n]
  by_cases h1 : n < 0
  · simp [h1]
  · by_cases h2 : 2147483647 < n
    · simp [h1, h2]
    · have hw : IntKind.i64.wrap (n + 1) = n + 1 := wrap_id (by omega) (by omega)
      simp [h1, h2, hw]
def bqI (a b : Int) (i : Nat) (s : St) : Prop := ∃ q left ck, bitsP (a + b) (16 - i) q left = bitsP (a + b) 16 0 a ∧ 0 ≤ q ∧ q < 2 ^ i ∧ 0 ≤ left ∧ left < a + b ∧ s = ⟨[(5, iv a), (6, iv b), (7, iv q), (8, iv left), (9, iv (i : Int))], [], ck⟩
def bqQ (a b : Int) (E : Option (Ex × St)) : Prop := ∃ q x y z w ck, bitsP (a + b) 16 0 a = q ∧ E = some (.exit 0, ⟨[(5, x), (6, y), (7, iv q), (8, z), (9, w), (16, bv false)], [], ck⟩)
theorem bq_loop (a b : Int) (ha : 1 ≤ a ∧ a ≤ 2147483648) (hb : 1 ≤ b ∧ b ≤ 2147483648) (ck : Nat) : bqQ a b (evL cfg (.loop f81l0) ⟨[(5, iv a), (6, iv b), (7, iv 0), (8, iv a), (9, iv 0)], [], ck⟩) := by
  refine loop_q 16 (bqI a b) ?_ ?_ _ ⟨0, a, ck, rfl, by omega, by simp, by omega, by omega, rfl⟩
  · rintro i s hi ⟨q, left, ck, h1, h2, h3, h4, h5, rfl⟩
    have hw : IntKind.i64.wrap ((i : Int) + 1) = (i : Int) + 1 := wrap_id (by omega) (by omega)
    have hi' : (i : Int) < 16 := by omega
    have hp : (2 : Int) ^ i ≤ 32768 := by
      have : i ≤ 15 := by omega
      calc (2 : Int) ^ i ≤ 2 ^ 15 := by exact_mod_cast Nat.pow_le_pow_right (by decide) this
        _ = 32768 := by decide
    have hp2 : (2 : Int) ^ (i + 1) = 2 * 2 ^ i := by rw [Int.pow_succ]; omega
    have w1 : IntKind.i64.wrap (2 * q) = 2 * q := wrap_id (by omega) (by omega)
    have w2 : IntKind.i64.wrap (2 * left) = 2 * left := wrap_id (by omega) (by omega)
    have w3 : IntKind.i64.wrap (a + b) = a + b := wrap_id (by omega) (by omega)
    have w4 : IntKind.i64.wrap (2 * q + 1) = 2 * q + 1 := wrap_id (by omega) (by omega)
    have w5 : IntKind.i64.wrap (2 * left - (a + b)) = 2 * left - (a + b) := wrap_id (by omega) (by omega)
    have e : 16 - i = (16 - (i + 1)) + 1 := by omega
    rw [e] at h1
    unfold bitsP at h1
    by_cases c : a + b ≤ 2 * left
    · rw [if_pos c] at h1
      simp [f81l0e, hi', w1, w2, w3, w4, w5, hw, c]
      exact ⟨_, _, _, h1, by omega, by omega, by omega, by omega, rfl⟩
    · rw [if_neg c] at h1
      simp [f81l0e, hi', w1, w2, w3, w4, w5, hw, c]
      exact ⟨_, _, _, h1, by omega, by omega, by omega, by omega, rfl⟩
  · rintro s ⟨q, left, ck, h1, h2, h3, h4, h5, rfl⟩
    simp [f81l0e]
    exact ⟨_, _, _, _, _, _, h1.symm, rfl⟩
theorem rshare_ret (a b : Int) : RetT cfg 81 [iv a, iv b] (iv (shareP a b)) := by
  have h1 := fun n s k => callEv_tr (C := cfg) (rpart_ret n) rfl rfl rfl s k
  have ha := partP_in a
  have hb := partP_in b
  rw [← share_is a b]
  obtain ⟨q, x, y, z, w, ck, e, hL⟩ := bq_loop (partP a) (partP b) ha hb 4
  rw [e]
  simp only [iv, bv] at h1 hL
  refine RetT.of ?_
  rw [runL_pf (fn := f81) rfl rfl]
  simp [h1, hL]
end Go.Proofs.YtbocnaoihepjfaaGreat.Pv
end

section
/- What the document's Dot, Apply, Rank, Of, Choose tell. -/
namespace Go.Proofs.YtbocnaoihepjfaaGreat.Pv
open Go Go.Pev

def rdI (a b : List Int) (i : Nat) (s : St) : Prop := ∃ x ck, dot (a.drop i) (b.drop i) x = dot a b 0 ∧ -2147483647 ≤ x ∧ x ≤ 2147483647 ∧ s = ⟨[(0, .t (il a)), (1, .t (il b)), (5, iv x), (6, iv (i : Int))], [], ck⟩
def rdQ (a b : List Int) (E : Option (Ex × St)) : Prop := ∃ x y z w ck, E = some (.exit 0, ⟨[(0, x), (1, y), (5, iv (dot a b 0)), (6, z), (10, w)], [], ck⟩)
theorem rdot_ret (a b : List Int) (hab : a.length = b.length) (hl : a.length ≤ 1000000) : RetT cfg 114 [.t (il a), .t (il b)] (iv (dot a b 0)) := by
  have hL : ∀ ck, rdQ a b (evL cfg (.loop f114l0) ⟨[(0, .t (il a)), (1, .t (il b)), (5, iv 0), (6, iv 0)], [], ck⟩) := by
    intro ck
    refine loop_q a.length (rdI a b) ?_ ?_ _ ⟨0, ck, rfl, by omega, by omega, rfl⟩
    · rintro i s hi ⟨x, ck, h1, h2, h3, rfl⟩
      have hw : IntKind.i64.wrap ((i : Int) + 1) = (i : Int) + 1 := wrap_id (by omega) (by omega)
      have hib : i < b.length := by omega
      have hf : -2147483647 ≤ fmul a[i] b[i] ∧ fmul a[i] b[i] ≤ 2147483647 := hold_in _
      have w2 : IntKind.i64.wrap (x + fmul a[i] b[i]) = x + fmul a[i] b[i] := wrap_id (by omega) (by omega)
      rw [List.drop_eq_getElem_cons hi, List.drop_eq_getElem_cons hib] at h1
      have e : dot (a[i] :: a.drop (i + 1)) (b[i] :: b.drop (i + 1)) x = dot (a.drop (i + 1)) (b.drop (i + 1)) (hold (hold x + hold (fmul a[i] b[i]))) := rfl
      rw [e, hold_id ⟨h2, h3⟩, hold_id hf] at h1
      have hh := hold_in (x + fmul a[i] b[i])
      simp [f114l0e, il, hi, hib, rmul_callq, rhold_callq, w2, hw]
      exact ⟨_, _, h1, hh.1, hh.2, rfl⟩
    · rintro s ⟨x, ck, h1, h2, h3, rfl⟩
      rw [List.drop_of_length_le (Nat.le_refl _)] at h1
      have e : x = dot a b 0 := by rw [← h1]; simp [dot]
      subst e
      simp [f114l0e, il]
      exact ⟨_, _, _, _, _, rfl⟩
  obtain ⟨x, y, z, w, ck, hc⟩ := hL 3
  refine RetT.of ?_
  rw [runL_pf (fn := f114) rfl rfl]
  simp [il] at hc
  simp [il, hc]
def raQ (m : List (List Int)) (v : List Int) (E : Option (Ex × St)) : Prop :=
  (matOk m v.length = true ∧ ∃ c o ck, E = some (.exit 0, ⟨[(0, .t (gl m)), (1, .t (il v)), (6, .ow ⟨6, c, o⟩ 1 0 m.length), (7, iv m.length), (11, bv false)], [(⟨6, c, o⟩, .row 3 1 (cl (scoresP m v)) false)], ck⟩)) ∨
  (matOk m v.length = false ∧ ∃ c r ck, E = some (.ret, ⟨[(4, .ow ⟨4, c, 0⟩ 1 0 0), (5, bv false)], (⟨4, c, 0⟩, .row 3 1 [] false) :: r, ck⟩))
def raP (m : List (List Int)) (v : List Int) (i : Nat) (s : St) : Prop := ∃ c o ck els, els = cl ((scoresP m v).take i) ∧ (∀ (j : Nat) (hj : j < m.length), j < i → m[j].length = v.length) ∧ s = ⟨[(0, .t (gl m)), (1, .t (il v)), (6, .ow ⟨6, c, o⟩ 1 0 i), (7, iv (i : Int))], [(⟨6, c, o⟩, .row 3 1 els false)], ck⟩
theorem rapply_ret (m : List (List Int)) (v : List Int) (hl : m.length ≤ 1000000) (hv : v.length ≤ 1000000) : RetT cfg 79 [.t (gl m), .t (il v)] (.tu [.t (il (if matOk m v.length then scoresP m v else [])), bv (matOk m v.length)]) := by
  have hL : ∀ c o ck, raQ m v (evL cfg (.loop f79l0) ⟨[(0, .t (gl m)), (1, .t (il v)), (6, .ow ⟨6, c, o⟩ 1 0 0), (7, iv 0)], [(⟨6, c, o⟩, .row 3 1 [] false)], ck⟩) := by
    intro c o ck
    refine loop_q m.length (raP m v) ?_ ?_ _ ⟨c, o, ck, [], rfl, fun j hj h => absurd h (Nat.not_lt_zero j), rfl⟩
    · rintro i s hi ⟨c, o, ck, els, h1, h2, rfl⟩
      have hw : IntKind.i64.wrap ((i : Int) + 1) = (i : Int) + 1 := wrap_id (by omega) (by omega)
      have hlen : els.length = i := by rw [h1]; simp [cl, scoresP]; omega
      have hb : (i + 1) * 8 ≤ 140737488355328 := by omega
      by_cases hx : m[i].length = v.length
      · have hd := fun s k => callEv_tr (C := cfg) (rdot_ret m[i] v hx (by omega)) rfl rfl rfl s k
        simp only [il, iv] at hd
        have hxi : ((m[i].length : Int) != (v.length : Int)) = false := by simp [hx]
        have ht : cl ((scoresP m v).take (i + 1)) = cl ((scoresP m v).take i) ++ [[.i .i64 (dot m[i] v 0)]] := by
          rw [List.take_succ_eq_append_getElem (by simpa [scoresP] using hi)]
          simp [cl, scoresP]
        simp [f79l0e, il, gl, hi, hw, hd, hxi, rowsOf, keysOfs, treesC, treesOf, treeOf, freezeAll, app, elsOf, over, hb, hlen]
        refine ⟨_, _, _, _, by rw [ht, h1], fun j hj hji => ?_, rfl⟩
        by_cases e : j = i
        · subst e; exact hx
        · exact h2 j hj (by omega)
      · have hno : matOk m v.length = false := by
          unfold matOk
          rw [List.all_eq_false]
          exact ⟨m[i], List.getElem_mem hi, by simpa using hx⟩
        have hxi : ((m[i].length : Int) != (v.length : Int)) = true := by simp; omega
        simp [f79l0e, il, gl, hi, hw, hxi]
        exact .inr ⟨hno, _, _, _, rfl⟩
    · rintro s ⟨c, o, ck, els, h1, h2, rfl⟩
      have h3 : (scoresP m v).take m.length = scoresP m v := List.take_of_length_le (by simp [scoresP])
      rw [h3] at h1
      subst h1
      have hok : matOk m v.length = true := by
        unfold matOk
        rw [List.all_eq_true]
        intro l hl
        obtain ⟨j, hj, rfl⟩ := List.getElem_of_mem hl
        simpa using h2 j hj hj
      simp [f79l0e, gl]
      exact .inl ⟨hok, _, _, _, rfl⟩
  have hq := hL 1 0 3
  rw [retT_r, runL_pf (fn := f79) rfl rfl]
  rcases hq with ⟨hok, c, o, ck, hc⟩ | ⟨hok, c, r, ck, hc⟩
  · simp [il, gl] at hc
    simp [il, gl, hc, hok, resOf, resOfs, resOf1, treeOf, cl, List.take_of_length_le, scoresP]
  · simp [il, gl] at hc
    simp [il, gl, hc, hok, resOf, resOfs, resOf1, treeOf]
def rkC (v : List Int) (at_ i : Nat) : Nat := ((List.range i).filter fun j => ahead v at_ j).length
theorem rkC_s (v : List Int) (at_ i : Nat) : rkC v at_ (i + 1) = rkC v at_ i + if ahead v at_ i then 1 else 0 := by
  unfold rkC
  rw [List.range_succ, List.filter_append, List.length_append]
  cases h : ahead v at_ i <;> simp [h]
theorem rkC_le (v : List Int) (at_ : Nat) : ∀ i, rkC v at_ i ≤ i := fun i => by
  have := List.length_filter_le (fun j => ahead v at_ j) (List.range i)
  rw [List.length_range] at this
  exact this
def rkI (v : List Int) (at_ : Nat) (i : Nat) (s : St) : Prop := ∃ ck, s = ⟨[(0, .t (il v)), (1, iv at_), (5, iv (rkC v at_ i : Nat)), (6, iv (i : Int))], [], ck⟩
def rkQ (v : List Int) (at_ : Nat) (E : Option (Ex × St)) : Prop := ∃ x y z w ck, E = some (.exit 0, ⟨[(0, x), (1, y), (5, iv (rankP v at_ : Nat)), (6, z), (10, w)], [], ck⟩)
theorem rrank_ret (v : List Int) (at_ : Nat) (ha : at_ < v.length) (hl : v.length ≤ 1000000) : RetT cfg 115 [.t (il v), iv at_] (iv (rankP v at_ : Nat)) := by
  have hL : ∀ ck, rkQ v at_ (evL cfg (.loop f115l0) ⟨[(0, .t (il v)), (1, iv at_), (5, iv 0), (6, iv 0)], [], ck⟩) := by
    intro ck
    refine loop_q v.length (rkI v at_) ?_ ?_ _ ⟨ck, rfl⟩
    · rintro i s hi ⟨ck, rfl⟩
      have hw : IntKind.i64.wrap ((i : Int) + 1) = (i : Int) + 1 := wrap_id (by omega) (by omega)
      have hr := rkC_le v at_ i
      have hw2 : IntKind.i64.wrap ((rkC v at_ i : Int) + 1) = (rkC v at_ i : Int) + 1 := wrap_id (by omega) (by omega)
      have hs := rkC_s v at_ i
      have ga : v.getD at_ 0 = v[at_] := by simp [List.getD_eq_getElem?_getD, ha]
      have gi : v.getD i 0 = v[i] := by simp [List.getD_eq_getElem?_getD, hi]
      have hA : ahead v at_ i = (decide (v[at_] < v[i]) || (decide (v[i] = v[at_]) && decide (i < at_))) := by unfold ahead; rw [ga, gi]
      by_cases c1 : v[at_] < v[i]
      · have e : rkC v at_ (i + 1) = rkC v at_ i + 1 := by rw [hs, hA]; simp [c1]
        simp [f115l0e, il, hi, ha, c1, hw, hw2]
        exact ⟨_, by rw [e]; rfl⟩
      · by_cases c2 : v[i] = v[at_]
        · by_cases c3 : i < at_
          · have e : rkC v at_ (i + 1) = rkC v at_ i + 1 := by rw [hs, hA]; simp [c2, c3]
            have c2' : (v[i] == v[at_]) = true := by simpa using c2
            simp [f115l0e, il, hi, ha, c1, c2', c3, hw, hw2]
            exact ⟨_, by rw [e]; rfl⟩
          · have e : rkC v at_ (i + 1) = rkC v at_ i := by rw [hs, hA]; simp [c1, c3]
            have c2' : (v[i] == v[at_]) = true := by simpa using c2
            simp [f115l0e, il, hi, ha, c1, c2', c3, hw, hw2]
            exact ⟨_, by rw [e]; rfl⟩
        · have e : rkC v at_ (i + 1) = rkC v at_ i := by rw [hs, hA]; simp [c1, c2]
          have c2' : (v[i] == v[at_]) = false := by simpa using c2
          simp [f115l0e, il, hi, ha, c1, c2', hw, hw2]
          exact ⟨_, by rw [e]; rfl⟩
    · rintro s ⟨ck, rfl⟩
      simp [f115l0e, il]
      exact ⟨_, _, _, _, _, rfl⟩
  obtain ⟨x, y, z, w, ck, hc⟩ := hL 3
  refine RetT.of ?_
  rw [runL_pf (fn := f115) rfl rfl]
  simp [il] at hc
  simp [il, hc]
end Go.Proofs.YtbocnaoihepjfaaGreat.Pv
end

section
/- What the document's Of, Choose, Slot tell. -/
namespace Go.Proofs.YtbocnaoihepjfaaGreat.Pv
open Go Go.Pev

theorem of_some {v : List Int} {rank i : Nat} (hi : i < v.length) (h1 : rankP v i = rank) (h2 : ∀ j, j < i → rankP v j ≠ rank) : ofP v rank = i := by
  have : (List.range v.length).find? (fun i => rankP v i == rank) = some i := by
    rw [List.find?_range_eq_some]
    refine ⟨by simpa using h1, by simpa using hi, fun j hj => by simpa using h2 j hj⟩
  unfold ofP
  rw [this]
def ofI (v : List Int) (rank : Nat) (i : Nat) (s : St) : Prop := (∀ j, j < i → rankP v j ≠ rank) ∧ ∃ ck, s = ⟨[(0, .t (il v)), (1, iv rank), (5, iv (i : Int))], [], ck⟩
def ofQ (v : List Int) (rank : Nat) (E : Option (Ex × St)) : Prop := (∃ ck, E = some (.ret, ⟨[(4, iv (ofP v rank))], [], ck⟩)) ∨ (ofP v rank = -1 ∧ ∃ e ck, E = some (.exit 0, ⟨e, [], ck⟩))
theorem rof_ret (v : List Int) (rank : Nat) (hl : v.length ≤ 1000000) : RetT cfg 80 [.t (il v), iv rank] (iv (ofP v rank)) := by
  have hL : ∀ ck, ofQ v rank (evL cfg (.loop f80l0) ⟨[(0, .t (il v)), (1, iv rank), (5, iv 0)], [], ck⟩) := by
    intro ck
    refine loop_q v.length (ofI v rank) ?_ ?_ _ ⟨fun j h => absurd h (Nat.not_lt_zero j), ck, rfl⟩
    · rintro i s hi ⟨h1, ck, rfl⟩
      have hw : IntKind.i64.wrap ((i : Int) + 1) = (i : Int) + 1 := wrap_id (by omega) (by omega)
      have hr := fun s k => callEv_tr (C := cfg) (rrank_ret v i hi hl) rfl rfl rfl s k
      simp only [il, iv] at hr
      by_cases c : rankP v i = rank
      · have c' : ((rankP v i : Int) == (rank : Int)) = true := by simp [c]
        have e := of_some hi c h1
        rw [c] at hr
        simp [f80l0e, il, hi, hr]
        exact .inl ⟨_, by rw [e]; rfl⟩
      · have c' : ((rankP v i : Int) == (rank : Int)) = false := by simp; omega
        simp [f80l0e, il, hi, hr, c', hw]
        exact ⟨fun j hj => by
          by_cases e : j = i
          · subst e; exact c
          · exact h1 j (by omega), _, rfl⟩
    · rintro s ⟨h1, ck, rfl⟩
      simp [f80l0e, il]
      exact .inr ⟨of_none h1, _, _, rfl⟩
  refine RetT.of ?_
  rw [runL_pf (fn := f80) rfl rfl]
  rcases hL 2 with ⟨ck, hc⟩ | ⟨h1, e, ck, hc⟩
  · simp [il] at hc
    simp [il, hc]
  · rw [h1]
    simp [il] at hc
    simp [il, hc]
theorem rchoose_ret (rows : List (List Int)) (v : List Int) (hr : Few rows) (hv : v.length ≤ 1000000) : RetT cfg 45 [.t (gl rows), .t (il v)] (.tu [.ag (choC (choP rows v)), bv (choOk rows v)]) := by
  have hA := fun s k => callEv_tr (C := cfg) (rapply_ret rows v hr.1 hv) rfl rfl rfl s k
  rw [retT_r, runL_pf (fn := f45) rfl rfl]
  by_cases hok : matOk rows v.length = true
  case neg =>
    have hok' : matOk rows v.length = false := by simpa using hok
    rw [hok'] at hA
    have e : choP rows v = ⟨0, 0, 0, 0⟩ := by unfold choP; rw [if_pos (.inl hok')]
    simp only [gl, il, bv] at hA
    simp [gl, il, hA, e, choOk, hok', choC, over, buildV, resOf, resOfs, resOf1, treesOf, treeOf]
  rw [hok] at hA
  by_cases hn : rows = []
  · subst hn
    have e : choP [] v = ⟨0, 0, 0, 0⟩ := by unfold choP; rw [if_pos (.inr rfl)]
    simp only [gl, il, bv] at hA
    simp [gl, il, scoresP] at hA
    simp [gl, il, hA, e, choOk, hok, choC, over, buildV, resOf, resOfs, resOf1, treesOf, treeOf]
  have hl0 : ¬ rows.length = 0 := fun e => hn (List.length_eq_zero_iff.1 e)
  have hb0 : ((rows.length : Int) == 0) = false := by simp [hn]
  have hie : rows.isEmpty = false := by cases rows with
    | nil => exact absurd rfl hn
    | cons _ _ => rfl
  have hlen : (scoresP rows v).length = rows.length := by simp [scoresP]
  have hsn : scoresP rows v ≠ [] := fun e => hl0 (by rw [← hlen, e]; rfl)
  have hsl : ((scoresP rows v).length : Int) = rows.length := by rw [hlen]
  have hT0 := fun s k => callEv_tr (C := cfg) (rof_ret (scoresP rows v) 0 (by rw [hlen]; exact hr.1)) rfl rfl rfl s k
  have hT1 := fun s k => callEv_tr (C := cfg) (rof_ret (scoresP rows v) 1 (by rw [hlen]; exact hr.1)) rfl rfl rfl s k
  have p1 := (two_in hsn).1
  have p3 := (two_in hsn).2
  have e : choP rows v = if 0 ≤ (twoP (scoresP rows v)).2 then ⟨(twoP (scoresP rows v)).1, (twoP (scoresP rows v)).2, shareP ((scoresP rows v).getD (twoP (scoresP rows v)).1.toNat 0) ((scoresP rows v).getD (twoP (scoresP rows v)).2.toNat 0), 65536 - shareP ((scoresP rows v).getD (twoP (scoresP rows v)).1.toNat 0) ((scoresP rows v).getD (twoP (scoresP rows v)).2.toNat 0)⟩ else ⟨(twoP (scoresP rows v)).1, (twoP (scoresP rows v)).2, 65536, 0⟩ := by
    unfold choP; rw [if_neg (by rw [hok]; simp [hn])]
  have hab := two_is hsn
  rw [e]
  clear e
  generalize scoresP rows v = sc at hT0 hT1 hA p1 p3 hlen hsn hsl hab ⊢
  rw [hab] at p1 p3 ⊢
  generalize ofP sc 0 = a at *
  generalize ofP sc 1 = b at *
  simp only at p1 p3 ⊢
  obtain ⟨x, rfl⟩ : ∃ x : Nat, a = x := ⟨a.toNat, by omega⟩
  have hx : x < sc.length := by omega
  have gx : sc.getD x 0 = sc[x] := by simp [List.getD_eq_getElem?_getD, hx]
  simp only [Int.natCast_zero, Int.natCast_one] at hT0 hT1
  by_cases hb : 0 ≤ b
  · obtain ⟨y, rfl⟩ : ∃ y : Nat, b = y := ⟨b.toNat, by omega⟩
    have hy : y < sc.length := by omega
    have gy : sc.getD y 0 = sc[y] := by simp [List.getD_eq_getElem?_getD, hy]
    have hS := fun hp => callQ_tr (C := cfg) (rshare_ret sc[x] sc[y]) rfl hp
    have hsh : 0 ≤ shareP sc[x] sc[y] ∧ shareP sc[x] sc[y] ≤ 65536 := share_mul _ _
    have hw : IntKind.i64.wrap (65536 - shareP sc[x] sc[y]) = 65536 - shareP sc[x] sc[y] := wrap_id (by omega) (by omega)
    rw [if_pos hb]
    simp only [Int.toNat_natCast, gx, gy]
    simp only [gl, il, iv, bv, if_true] at hA hT0 hT1 hS
    simp [gl, il, hA, hT0, hT1, hS, hb0, hie, hok, hb, hx, hy, hsl, hw, choOk, choC, over, buildV, resOf, resOfs, resOf1, treesOf, treeOf]
  · rw [if_neg hb]
    have hw : IntKind.i64.wrap 0 = 0 := by decide
    simp only [gl, il, iv, bv, if_true] at hA hT0 hT1
    simp [gl, il, hA, hT0, hT1, hb0, hie, hok, hb, hx, hsl, hw, choOk, choC, over, buildV, resOf, resOfs, resOf1, treesOf, treeOf]
end Go.Proofs.YtbocnaoihepjfaaGreat.Pv
end

section
/- What the document's Slot tells, and that it is the program's. -/
namespace Go.Proofs.YtbocnaoihepjfaaGreat.Pv
open Go Go.Pev

/-- One wish for x? -/
def isX (x y : Int) : Nat := if y = x then 1 else 0
def cntT (ws : List (Int × Int)) (x : Int) (i : Nat) : Nat := ((ws.take i).map fun c => isX x c.1 + isX x c.2).sum
theorem cntT_s {ws : List (Int × Int)} {x : Int} {i : Nat} (hi : i < ws.length) : cntT ws x (i + 1) = cntT ws x i + (isX x ws[i].1 + isX x ws[i].2) := by
  unfold cntT
  rw [List.take_succ_eq_append_getElem hi, List.map_append, List.sum_append]
  simp
theorem isX_le (x y : Int) : isX x y ≤ 1 := by unfold isX; split <;> omega
theorem cntT_le {ws : List (Int × Int)} {x : Int} : ∀ (i : Nat), i ≤ ws.length → cntT ws x i ≤ 2 * i
  | 0, _ => by simp [cntT]
  | i + 1, h => by
    have := cntT_le (ws := ws) (x := x) i (by omega)
    rw [cntT_s (by omega)]
    have a := isX_le x ws[i].1
    have b := isX_le x ws[i].2
    omega
/-- The wishes for x ahead of token t's wish r. -/
def aheadN (ws : List (Int × Int)) (t r : Nat) (x : Int) : Nat := cntT ws x t + if 0 < r then isX x (ws.getD t (0, 0)).1 else 0
def ahQ (ws : List (Int × Int)) (t r : Nat) (x : Int) (i n : Nat) (E : Option (Ex × St)) : Prop := ∃ w ck, E = some (.exit 2, ⟨[(0, .t (prl ws)), (1, iv t), (2, iv r), (3, iv x), (9, iv (n : Nat)), (10, iv i), (11, iv 2), (18, w)], [], ck⟩)
theorem ah_in {ws : List (Int × Int)} {t r : Nat} {x : Int} {i : Nat} (hi : i < ws.length) (hr : r ≤ 1) (hit : i ≤ t) (n ck : Nat) (hn : n ≤ 1000000) : ahQ ws t r x i (n + if i < t then isX x ws[i].1 + isX x ws[i].2 else if 0 < r then isX x ws[i].1 else 0) (evL cfg (.loop f82l0) ⟨[(0, .t (prl ws)), (1, iv t), (2, iv r), (3, iv x), (9, iv n), (10, iv i), (11, iv 0)], [], ck⟩) := by
  have hw1 : IntKind.i64.wrap ((n : Int) + 1) = (n : Int) + 1 := wrap_id (by omega) (by omega)
  have hw2 : IntKind.i64.wrap ((n : Int) + 1 + 1) = (n : Int) + 1 + 1 := wrap_id (by omega) (by omega)
  have d1 : IntKind.i64.wrap 1 = 1 := by decide
  have d2 : IntKind.i64.wrap 2 = 2 := by decide
  have hr1 : ¬ 1 < r := by omega
  have hr2 : ¬ (1 : Int) < r := by omega
  generalize hp : ws[i] = p at *
  obtain ⟨p1, p2⟩ := p
  unfold isX ahQ
  simp only
  have key : ∀ (b1 b2 : Bool), (p1 == x) = b1 → (p2 == x) = b2 → ∃ w ck', evL cfg (.loop f82l0) ⟨[(0, .t (prl ws)), (1, iv t), (2, iv r), (3, iv x), (9, iv n), (10, iv i), (11, iv 0)], [], ck⟩ = some (.exit 2, ⟨[(0, .t (prl ws)), (1, iv t), (2, iv r), (3, iv x), (9, iv ((n + (if b1 && (decide (i < t) || decide (0 < r)) then 1 else 0) + (if b2 && decide (i < t) then 1 else 0) : Nat) : Int)), (10, iv i), (11, iv 2), (18, w)], [], ck'⟩) := by
    intro b1 b2 e1 e2
    by_cases c3 : i < t <;> by_cases c4 : 0 < r <;> cases b1 <;> cases b2 <;> (
      rw [evL_loop]
      simp [f82l0e, prl, prT, hi, hp, e1, e2, c3, c4, hw1, d1]
      rw [evL_loop]
      simp [f82l0e, prl, prT, hi, hp, e1, e2, c3, c4, hr1, hr2, hw1, hw2, d1, d2]
      rw [evL_loop]
      simp [f82l0e, prl, prT, hi, hp, e1, e2, c3, c4, hr1, hr2, hw1, hw2, d1, d2])
  obtain ⟨w, ck', h⟩ := key _ _ rfl rfl
  refine ⟨w, ck', ?_⟩
  rw [h]
  by_cases c1 : p1 = x <;> by_cases c2 : p2 = x <;> by_cases c3 : i < t <;> by_cases c4 : 0 < r <;> simp [c1, c2, c3, c4] <;> omega
def accN (ws : List (Int × Int)) (t r : Nat) (x : Int) (i : Nat) : Nat := if i ≤ t then cntT ws x i else aheadN ws t r x
theorem accN_s {ws : List (Int × Int)} {t r : Nat} {x : Int} {i : Nat} (hi : i ≤ t) (ht : t < ws.length) (hil : i < ws.length) : accN ws t r x (i + 1) = accN ws t r x i + if i < t then isX x ws[i].1 + isX x ws[i].2 else if 0 < r then isX x ws[i].1 else 0 := by
  unfold accN
  rw [if_pos hi]
  by_cases c : i < t
  · rw [if_pos (by omega), if_pos c, cntT_s hil]
  · have e : i = t := by omega
    subst e
    rw [if_neg (by omega), if_neg c]
    unfold aheadN
    have g : ws.getD i (0, 0) = ws[i] := by simp [List.getD_eq_getElem?_getD, hil]
    rw [g]
def ahI (ws : List (Int × Int)) (t r : Nat) (x : Int) (i : Nat) (s : St) : Prop := ∃ ck, s = ⟨[(0, .t (prl ws)), (1, iv t), (2, iv r), (3, iv x), (9, iv (accN ws t r x i : Nat)), (10, iv i)], [], ck⟩
theorem ahead_ret (ws : List (Int × Int)) (t r : Nat) (x : Int) (ht : t < ws.length) (hr : r ≤ 1) (hl : ws.length ≤ 100000) : RetT cfg 82 [.t (prl ws), iv t, iv r, iv x] (iv (aheadN ws t r x : Nat)) := by
  have hL : ∀ ck, ∃ e ck', evL cfg (.loop f82l1) ⟨[(0, .t (prl ws)), (1, iv t), (2, iv r), (3, iv x), (9, iv 0), (10, iv 0)], [], ck⟩ = some (.exit 0, ⟨e, [], ck'⟩) ∧ Env.get e 9 = iv (aheadN ws t r x : Nat) := by
    intro ck
    refine loop_q (Q := fun E => ∃ e ck', E = some (.exit 0, ⟨e, [], ck'⟩) ∧ Env.get e 9 = iv (aheadN ws t r x : Nat)) (t + 1) (ahI ws t r x) ?_ ?_ _ ⟨ck, by simp [accN, cntT]⟩
    · rintro i s hi ⟨ck, rfl⟩
      have hw : IntKind.i64.wrap ((i : Int) + 1) = (i : Int) + 1 := wrap_id (by omega) (by omega)
      have hle : accN ws t r x i ≤ 2 * i := by
        unfold accN
        rw [if_pos (by omega)]
        exact cntT_le i (by omega)
      have hil : i < ws.length := by omega
      have hit : (i : Int) ≤ t := by omega
      obtain ⟨w, ck', hc⟩ := ah_in (x := x) hil hr (by omega : i ≤ t) (accN ws t r x i) (ck + 1 + 1) (by omega)
      rw [← accN_s (by omega) ht hil] at hc
      simp [prl] at hc
      simp [f82l1e, prl, hit, hc, hw, (by omega : i ≤ t), ahI]
    · rintro s ⟨ck, rfl⟩
      have e : accN ws t r x (t + 1) = aheadN ws t r x := by unfold accN; rw [if_neg (by omega)]
      rw [e]
      have hn : ¬ ((t : Int) + 1 ≤ t) := by omega
      simp [f82l1e, hn]
  obtain ⟨e, ck, hc, h9⟩ := hL 3
  refine RetT.of ?_
  rw [runL_pf (fn := f82) rfl rfl]
  simp [prl] at hc h9
  simp [prl, hc, h9]
def wishN (ws : List (Int × Int)) (t r : Nat) : Int := if r = 0 then (ws.getD t (0, 0)).1 else (ws.getD t (0, 0)).2
def slotN (e cap : Int) (ws : List (Int × Int)) (t r : Nat) : Int := if wishN ws t r < 0 ∨ e ≤ wishN ws t r ∨ cap ≤ (aheadN ws t r (wishN ws t r) : Nat) then -1 else (aheadN ws t r (wishN ws t r) : Nat)
theorem rslot_ret (ws : List (Int × Int)) (e cap : Int) (t r : Nat) (ht : t < ws.length) (hr : r ≤ 1) (hl : ws.length ≤ 100000) : RetT cfg 46 [.t (prl ws), iv e, iv cap, iv t, iv r] (iv (slotN e cap ws t r)) := by
  have hA := fun x s k => callEv_tr (C := cfg) (ahead_ret ws t r x ht hr hl) rfl rfl rfl s k
  have g : ws.getD t (0, 0) = ws[t] := by simp [List.getD_eq_getElem?_getD, ht]
  refine RetT.of ?_
  rw [runL_pf (fn := f46) rfl rfl]
  unfold slotN
  have hx : wishN ws t r = if r = 0 then ws[t].1 else ws[t].2 := by unfold wishN; rw [g]
  have hr' : r = 0 ∨ r = 1 := by omega
  generalize hp : ws[t] = p at *
  obtain ⟨p1, p2⟩ := p
  simp only [prl, iv] at hA
  rcases hr' with rfl | rfl
  · simp only [if_true] at hx
    rw [hx]
    simp only [Int.natCast_zero] at hA
    have d0 : IntKind.i64.wrap 0 = 0 := by decide
    by_cases c1 : p1 < 0
    · simp [prl, prT, ht, hp, hA, c1]
    · by_cases c2 : e ≤ p1
      · simp [prl, prT, ht, hp, hA, c1, c2]
      · by_cases c3 : cap ≤ (aheadN ws t 0 p1 : Nat)
        · simp [prl, prT, ht, hp, hA, c1, c2, c3]
        · simp [prl, prT, ht, hp, hA, c1, c2, c3]
  · simp only [if_neg (by decide : ¬ (1 : Nat) = 0)] at hx
    rw [hx]
    simp only [Int.natCast_one] at hA
    by_cases c1 : p2 < 0
    · simp [prl, prT, ht, hp, hA, c1]
    · by_cases c2 : e ≤ p2
      · simp [prl, prT, ht, hp, hA, c1, c2]
      · by_cases c3 : cap ≤ (aheadN ws t 1 p2 : Nat)
        · simp [prl, prT, ht, hp, hA, c1, c2, c3]
        · simp [prl, prT, ht, hp, hA, c1, c2, c3]
end Go.Proofs.YtbocnaoihepjfaaGreat.Pv
end

section
/- The document's slots are the program's; what its Parts tells. -/
namespace Go.Proofs.YtbocnaoihepjfaaGreat.Pv
open Go Go.Pev

theorem give_cnt {e cap : Int} {g : Cnt} {n : Nat} {x y : Int} (h1 : 0 ≤ x) (h2 : x < e) (hg : g x = min (n : Int) cap) (hc : 0 ≤ cap) : give1 e cap g y x = min ((n + isX x y : Nat) : Int) cap := by
  unfold give1 isX
  by_cases c : y = x
  · subst c
    by_cases m : may1 e cap g y = true
    · rw [if_pos m]
      simp only [may1, Bool.and_eq_true, decide_eq_true_eq] at m
      simp only [if_true]
      omega
    · rw [if_neg m]
      simp only [may1, Bool.and_eq_true, decide_eq_true_eq] at m
      simp only [if_true]
      omega
  · have c' : ¬ x = y := fun e => c e.symm
    rw [if_neg c]
    split
    · simp only [if_neg c', Nat.add_zero]; exact hg
    · simpa using hg
theorem asg_get {e k : Int} : ∀ (l : List (Int × Int)) (g : Cnt) (i : Nat) (hi : i < l.length), (asg e k g l)[i]'(by rw [asg_len]; exact hi) = (slot1 e k (asgC e k g (l.take i)) l[i].1, slot1 e k (give1 e k (asgC e k g (l.take i)) l[i].1) l[i].2)
  | c :: r, g, 0, hi => by simp [asg, asgC]
  | c :: r, g, i + 1, hi => by
    simp only [asg, List.getElem_cons_succ, List.take_succ_cons, asgC]
    exact asg_get r _ i (by simpa using hi)
theorem asg_cnt {e cap : Int} (hc : 0 ≤ cap) {ws : List (Int × Int)} {x : Int} (h1 : 0 ≤ x) (h2 : x < e) : ∀ t, t ≤ ws.length → asgC e cap g0 (ws.take t) x = min (cntT ws x t : Int) cap
  | 0, _ => by simp [asgC, g0, cntT]; omega
  | t + 1, h => by
    have ih := asg_cnt hc (ws := ws) h1 h2 t (by omega)
    rw [(asg_take e cap ws g0 t (by omega)).2, cntT_s (by omega)]
    have a := give_cnt (y := ws[t].1) h1 h2 ih hc
    have b := give_cnt (y := ws[t].2) h1 h2 a hc
    rw [b, Nat.add_assoc]
theorem slot_cnt {e cap : Int} {g : Cnt} {n : Nat} {x : Int} (hc : 0 ≤ cap) (hg : 0 ≤ x → x < e → g x = min (n : Int) cap) : slot1 e cap g x = if x < 0 ∨ e ≤ x ∨ cap ≤ (n : Int) then -1 else (n : Int) := by
  unfold slot1 may1
  by_cases c1 : 0 ≤ x
  · by_cases c2 : x < e
    · have := hg c1 c2
      by_cases c3 : cap ≤ (n : Int)
      · rw [if_neg (by simp; omega), if_pos (by omega)]
      · rw [if_pos (by simp; omega), if_neg (by omega)]; omega
    · rw [if_neg (by simp; omega), if_pos (by omega)]
  · rw [if_neg (by simp; omega), if_pos (by omega)]
theorem slot_is {e cap : Int} (hc : 0 ≤ cap) {ws : List (Int × Int)} {t : Nat} (ht : t < ws.length) : (asg e cap g0 ws)[t]'(by rw [asg_len]; exact ht) = (slotN e cap ws t 0, slotN e cap ws t 1) := by
  have g : ws.getD t (0, 0) = ws[t] := by simp [List.getD_eq_getElem?_getD, ht]
  rw [asg_get ws g0 t ht]
  have a := slot_cnt (e := e) (g := asgC e cap g0 (ws.take t)) (n := aheadN ws t 0 ws[t].1) (x := ws[t].1) hc (fun h1 h2 => by rw [asg_cnt hc h1 h2 t (by omega)]; simp [aheadN])
  have b := slot_cnt (e := e) (g := give1 e cap (asgC e cap g0 (ws.take t)) ws[t].1) (n := aheadN ws t 1 ws[t].2) (x := ws[t].2) hc (fun h1 h2 => by
    rw [give_cnt h1 h2 (asg_cnt hc h1 h2 t (by omega)) hc]
    unfold aheadN
    rw [g, if_pos (by decide)])
  rw [a, b]
  unfold slotN wishN
  rw [g]
  rfl
theorem slot_row {ws : List (Int × Int)} {e cap : Int} {t r : Nat} (ht : t < ws.length) (hr : r ≤ 1) (hl : ws.length ≤ 100000) {c5 o5 ty n5 : Nat} {fz : Bool} (hn : n5 = ws.length) (s : St) (k : Key) (hg : s.hp.get ⟨5, c5, o5⟩ = some (.row ty 2 (ws.map prT) fz)) : callEv cfg (runL cfg) 46 [.ow ⟨5, c5, o5⟩ 2 0 n5, iv e, iv cap, iv t, iv r] s k = some (iv (slotN e cap ws t r), s.hp, s.ck) := by
  subst hn
  refine callEv_t rfl rfl ?_ (rslot_ret ws e cap t r ht hr hl) (.inl rfl)
  simp [puresOf, pureOf, treeOf, hg, prl]
  exact List.take_of_length_le (by simp)
def rp0I (l : Lay) (ts : List (List Int)) (bx : List V) (ty : Nat) (i : Nat) (s : St) : Prop := ∃ c5 o5 ck e5, e5 = ((wants (chosen l ts)).take i).map prT ∧ s = ⟨[(1, .t (gl ts)), (2, .pt ⟨2, 0, 0⟩ 3 0 0), (5, .ow ⟨5, c5, o5⟩ 2 0 i), (14, .t (gl ts)), (15, iv ts.length), (16, iv (i : Int))], [(⟨5, c5, o5⟩, .row 91 2 e5 false), (⟨2, 0, 0⟩, .box ty bx)], ck⟩
def rp0Q (l : Lay) (ts : List (List Int)) (bx : List V) (ty : Nat) (E : Option (Ex × St)) : Prop := ∃ c5 o5 ck v, E = some (.exit 0, ⟨[(1, .t (gl ts)), (2, .pt ⟨2, 0, 0⟩ 3 0 0), (5, .ow ⟨5, c5, o5⟩ 2 0 ts.length), (14, .t (gl ts)), (15, iv ts.length), (16, iv ts.length), (17, v)], [(⟨5, c5, o5⟩, .row 91 2 ((wants (chosen l ts)).map prT) false), (⟨2, 0, 0⟩, .box ty bx)], ck⟩)
theorem rp0_loop (l : Lay) (ts : List (List Int)) (b1 b2 : V) (ty : Nat) (hg : Few l.gate) (hl : ts.length ≤ 100000) (ht : ∀ r ∈ ts, r.length ≤ 1000000) (c5 o5 ck : Nat) : rp0Q l ts [.t (gl l.gate), b1, b2] ty (evL cfg (.loop f19l0) ⟨[(1, .t (gl ts)), (2, .pt ⟨2, 0, 0⟩ 3 0 0), (5, .ow ⟨5, c5, o5⟩ 2 0 0), (14, .t (gl ts)), (15, iv ts.length), (16, iv 0)], [(⟨5, c5, o5⟩, .row 91 2 [] false), (⟨2, 0, 0⟩, .box ty [.t (gl l.gate), b1, b2])], ck⟩) := by
  refine loop_q ts.length (rp0I l ts [.t (gl l.gate), b1, b2] ty) ?_ ?_ _ ⟨c5, o5, ck, [], rfl, rfl⟩
  · rintro i s hi ⟨c5, o5, ck, e5, h5, rfl⟩
    have hw : IntKind.i64.wrap ((i : Int) + 1) = (i : Int) + 1 := wrap_id (by omega) (by omega)
    have hwl : (wants (chosen l ts)).length = ts.length := by simp [wants, chosen]
    have l5 : e5.length = i := by rw [h5]; simp [hwl]; omega
    have b6 : (i + 1) * 16 ≤ 140737488355328 := by omega
    have t6 : (wants (chosen l ts)).take (i + 1) = (wants (chosen l ts)).take i ++ [((choP l.gate ts[i]).first, (choP l.gate ts[i]).second)] := by
      rw [List.take_succ_eq_append_getElem (by omega)]; simp [wants, chosen]
    have hc := fun s k => callEv_tr (C := cfg) (rchoose_ret l.gate ts[i] hg (ht _ (List.getElem_mem hi))) rfl rfl rfl s k
    simp only [gl, il, choC, iv, bv] at hc
    generalize choP l.gate ts[i] = c at *
    simp [f19l0e, gl, il, hi, hw, hc, rowsOf, keysOfs, treesC, treesOf, treeOf, keysOf1, freezeAll, app, elsOf, over, buildV, b6, l5]
    exact ⟨_, _, _, _, by rw [t6, h5]; simp [prT], rfl⟩
  · rintro s ⟨c5, o5, ck, e5, h5, rfl⟩
    rw [List.take_of_length_le (by simp [chosen, wants])] at h5
    subst h5
    simp [f19l0e, gl]
    exact ⟨_, _, _, _, rfl⟩
end Go.Proofs.YtbocnaoihepjfaaGreat.Pv
end

section
/- What the document's Parts tells. -/
namespace Go.Proofs.YtbocnaoihepjfaaGreat.Pv
open Go Go.Pev

def rp1S (l : Lay) (ts : List (List Int)) (c5 o5 c o : Nat) (out : List Pt) (i ck : Nat) : St := ⟨[(1, .t (gl ts)), (2, .pt ⟨2, 0, 0⟩ 3 0 0), (5, .ow ⟨5, c5, o5⟩ 2 0 ts.length), (10, .ow ⟨10, c, o⟩ 4 0 out.length), (11, iv (i : Int))], [(⟨10, c, o⟩, .row 82 4 (out.map ptT) false), (⟨5, c5, o5⟩, .row 91 2 ((wants (chosen l ts)).map prT) false), (⟨2, 0, 0⟩, .box 53 [.t (gl l.gate), .t (.l (l.exps.map exT)), iv l.cap])], ck⟩
def ssP (l : Lay) (ts : List (List Int)) : List (Int × Int) := asg l.exps.length l.cap g0 (wants (chosen l ts))
def rp1I (l : Lay) (ts : List (List Int)) (c5 o5 : Nat) (i : Nat) (s : St) : Prop := ∃ c o ck, s = rp1S l ts c5 o5 c o (partsT (chosen l ts) (ssP l ts) i) i ck
def rp1Q (l : Lay) (ts : List (List Int)) (c5 o5 : Nat) (E : Option (Ex × St)) : Prop := ∃ c o ck, E = some (.exit 2, ⟨[(1, .t (gl ts)), (2, .pt ⟨2, 0, 0⟩ 3 0 0), (5, .ow ⟨5, c5, o5⟩ 2 0 ts.length), (10, .ow ⟨10, c, o⟩ 4 0 (partsP l ts).length), (11, iv ts.length), (39, bv false)], [(⟨10, c, o⟩, .row 82 4 ((partsP l ts).map ptT) false), (⟨5, c5, o5⟩, .row 91 2 ((wants (chosen l ts)).map prT) false), (⟨2, 0, 0⟩, .box 53 [.t (gl l.gate), .t (.l (l.exps.map exT)), iv l.cap])], ck⟩)
def rpB (l : Lay) (ts : List (List Int)) (c5 o5 c o : Nat) (out : List Pt) (x : Cho) (c12 o12 : Nat) : HP := [(⟨12, c12, o12⟩, .box 88 (choC x)), (⟨10, c, o⟩, .row 82 4 (out.map ptT) false), (⟨5, c5, o5⟩, .row 91 2 ((wants (chosen l ts)).map prT) false), (⟨2, 0, 0⟩, .box 53 [.t (gl l.gate), .t (.l (l.exps.map exT)), iv l.cap])]
abbrev rpP1 : Pc := .seq f19r12 (.seq f19r13 (.cond (.tmp 60) f19r14 .skip))
abbrev rpP2 : Pc := .seq f19r15 (.cond (.tmp 78) f19r16 .skip)
set_option maxHeartbeats 1000000 in
theorem rp_one (l : Lay) (ts : List (List Int)) (c5 o5 c o i ck : Nat) (hi : i < ts.length) (hg : Few l.gate) (hl : ts.length ≤ 10000) (ht : ∀ r ∈ ts, r.length ≤ 1000000) (out : List Pt) (ho : out.length ≤ 100000) (v39 : V) : ∃ c' o' c12 o12 ck' tl, evL cfg rpP1 ⟨[(1, .t (gl ts)), (2, .pt ⟨2, 0, 0⟩ 3 0 0), (5, .ow ⟨5, c5, o5⟩ 2 0 ts.length), (10, .ow ⟨10, c, o⟩ 4 0 out.length), (11, iv (i : Int)), (39, v39)], [(⟨10, c, o⟩, .row 82 4 (out.map ptT) false), (⟨5, c5, o5⟩, .row 91 2 ((wants (chosen l ts)).map prT) false), (⟨2, 0, 0⟩, .box 53 [.t (gl l.gate), .t (.l (l.exps.map exT)), iv l.cap])], ck⟩ = some (.normal, ⟨(1, .t (gl ts)) :: (2, .pt ⟨2, 0, 0⟩ 3 0 0) :: (5, .ow ⟨5, c5, o5⟩ 2 0 ts.length) :: (10, .ow ⟨10, c', o'⟩ 4 0 (out ++ pt0 i (choP l.gate ts[i]) (slotN l.exps.length l.cap (wants (chosen l ts)) i 0)).length) :: (11, iv (i : Int)) :: (12, .pt ⟨12, c12, o12⟩ 4 0 0) :: tl, rpB l ts c5 o5 c' o' (out ++ pt0 i (choP l.gate ts[i]) (slotN l.exps.length l.cap (wants (chosen l ts)) i 0)) (choP l.gate ts[i]) c12 o12, ck'⟩) := by
  have hwl : (wants (chosen l ts)).length = ts.length := by simp [wants, chosen]
  have hq := fun hp => callQ_tr (C := cfg) (rchoose_ret l.gate ts[i] hg (ht _ (List.getElem_mem hi))) rfl hp
  have hs0 := fun s k h => slot_row (ws := wants (chosen l ts)) (e := l.exps.length) (cap := l.cap) (t := i) (r := 0) (by omega) (by omega) (by omega) (c5 := c5) (o5 := o5) (ty := 91) (n5 := ts.length) (fz := false) hwl.symm s k h
  unfold rpB
  generalize slotN l.exps.length l.cap (wants (chosen l ts)) i 0 = S0 at *
  generalize (wants (chosen l ts)).map prT = W at *
  simp only [gl, il, choC, iv, bv] at hq
  simp only [iv, Int.natCast_zero] at hs0
  generalize choP l.gate ts[i] = x at *
  have e1 : (out.length + 1) * 32 ≤ 140737488355328 := by omega
  unfold pt0
  by_cases p0 : 0 ≤ S0
  · rw [if_pos p0]
    simp [gl, il, hi, hq, hs0, p0, rowsOf, keysOfs, treesC, treesOf, treeOf, keysOf1, freezeAll, app, elsOf, over, buildV, e1, ptT, choC]
    exact ⟨_, _, _, _, ⟨⟨rfl, rfl⟩, rfl, rfl⟩, ⟨rfl, rfl⟩, rfl, rfl⟩
  · rw [if_neg p0]
    simp [gl, il, hi, hq, hs0, p0, over, choC]
    exact ⟨_, _, _, _, ⟨⟨rfl, rfl⟩, rfl, rfl⟩, ⟨rfl, rfl⟩, rfl, rfl⟩
set_option maxHeartbeats 1000000 in
theorem rp_two (l : Lay) (ts : List (List Int)) (c5 o5 c o i ck c12 o12 : Nat) (hi : i < ts.length) (hl : ts.length ≤ 10000) (out : List Pt) (ho : out.length ≤ 100000) (x : Cho) (tl : Env) : ∃ c' o' ck' e, evL cfg rpP2 ⟨(1, .t (gl ts)) :: (2, .pt ⟨2, 0, 0⟩ 3 0 0) :: (5, .ow ⟨5, c5, o5⟩ 2 0 ts.length) :: (10, .ow ⟨10, c, o⟩ 4 0 out.length) :: (11, iv (i : Int)) :: (12, .pt ⟨12, c12, o12⟩ 4 0 0) :: tl, rpB l ts c5 o5 c o out x c12 o12, ck⟩ = some (.normal, e) ∧ evL cfg f19r11 e = some (.normal, rp1S l ts c5 o5 c' o' (out ++ pt1 i x (slotN l.exps.length l.cap (wants (chosen l ts)) i 1)) (i + 1) ck') := by
  have hw : IntKind.i64.wrap ((i : Int) + 1) = (i : Int) + 1 := wrap_id (by omega) (by omega)
  have hwl : (wants (chosen l ts)).length = ts.length := by simp [wants, chosen]
  have hs1 := fun s k h => slot_row (ws := wants (chosen l ts)) (e := l.exps.length) (cap := l.cap) (t := i) (r := 1) (by omega) (by omega) (by omega) (c5 := c5) (o5 := o5) (ty := 91) (n5 := ts.length) (fz := false) hwl.symm s k h
  unfold rpB rp1S
  generalize slotN l.exps.length l.cap (wants (chosen l ts)) i 1 = S1 at *
  generalize (wants (chosen l ts)).map prT = W at *
  simp only [iv, Int.natCast_one] at hs1
  have e1 : (out.length + 1) * 32 ≤ 140737488355328 := by omega
  unfold pt1
  by_cases p1 : 0 ≤ S1
  · rw [if_pos p1]
    simp [gl, il, hi, hs1, p1, hw, rowsOf, keysOfs, treesC, treesOf, treeOf, keysOf1, freezeAll, app, elsOf, over, buildV, e1, ptT, choC]
  · rw [if_neg p1]
    simp [gl, il, hi, hs1, p1, hw, over, choC]
theorem evL_pre2 {C : Cfg} {a b x : Pc} {s s' : St} (h : evL C (.seq a b) s = some (.normal, s')) : evL C (.seq a (.seq b x)) s = evL C x s' := by
  rw [evL_seq] at h
  rw [evL_seq]
  cases ha : evL C a s with
  | none => rw [ha] at h; cases h
  | some r =>
    obtain ⟨o, s1⟩ := r
    rw [ha] at h
    cases o with
    | normal =>
      have h' : evL C b s1 = some (.normal, s') := h
      show evL C (.seq b x) s1 = _
      rw [evL_seq, h']
      rfl
    | _ => cases h
theorem rp1_step (l : Lay) (ts : List (List Int)) (c5 o5 c o i ck : Nat) (hi : i < ts.length) (hg : Few l.gate) (hl : ts.length ≤ 10000) (ht : ∀ r ∈ ts, r.length ≤ 1000000) (out : List Pt) (ho : out.length ≤ 90000) : ∃ c' o' ck', evL cfg f19l1 (rp1S l ts c5 o5 c o out i ck) = some (.normal, rp1S l ts c5 o5 c' o' (out ++ (pt0 i (choP l.gate ts[i]) (slotN l.exps.length l.cap (wants (chosen l ts)) i 0) ++ pt1 i (choP l.gate ts[i]) (slotN l.exps.length l.cap (wants (chosen l ts)) i 1))) (i + 1) ck') := by
  have hl1 : f19l1 = .seq (.seq f19r10 (.cond (.tmp 39) .skip (.exit 2))) (.seq (.block 3 (.seq f19r12 (.seq (.seq f19r13 (.cond (.tmp 60) f19r14 .skip)) rpP2))) f19r11) := rfl
  have h0 : evL cfg (.seq f19r10 (.cond (.tmp 39) .skip (.exit 2))) (rp1S l ts c5 o5 c o out i ck) = some (.normal, ⟨[(1, .t (gl ts)), (2, .pt ⟨2, 0, 0⟩ 3 0 0), (5, .ow ⟨5, c5, o5⟩ 2 0 ts.length), (10, .ow ⟨10, c, o⟩ 4 0 out.length), (11, iv (i : Int)), (39, bv true)], [(⟨10, c, o⟩, .row 82 4 (out.map ptT) false), (⟨5, c5, o5⟩, .row 91 2 ((wants (chosen l ts)).map prT) false), (⟨2, 0, 0⟩, .box 53 [.t (gl l.gate), .t (.l (l.exps.map exT)), iv l.cap])], ck + 1⟩) := by
    simp [rp1S, gl, hi]
  obtain ⟨c1, o1, c12, o12, k1, tl, h1⟩ := rp_one l ts c5 o5 c o i (ck + 1) hi hg hl ht out (by omega) (bv true)
  have hp := pt0_len i (choP l.gate ts[i]) (slotN l.exps.length l.cap (wants (chosen l ts)) i 0)
  obtain ⟨c2, o2, k2, e, h2, h3⟩ := rp_two l ts c5 o5 c1 o1 i k1 c12 o12 hi hl (out ++ pt0 i (choP l.gate ts[i]) (slotN l.exps.length l.cap (wants (chosen l ts)) i 0)) (by rw [List.length_append]; omega) (choP l.gate ts[i]) tl
  refine ⟨c2, o2, k2, ?_⟩
  rw [hl1, evL_seq, h0]
  show evL cfg (.seq _ _) _ = _
  rw [evL_seq, evL_block, (evL_pre2 h1).trans h2]
  show evL cfg f19r11 e = _
  rw [h3, List.append_assoc]
theorem rp1_loop (l : Lay) (ts : List (List Int)) (c5 o5 c o ck : Nat) (hg : Few l.gate) (hl : ts.length ≤ 10000) (ht : ∀ r ∈ ts, r.length ≤ 1000000) (hc : 0 ≤ l.cap) : rp1Q l ts c5 o5 (evL cfg (.loop f19l1) (rp1S l ts c5 o5 c o [] 0 ck)) := by
  have hcl : (chosen l ts).length = ts.length := by simp [chosen]
  have hwl : (wants (chosen l ts)).length = ts.length := by simp [wants, chosen]
  have hsl : (chosen l ts).length = (ssP l ts).length := by simp [ssP, asg_len, wants]
  refine loop_q ts.length (rp1I l ts c5 o5) ?_ ?_ _ ⟨c, o, ck, by simp [partsT, partsA]⟩
  · rintro i s hi ⟨c, o, ck, rfl⟩
    have hlen := partsT_len hsl i (by omega)
    obtain ⟨c', o', ck', h⟩ := rp1_step l ts c5 o5 c o i ck hi hg hl ht (partsT (chosen l ts) (ssP l ts) i) (by omega)
    rw [h]
    have hs := partsT_s hsl (i := i) (by omega)
    have e1 : (chosen l ts)[i]'(by omega) = choP l.gate ts[i] := by simp [chosen]
    have e2 : (ssP l ts)[i]'(by omega) = (slotN l.exps.length l.cap (wants (chosen l ts)) i 0, slotN l.exps.length l.cap (wants (chosen l ts)) i 1) := slot_is hc (by omega)
    rw [e1, e2] at hs
    simp only at hs
    rw [← hs]
    exact ⟨c', o', ck', rfl⟩
  · rintro s ⟨c, o, ck, rfl⟩
    have e : partsT (chosen l ts) (ssP l ts) ts.length = partsP l ts := by
      unfold partsT partsP
      rw [List.take_of_length_le (by omega), List.take_of_length_le (by omega)]
      rfl
    rw [e]
    simp [f19l1e, rp1S, gl]
    exact ⟨c, o, ck + 1, by simp [gl]⟩
theorem rparts_ret (l : Lay) (ts : List (List Int)) (hg : Few l.gate) (hl : ts.length ≤ 10000) (ht : ∀ r ∈ ts, r.length ≤ 1000000) (hc : 0 ≤ l.cap) : RetT cfg 19 [layV l, .t (gl ts)] (.t (ptl (partsP l ts))) := by
  obtain ⟨c5, o5, ck, v, h0⟩ := rp0_loop l ts (.t (.l (l.exps.map exT))) (iv l.cap) 53 hg (by omega) ht 1 0 3
  obtain ⟨c, o, ck2, h1⟩ := rp1_loop l ts c5 o5 ck 0 (ck + 1 + 1) hg hl ht hc
  rw [retT_r, runL_pf (fn := f19) rfl rfl]
  unfold rp1S at h1
  generalize (wants (chosen l ts)).map prT = W at *
  generalize partsP l ts = P at *
  simp [gl] at h0 h1
  simp [layV, gl, h0, h1, resOf, resOf1, treeOf, ptl, List.take_of_length_le]
end Go.Proofs.YtbocnaoihepjfaaGreat.Pv
end

section
/- What the document's Scale tells. -/
namespace Go.Proofs.YtbocnaoihepjfaaGreat.Pv
open Go Go.Pev

def scI (a : List Int) (k : Int) (i : Nat) (s : St) : Prop := ∃ c o ck els, els = cl ((scaleR a k).take i) ∧ s = ⟨[(0, .t (il a)), (1, iv k), (5, .ow ⟨5, c, o⟩ 1 0 i), (6, iv (i : Int))], [(⟨5, c, o⟩, .row 3 1 els false)], ck⟩
def scQ (a : List Int) (k : Int) (E : Option (Ex × St)) : Prop := ∃ c o ck x y z w, E = some (.exit 0, ⟨[(0, x), (1, y), (5, .ow ⟨5, c, o⟩ 1 0 a.length), (6, z), (10, w)], [(⟨5, c, o⟩, .row 3 1 (cl (scaleR a k)) false)], ck⟩)
theorem rscale_ret (a : List Int) (k : Int) (hl : a.length ≤ 1000000) : RetT cfg 48 [.t (il a), iv k] (.t (il (scaleR a k))) := by
  have hL : ∀ c o ck, scQ a k (evL cfg (.loop f48l0) ⟨[(0, .t (il a)), (1, iv k), (5, .ow ⟨5, c, o⟩ 1 0 0), (6, iv 0)], [(⟨5, c, o⟩, .row 3 1 [] false)], ck⟩) := by
    intro c o ck
    refine loop_q a.length (scI a k) ?_ ?_ _ ⟨c, o, ck, [], rfl, rfl⟩
    · rintro i s hi ⟨c, o, ck, els, h1, rfl⟩
      have hw : IntKind.i64.wrap ((i : Int) + 1) = (i : Int) + 1 := wrap_id (by omega) (by omega)
      have hlen : els.length = i := by rw [h1]; simp [cl, scaleR]; omega
      have hb : (i + 1) * 8 ≤ 140737488355328 := by omega
      have ht : cl ((scaleR a k).take (i + 1)) = cl ((scaleR a k).take i) ++ [[.i .i64 (fmul a[i] k)]] := by
        rw [List.take_succ_eq_append_getElem (by simpa [scaleR] using hi)]
        simp [cl, scaleR]
      simp [f48l0e, il, hi, hw, rmul_call, rowsOf, keysOfs, treesC, treesOf, treeOf, freezeAll, app, elsOf, over, hb, hlen]
      exact ⟨_, _, _, _, by rw [ht, h1], rfl⟩
    · rintro s ⟨c, o, ck, els, h1, rfl⟩
      rw [List.take_of_length_le (by simp [scaleR])] at h1
      subst h1
      simp [f48l0e, il]
      exact ⟨_, _, _, _, _, _, _, rfl⟩
  obtain ⟨c, o, ck, x, y, z, w, hc⟩ := hL 1 0 3
  rw [retT_r, runL_pf (fn := f48) rfl rfl]
  simp [il] at hc
  simp [il, hc, resOf, resOfs, resOf1, treeOf, cl, List.take_of_length_le, scaleR]
def adI (a b : List Int) (i : Nat) (s : St) : Prop := ∃ c o ck els, els = cl ((addR a b).take i) ∧ s = ⟨[(0, .t (il a)), (1, .t (il b)), (5, .ow ⟨5, c, o⟩ 1 0 i), (6, iv (i : Int))], [(⟨5, c, o⟩, .row 3 1 els false)], ck⟩
def adQ (a b : List Int) (E : Option (Ex × St)) : Prop := ∃ c o ck x y z w, E = some (.exit 0, ⟨[(0, x), (1, y), (5, .ow ⟨5, c, o⟩ 1 0 a.length), (6, z), (10, w)], [(⟨5, c, o⟩, .row 3 1 (cl (addR a b)) false)], ck⟩)
theorem radd_ret (a b : List Int) (hab : a.length = b.length) (hl : a.length ≤ 1000000) : RetT cfg 47 [.t (il a), .t (il b)] (.t (il (addR a b))) := by
  have hL : ∀ c o ck, adQ a b (evL cfg (.loop f47l0) ⟨[(0, .t (il a)), (1, .t (il b)), (5, .ow ⟨5, c, o⟩ 1 0 0), (6, iv 0)], [(⟨5, c, o⟩, .row 3 1 [] false)], ck⟩) := by
    intro c o ck
    refine loop_q a.length (adI a b) ?_ ?_ _ ⟨c, o, ck, [], rfl, rfl⟩
    · rintro i s hi ⟨c, o, ck, els, h1, rfl⟩
      have hw : IntKind.i64.wrap ((i : Int) + 1) = (i : Int) + 1 := wrap_id (by omega) (by omega)
      have hib : i < b.length := by omega
      have h1a := hold_in a[i]
      have h1b := hold_in b[i]
      have w2 : IntKind.i64.wrap (hold a[i] + hold b[i]) = hold a[i] + hold b[i] := wrap_id (by omega) (by omega)
      have hlen : els.length = i := by rw [h1]; simp [cl, addR]; omega
      have hb : (i + 1) * 8 ≤ 140737488355328 := by omega
      have ht : cl ((addR a b).take (i + 1)) = cl ((addR a b).take i) ++ [[.i .i64 (hold (hold a[i] + hold b[i]))]] := by
        rw [List.take_succ_eq_append_getElem (by simp [addR]; omega)]
        simp [cl, addR, fadd]
      simp [f47l0e, il, hi, hib, hw, w2, rhold_callq, rowsOf, keysOfs, treesC, treesOf, treeOf, freezeAll, app, elsOf, over, hb, hlen]
      exact ⟨_, _, _, _, by rw [ht, h1], rfl⟩
    · rintro s ⟨c, o, ck, els, h1, rfl⟩
      rw [List.take_of_length_le (by simp [addR]; omega)] at h1
      subst h1
      simp [f47l0e, il]
      exact ⟨_, _, _, _, _, _, _, rfl⟩
  obtain ⟨c, o, ck, x, y, z, w, hc⟩ := hL 1 0 3
  have hal : (addR a b).length = a.length := by simp [addR]; omega
  rw [retT_r, runL_pf (fn := f47) rfl rfl]
  generalize addR a b = R at *
  simp [il] at hc
  simp [il, hc, resOf, resOfs, resOf1, treeOf, cl, List.take_of_length_le, hal]
def rlF (x : Int) : Int := if hold x < 0 then 0 else hold x
def rlI (a : List Int) (i : Nat) (s : St) : Prop := ∃ c o ck els, els = cl ((reluR a).take i) ∧ s = ⟨[(0, .t (il a)), (3, .ow ⟨3, c, o⟩ 1 0 i), (4, iv (i : Int))], [(⟨3, c, o⟩, .row 3 1 els false)], ck⟩
def rlQ (a : List Int) (E : Option (Ex × St)) : Prop := ∃ c o ck x z w, E = some (.exit 0, ⟨[(0, x), (3, .ow ⟨3, c, o⟩ 1 0 a.length), (4, z), (9, w)], [(⟨3, c, o⟩, .row 3 1 (cl (reluR a)) false)], ck⟩)
theorem rrelu_ret (a : List Int) (hl : a.length ≤ 1000000) : RetT cfg 85 [.t (il a)] (.t (il (reluR a))) := by
  have hL : ∀ c o ck, rlQ a (evL cfg (.loop f85l0) ⟨[(0, .t (il a)), (3, .ow ⟨3, c, o⟩ 1 0 0), (4, iv 0)], [(⟨3, c, o⟩, .row 3 1 [] false)], ck⟩) := by
    intro c o ck
    refine loop_q a.length (rlI a) ?_ ?_ _ ⟨c, o, ck, [], rfl, rfl⟩
    · rintro i s hi ⟨c, o, ck, els, h1, rfl⟩
      have hw : IntKind.i64.wrap ((i : Int) + 1) = (i : Int) + 1 := wrap_id (by omega) (by omega)
      have hlen : els.length = i := by rw [h1]; simp [cl, reluR]; omega
      have hb : (i + 1) * 8 ≤ 140737488355328 := by omega
      have ht : cl ((reluR a).take (i + 1)) = cl ((reluR a).take i) ++ [[.i .i64 (rlF a[i])]] := by
        rw [List.take_succ_eq_append_getElem (by simpa [reluR] using hi)]
        simp [cl, reluR, rlF]
      unfold rlF at ht
      by_cases c : hold a[i] < 0
      · rw [if_pos c] at ht
        simp [f85l0e, il, hi, hw, rhold_call, c, rowsOf, keysOfs, treesC, treesOf, treeOf, freezeAll, app, elsOf, over, hb, hlen]
        exact ⟨_, _, _, _, by rw [ht, h1], rfl⟩
      · rw [if_neg c] at ht
        simp [f85l0e, il, hi, hw, rhold_call, c, rowsOf, keysOfs, treesC, treesOf, treeOf, freezeAll, app, elsOf, over, hb, hlen]
        exact ⟨_, _, _, _, by rw [ht, h1], rfl⟩
    · rintro s ⟨c, o, ck, els, h1, rfl⟩
      rw [List.take_of_length_le (by simp [reluR])] at h1
      subst h1
      simp [f85l0e, il]
      exact ⟨_, _, _, _, _, _, rfl⟩
  obtain ⟨c, o, ck, x, z, w, hc⟩ := hL 1 0 3
  have hal : (reluR a).length = a.length := by simp [reluR]
  rw [retT_r, runL_pf (fn := f85) rfl rfl]
  generalize reluR a = R at *
  simp [il] at hc
  simp [il, hc, resOf, resOfs, resOf1, treeOf, cl, List.take_of_length_le, hal]
end Go.Proofs.YtbocnaoihepjfaaGreat.Pv
end

section
/- What the document's Run tells. -/
namespace Go.Proofs.YtbocnaoihepjfaaGreat.Pv
open Go Go.Pev

def apP1 (m : List (List Int)) (v : List Int) : List Int := if matOk m v.length then scoresP m v else []
def runD (x : Exp) (v : List Int) : List Int := apP1 x.out (reluR (apP1 x.inn v))
theorem rrun_ret (x : Exp) (v : List Int) (hx : FewX x) (hv : v.length ≤ 1000000) : RetT cfg 49 [exV x, .t (il v)] (.t (il (runD x v))) := by
  have h1 := fun s k => callEv_tr (C := cfg) (rapply_ret x.inn v hx.1.1 hv) rfl rfl rfl s k
  have e1 : (if matOk x.inn v.length = true then scoresP x.inn v else []) = apP1 x.inn v := rfl
  rw [e1] at h1
  have l1 : (apP1 x.inn v).length ≤ 1000000 := by
    unfold apP1
    split
    · simpa [scoresP] using hx.1.1
    · simp
  have h2 := fun hp => callQ_tr (C := cfg) (rrelu_ret (apP1 x.inn v) l1) rfl hp
  have l2 : (reluR (apP1 x.inn v)).length ≤ 1000000 := by simpa [reluR] using l1
  have h3 := fun hp => callQ_tr (C := cfg) (rapply_ret x.out (reluR (apP1 x.inn v)) hx.2.1 l2) rfl hp
  have e3 : (if matOk x.out (reluR (apP1 x.inn v)).length = true then scoresP x.out (reluR (apP1 x.inn v)) else []) = runD x v := rfl
  rw [e3] at h3
  generalize runD x v = R at *
  generalize reluR (apP1 x.inn v) = R2 at *
  generalize apP1 x.inn v = R1 at *
  refine RetT.of ?_
  rw [runL_pf (fn := f49) rfl rfl]
  simp only [gl, il, bv] at h1 h2 h3
  simp [exV, gl, il, h1, h2, h3]
end Go.Proofs.YtbocnaoihepjfaaGreat.Pv
end

section
/- What a fleet that lost all its messages asks again: plain laws. -/
namespace Go.Proofs.YtbocnaoihepjfaaGreat.Pv
open Go Go.Pev

/-- The first expert of a choice is one of the layer's. -/
theorem first_in {rows : List (List Int)} (v : List Int) {n : Nat} (hn : rows.length = n) (h1 : 1 ≤ n) : 0 ≤ (choP rows v).first ∧ (choP rows v).first < n := by
  unfold choP
  split
  · exact ⟨by simp, by simp only; omega⟩
  · rename_i hc
    have hne : scoresP rows v ≠ [] := by
      intro e
      have : (scoresP rows v).length = rows.length := by simp [scoresP]
      rw [e] at this
      simp at this
      omega
    have hlen : (scoresP rows v).length = rows.length := by simp [scoresP]
    obtain ⟨⟨t1, t2⟩, -⟩ := two_in hne
    rw [hlen, hn] at t2
    split
    · exact ⟨t1, t2⟩
    · exact ⟨t1, t2⟩
theorem parts_ne {m : Mod} {l : Lay} {ts : List (List Int)} (hl : layRight l m.dim = true) (ht : 1 ≤ ts.length) : partsP l ts ≠ [] := by
  simp only [layRight, Bool.and_eq_true, decide_eq_true_eq, mrightP] at hl
  match ts, ht with
  | v :: r, _ =>
    have hg : l.gate.length = l.exps.length := by omega
    obtain ⟨f1, f2⟩ := first_in (rows := l.gate) v hg (by omega)
    have hs : slot1 l.exps.length l.cap g0 (choP l.gate v).first = 0 := by
      unfold slot1 may1 g0
      rw [if_pos (by simp; omega)]
    simp only [partsP, chosen, wants, List.map_cons, asg, partsA, pt0, hs]
    simp
theorem begin_ne {m : Mod} {pe : Int} {ph ts : List (List Int)} (h : newOk m pe ph ts = true) : partsP (layAt m 0) ts ≠ [] ∧ 0 < m.lays.length := by
  simp only [newOk, modRight, tokRight, Bool.and_eq_true, decide_eq_true_eq, List.all_eq_true] at h
  obtain ⟨⟨⟨⟨⟨⟨⟨_, _⟩, h3⟩, _⟩, h5⟩, ⟨⟨h6, _⟩, _⟩⟩, _⟩, _⟩ := h
  have hz : 0 < m.lays.length := by omega
  have e : layAt m 0 = m.lays[0] := by simp [layAt, List.getD_eq_getElem?_getD, hz]
  rw [e]
  exact ⟨parts_ne (h5 _ (List.getElem_mem hz)) h6, hz⟩
/-- What a fresh fleet is. -/
theorem start_is {m : Mod} {pe : Int} {ph ts : List (List Int)} (h : newOk m pe ph ts = true) : startF m pe ph ts = askP (newP (newF m pe ph ts)) := by
  obtain ⟨h1, h2⟩ := begin_ne h
  have hb : beginP (newF m pe ph ts) = askP (newP (newF m pe ph ts)) := by
    unfold beginP
    rw [if_pos (show (newF m pe ph ts).at_ < (newF m pe ph ts).m.lays.length from h2)]
  unfold startF
  rw [hb]
  have hf : false ∈ (askP (newP (newF m pe ph ts))).answd := by
    obtain ⟨-, -, -, -, -, -, -, -, e⟩ := askP_m (newP (newF m pe ph ts))
    rw [e]
    refine List.mem_replicate.2 ⟨?_, rfl⟩
    intro e
    exact h1 (List.length_eq_zero_iff.1 e)
  have key : ∀ n, comeN n (askP (newP (newF m pe ph ts))) = askP (newP (newF m pe ph ts)) := by
    intro n
    cases n with
    | zero => rfl
    | succ n => unfold comeN; rw [if_neg (fun hc => hc.2 hf)]
  exact key _
end Go.Proofs.YtbocnaoihepjfaaGreat.Pv
end

section
/- What a fresh fleet asks: plain laws. -/
namespace Go.Proofs.YtbocnaoihepjfaaGreat.Pv
open Go Go.Pev

theorem partsA_exp (e cap : Int) : ∀ (cs : List Cho) (t : Nat) (g : Cnt), ∀ p ∈ partsA t cs (asg e cap g (wants cs)), 0 ≤ p.expert ∧ p.expert < e
  | [], t, g, p, h => by simp [partsA] at h
  | c :: cs, t, g, p, h => by
    have e0 : wants (c :: cs) = (c.first, c.second) :: wants cs := rfl
    rw [e0] at h
    simp only [asg, partsA, List.mem_append] at h
    have key : ∀ (g : Cnt) (x : Int), 0 ≤ slot1 e cap g x → 0 ≤ x ∧ x < e := by
      intro g x hs
      unfold slot1 may1 at hs
      split at hs
      · rename_i hm
        simp only [Bool.and_eq_true, decide_eq_true_eq] at hm
        omega
      · omega
    rcases h with (h | h) | h
    · unfold pt0 at h
      split at h
      · rename_i hs
        simp only [List.mem_singleton] at h
        subst h
        exact key _ _ hs
      · simp at h
    · unfold pt1 at h
      split at h
      · rename_i hs
        simp only [List.mem_singleton] at h
        subst h
        exact key _ _ hs
      · simp at h
    · exact partsA_exp e cap cs (t + 1) _ p h
theorem partsP_exp {l : Lay} {ts : List (List Int)} : ∀ p ∈ partsP l ts, 0 ≤ p.expert ∧ p.expert < l.exps.length := partsA_exp _ _ _ 0 g0
/-- The node a part is asked of, as the document has it. -/
def nodeOf (ph : List (List Int)) (p : Pt) : Int := (ph.getD p.expert.toNat []).getD ((p.token + p.rank).toNat % (ph.getD p.expert.toNat []).length) 0
structure Beg (m : Mod) (pe : Int) (ph ts : List (List Int)) (p : Pt) : Prop where
  tok : 0 ≤ p.token ∧ p.token < ts.length
  rank : 0 ≤ p.rank ∧ p.rank ≤ 1
  exp : 0 ≤ p.expert ∧ p.expert < ph.length
  row : 1 ≤ (ph.getD p.expert.toNat []).length
  node : 1 ≤ nodeOf ph p ∧ nodeOf ph p ≤ 4
theorem held_in {n : Int} (h : hold n = n) : -2147483647 ≤ n ∧ n ≤ 2147483647 := by rw [← h]; exact hold_in n
/-- The frames of a fresh fleet. -/
theorem askL_all {F : Flt} : ∀ (l : List Pt) (b : List (List UInt8)), (∀ p ∈ l, wrightM (askM F p) = true) → b.length + l.length ≤ 200 → askL F (l.zip (List.replicate l.length false)) b = b ++ l.map fun p => putB (askM F p)
  | [], b, _, _ => by simp [askL]
  | p :: l, b, h, hb => by
    simp only [List.length_cons, List.replicate_succ, List.zip_cons_cons, askL]
    simp only [List.length_cons] at hb
    have e : sendB b (askM F p) = b ++ [putB (askM F p)] := by
      unfold sendB bagPut
      rw [if_pos (h p List.mem_cons_self), if_pos (by omega)]
    simp only [Bool.false_eq_true, if_false]
    rw [e, askL_all l _ (fun q hq => h q (List.mem_cons_of_mem _ hq)) (by simp; omega)]
    simp
end Go.Proofs.YtbocnaoihepjfaaGreat.Pv
end

section
/- What a model makes of tokens: plain laws. -/
namespace Go.Proofs.YtbocnaoihepjfaaGreat.Pv
open Go Go.Pev

/-- Each row is as long as the model's numbers are. -/
def Wide (d : Int) (ts : List (List Int)) : Prop := ∀ r ∈ ts, (r.length : Int) = d ∧ heldRow r = true
theorem layR_exp {l : Lay} {d : Int} (h : layRight l d = true) {x : Int} (h0 : 0 ≤ x) (h1 : x < l.exps.length) : exRight (expAt l x) d = true := by
  simp only [layRight, Bool.and_eq_true, List.all_eq_true] at h
  have hx : x.toNat < l.exps.length := by omega
  have e : expAt l x = l.exps[x.toNat] := by simp [expAt, List.getD_eq_getElem?_getD, hx]
  rw [e]
  exact h.2 _ (List.getElem_mem hx)
theorem exR_run {x : Exp} {d : Int} (h : exRight x d = true) {v : List Int} (hv : (v.length : Int) = d) : runD x v = runP x v ∧ ((runP x v).length : Int) = d := by
  simp only [exRight, mrightP, Bool.and_eq_true, decide_eq_true_eq, List.all_eq_true] at h
  obtain ⟨⟨⟨⟨⟨h1, h2⟩, h3⟩, h4⟩, ⟨h5, h6⟩⟩, ⟨h7, h8⟩⟩ := h
  have m1 : matOk x.inn v.length = true := by
    simp only [matOk, List.all_eq_true, decide_eq_true_eq]
    intro r hr
    have := (h6 r hr).1
    omega
  have e1 : apP1 x.inn v = scoresP x.inn v := by unfold apP1; rw [if_pos m1]
  have m2 : matOk x.out (reluR (scoresP x.inn v)).length = true := by
    simp only [matOk, List.all_eq_true, decide_eq_true_eq]
    intro r hr
    have := (h8 r hr).1
    simp only [reluR, scoresP, List.length_map]
    omega
  refine ⟨?_, ?_⟩
  · unfold runD runP
    rw [e1]
    unfold apP1
    rw [if_pos m2]
  · simp only [runP, scoresP, List.length_map]
    exact h7
/-- What a token becomes, part by part. -/
def fwdT (l : Lay) (ts : List (List Int)) (t : Nat) : List Pt → List Int → List Int
  | [], v => v
  | p :: r, v => fwdT l ts t r (if p.token = t then addR v (scaleR (runD (expAt l p.expert) (ts.getD t [])) p.weight) else v)
def fwd1 (l : Lay) (ts : List (List Int)) : List (List Int) := (List.range ts.length).map fun t => fwdT l ts t (partsP l ts) (ts.getD t [])
def ansW (l : Lay) (ts : List (List Int)) (p : Pt) : List Int := runP (expAt l p.expert) (ts.getD p.token.toNat [])
def nextP (l : Lay) (ts : List (List Int)) : List (List Int) := combP ts (partsP l ts) ((partsP l ts).map (ansW l ts))
def tokN (m : Mod) (ts : List (List Int)) : Nat → List (List Int)
  | 0 => ts
  | n + 1 => nextP (layAt m n) (tokN m ts n)
theorem fwdT_drop {l : Lay} {ts : List (List Int)} {t : Nat} {P : List Pt} {i : Nat} (hi : i < P.length) (v : List Int) : fwdT l ts t (P.drop i) v = fwdT l ts t (P.drop (i + 1)) (if P[i].token = t then addR v (scaleR (runD (expAt l P[i].expert) (ts.getD t [])) P[i].weight) else v) := by
  rw [List.drop_eq_getElem_cons hi]; rfl
theorem held_fadd (a b : Int) : hold (fadd a b) = fadd a b := by unfold fadd; exact hold_id (hold_in _)
theorem heldRow_iff (l : List Int) : heldRow l = true ↔ ∀ n ∈ l, hold n = n := by
  simp [heldRow, List.all_eq_true]
theorem held_addR (a b : List Int) : heldRow (addR a b) = true := by
  rw [heldRow_iff]
  intro n hn
  simp only [addR] at hn
  rw [List.mem_iff_getElem] at hn
  obtain ⟨i, hi, rfl⟩ := hn
  rw [List.getElem_zipWith]
  exact held_fadd _ _
theorem wide_get {d : Int} {ts : List (List Int)} (h : Wide d ts) {t : Nat} (ht : t < ts.length) : ((ts.getD t []).length : Int) = d ∧ heldRow (ts.getD t []) = true := by
  have e : ts.getD t [] = ts[t] := by simp [List.getD_eq_getElem?_getD, ht]
  rw [e]; exact h _ (List.getElem_mem ht)
/-- Row by row: what Combine makes is what a token becomes. -/
theorem comb_row {l : Lay} {d : Int} {ts : List (List Int)} (hl : layRight l d = true) (hw : Wide d ts) (ans : List (List Int)) : ∀ (ps : List Pt) (i : Nat) (acc : List (List Int)), (∀ p ∈ ps, (0 ≤ p.token ∧ p.token < ts.length) ∧ 0 ≤ p.expert ∧ p.expert < l.exps.length) → acc.length = ts.length → Wide d acc → i + ps.length = ans.length → (∀ (k : Nat) (hk : k < ps.length), ans.getD (i + k) [] = ansW l ts ps[k]) → (combA ans i ps acc).length = ts.length ∧ Wide d (combA ans i ps acc) ∧ ∀ t, t < ts.length → (combA ans i ps acc).getD t [] = fwdT l ts t ps (acc.getD t [])
  | [], i, acc, hp, ha, hd, hi, hk => ⟨ha, hd, fun t ht => rfl⟩
  | p :: r, i, acc, hp, ha, hd, hi, hk => by
    obtain ⟨⟨p1, p2⟩, p3, p4⟩ := hp p (by simp)
    have hpt : p.token.toNat < ts.length := by omega
    have hans : ans.getD i [] = ansW l ts p := hk 0 (by simp)
    have hx := layR_exp hl p3 p4
    obtain ⟨e1, e2⟩ := exR_run hx (wide_get hw hpt).1
    have hal : ((ans.getD i []).length : Int) = d := by rw [hans]; exact e2
    have hag := wide_get hd (t := p.token.toNat) (by omega)
    have hc : comb1 ans i p acc = acc.set p.token.toNat (addR (acc.getD p.token.toNat []) (scaleR (ansW l ts p) p.weight)) := by
      unfold comb1
      rw [if_pos ⟨by simp at hi; omega, p1, by omega, by omega⟩, hans]
    have hlen : (addR (acc.getD p.token.toNat []) (scaleR (ansW l ts p) p.weight)).length = (acc.getD p.token.toNat []).length := by
      rw [hans] at hal
      simp only [addR, scaleR, List.length_zipWith, List.length_map]; omega
    have hd2 : Wide d (comb1 ans i p acc) := by
      rw [hc]
      intro q hq
      rcases List.mem_or_eq_of_mem_set hq with hq | rfl
      · exact hd q hq
      · exact ⟨by rw [hlen]; exact hag.1, held_addR _ _⟩
    obtain ⟨g1, g2, g3⟩ := comb_row hl hw ans r (i + 1) (comb1 ans i p acc) (fun q hq => hp q (by simp [hq])) (by rw [comb1_len]; exact ha) hd2 (by simp at hi; omega) (fun k hk' => by
      have := hk (k + 1) (by simp; omega)
      rw [show i + 1 + k = i + (k + 1) by omega]
      simpa using this)
    refine ⟨g1, g2, fun t ht => ?_⟩
    have e0 : combA ans i (p :: r) acc = combA ans (i + 1) r (comb1 ans i p acc) := rfl
    rw [e0, g3 t ht]
    have e3 : fwdT l ts t (p :: r) (acc.getD t []) = fwdT l ts t r (if p.token = t then addR (acc.getD t []) (scaleR (runD (expAt l p.expert) (ts.getD t [])) p.weight) else acc.getD t []) := rfl
    rw [e3, hc]
    congr 1
    by_cases c : p.token = t
    · rw [if_pos c]
      have ct : p.token.toNat = t := by omega
      rw [ct] at e1 ⊢
      simp only [List.getD_eq_getElem?_getD]
      rw [List.getElem?_set_self (by omega)]
      simp only [Option.getD_some]
      rw [← List.getD_eq_getElem?_getD, ← List.getD_eq_getElem?_getD, e1]
      unfold ansW
      rw [ct]
    · rw [if_neg c]
      have ct : p.token.toNat ≠ t := by omega
      simp only [List.getD_eq_getElem?_getD]
      rw [List.getElem?_set_ne ct]
theorem next_ok {l : Lay} {d : Int} {ts : List (List Int)} (hl : layRight l d = true) (hw : Wide d ts) : (nextP l ts).length = ts.length ∧ Wide d (nextP l ts) ∧ fwd1 l ts = nextP l ts := by
  have hp : ∀ p ∈ partsP l ts, (0 ≤ p.token ∧ p.token < ts.length) ∧ 0 ≤ p.expert ∧ p.expert < l.exps.length := fun p hp => ⟨⟨(partsP_in p hp).1, (partsP_in p hp).2.1⟩, partsP_exp p hp⟩
  obtain ⟨h1, h2, h3⟩ := comb_row hl hw ((partsP l ts).map (ansW l ts)) (partsP l ts) 0 ts hp rfl hw (by simp) (fun k hk => by simp [List.getD_eq_getElem?_getD, hk])
  refine ⟨h1, h2, ?_⟩
  apply List.ext_getElem
  · simp only [fwd1, List.length_map, List.length_range]; exact h1.symm
  · intro t ht ht2
    have ht3 : t < ts.length := by simpa [fwd1] using ht
    have := h3 t ht3
    rw [List.getD_eq_getElem?_getD, List.getElem?_eq_getElem (show t < (combA ((partsP l ts).map (ansW l ts)) 0 (partsP l ts) ts).length by omega), Option.getD_some] at this
    simp only [fwd1, List.getElem_map, List.getElem_range]
    exact this.symm
theorem tokN_ok {m : Mod} {ts : List (List Int)} (hm : ∀ l ∈ m.lays, layRight l m.dim = true) (hw : Wide m.dim ts) : ∀ n, n ≤ m.lays.length → (tokN m ts n).length = ts.length ∧ Wide m.dim (tokN m ts n)
  | 0, _ => ⟨rfl, hw⟩
  | n + 1, h => by
    obtain ⟨h1, h2⟩ := tokN_ok hm hw n (by omega)
    have hn : n < m.lays.length := by omega
    have e : layAt m n = m.lays[n] := by simp [layAt, List.getD_eq_getElem?_getD, hn]
    have := next_ok (hm _ (List.getElem_mem hn)) h2
    simp only [tokN, e]
    exact ⟨by rw [this.1]; exact h1, this.2.1⟩
end Go.Proofs.YtbocnaoihepjfaaGreat.Pv
end

section
/- What the document's Forward tells. -/
namespace Go.Proofs.YtbocnaoihepjfaaGreat.Pv
open Go Go.Pev

/-- The tokens, as they lie: told, or in a row of one's own. -/
def TV (ts : List (List Int)) (v1 : V) (h1 : HP) (c0 : Nat) : Prop := (∀ p ∈ h1, p.1.s = 8) ∧ (v1 = .t (gl ts) ∨ ∃ c o fz, v1 = .ow ⟨8, c, o⟩ 1 0 ts.length ∧ c < c0 ∧ h1.get ⟨8, c, o⟩ = some (.row 42 1 (ts.map fun r => [il r]) fz))
theorem filt_8 {h : HP} (hh : ∀ p ∈ h, p.1.s = 8) {f : Key × Ob → Bool} (hf : ∀ p : Key × Ob, p.1.s = 8 → f p = true) : List.filter f h = h := List.filter_eq_self.2 fun p hp => hf p (hh p hp)
def lbox (l : Lay) : Ob := .box 53 [.t (gl l.gate), .t (.l (l.exps.map exT)), iv l.cap]
def fwS (L : T) (n i : Nat) (l : Lay) (P : List Pt) (v1 : V) (h1 : HP) (c6 o6 c8 o8 : Nat) (els : List (List T)) (t : Nat) (v : List Int) (k ck : Nat) : St := ⟨[(1, v1), (6, .pt ⟨6, c6, o6⟩ 3 0 0), (7, .t (ptl P)), (8, .ow ⟨8, c8, o8⟩ 1 0 t), (9, iv (t : Int)), (10, .t (il v)), (14, .t L), (15, iv n), (16, iv (i : Int)), (33, .t (ptl P)), (34, iv P.length), (35, iv (k : Int))], (⟨8, c8, o8⟩, .row 42 1 els false) :: (⟨6, c6, o6⟩, lbox l) :: h1, ck⟩
def fw0Q (ck0 : Nat) (L : T) (n i : Nat) (l : Lay) (P : List Pt) (v1 : V) (h1 : HP) (c6 o6 c8 o8 : Nat) (els : List (List T)) (t : Nat) (v : List Int) (E : Option (Ex × St)) : Prop := ∃ ck e, ck0 ≤ ck ∧ E = some (.exit 4, ⟨(1, v1) :: (6, .pt ⟨6, c6, o6⟩ 3 0 0) :: (7, .t (ptl P)) :: (8, .ow ⟨8, c8, o8⟩ 1 0 t) :: (9, iv (t : Int)) :: (10, .t (il v)) :: (14, .t L) :: (15, iv n) :: (16, iv (i : Int)) :: e, (⟨8, c8, o8⟩, .row 42 1 els false) :: (⟨6, c6, o6⟩, lbox l) :: h1, ck⟩)
def fw0I (ck0 : Nat) (L : T) (n i : Nat) (l : Lay) (ts : List (List Int)) (d : Int) (P : List Pt) (v1 : V) (h1 : HP) (c6 o6 c8 o8 : Nat) (els : List (List T)) (t : Nat) (v : List Int) (k : Nat) (s : St) : Prop := ∃ w ck, ck0 ≤ ck ∧ fwdT l ts t (P.drop k) w = fwdT l ts t P v ∧ (w.length : Int) = d ∧ s = fwS L n i l P v1 h1 c6 o6 c8 o8 els t w k ck
theorem fw0_loop {L : T} {n i : Nat} {l : Lay} {d : Int} {ts : List (List Int)} {P : List Pt} {v1 : V} {h1 : HP} {c0 : Nat} (hV : TV ts v1 h1 c0) (hl : layRight l d = true) (hx : FewL l) (hd : 1 ≤ d ∧ d ≤ 8) (hw : Wide d ts) (hP : ∀ p ∈ P, (0 ≤ p.token ∧ p.token < ts.length) ∧ 0 ≤ p.expert ∧ p.expert < l.exps.length) (hn : P.length ≤ 100000) (c6 o6 c8 o8 : Nat) (h8 : c0 ≤ c8) (els : List (List T)) (t : Nat) (ht : t < ts.length) (ht2 : ts.length ≤ 10000) (v : List Int) (hv : (v.length : Int) = d) (ck : Nat) :
    fw0Q ck L n i l P v1 h1 c6 o6 c8 o8 els t (fwdT l ts t P v) (evL cfg (.loop f20l0) (fwS L n i l P v1 h1 c6 o6 c8 o8 els t v 0 ck)) := by
  obtain ⟨hs, hV⟩ := hV
  have hf12 : List.filter (fun p => !decide (p.1.s = 12)) h1 = h1 := filt_8 hs (by intro p h; simp [h])
  refine loop_q P.length (fw0I ck L n i l ts d P v1 h1 c6 o6 c8 o8 els t v) ?_ ?_ _ ⟨v, ck, Nat.le_refl _, rfl, hv, rfl⟩
  · rintro k s hk ⟨w, ck, e0, e1, e2, rfl⟩
    have hwk : IntKind.i64.wrap ((k : Int) + 1) = (k : Int) + 1 := wrap_id (by omega) (by omega)
    rw [fwdT_drop hk] at e1
    obtain ⟨⟨p1, p2⟩, p3, p4⟩ := hP _ (List.getElem_mem hk)
    generalize hp : P[k] = p at *
    obtain ⟨pt, pr, px, pw⟩ := p
    simp only at p1 p2 p3 p4 e1
    obtain ⟨x, rfl⟩ : ∃ x : Nat, px = x := ⟨px.toNat, by omega⟩
    have hxl : x < l.exps.length := by omega
    have gt : ts.getD t [] = ts[t] := by simp [List.getD_eq_getElem?_getD, ht]
    have ge : expAt l (x : Int) = l.exps[x] := by simp [expAt, List.getD_eq_getElem?_getD, hxl]
    have hxr := layR_exp hl p3 p4
    obtain ⟨r1, r2⟩ := exR_run hxr (wide_get hw ht).1
    rw [gt, ge] at e1 r1 r2
    have htl := (wide_get hw ht).1
    rw [gt] at htl
    rw [← r1] at r2
    have h1' := fun hp => callQ_tr (C := cfg) (rrun_ret l.exps[x] ts[t] (hx.2.2 _ (List.getElem_mem hxl)) (by omega)) rfl hp
    generalize runD l.exps[x] ts[t] = R at *
    have h2' := fun hp => callQ_tr (C := cfg) (rscale_ret R pw (by omega)) rfl hp
    have h3' := fun hp => callQ_tr (C := cfg) (radd_ret w (scaleR R pw) (by simp only [scaleR, List.length_map]; omega) (by omega)) rfl hp
    have hal : ((addR w (scaleR R pw)).length : Int) = d := by simp only [addR, scaleR, List.length_zipWith, List.length_map]; omega
    generalize addR w (scaleR R pw) = A at *
    generalize scaleR R pw = B at *
    simp only [exV, gl, il, iv] at h1' h2' h3'
    by_cases c : pt = t
    · subst c
      rw [if_pos rfl] at e1
      rcases hV with rfl | ⟨c1, o1, fz, rfl, hc1, hg1⟩
      · simp [f20l0e, fwS, ptl, ptT, gl, il, lbox, exT, hk, hp, ht, hxl, hwk, over, hf12, filt_t, h1', h2', h3']
        exact ⟨A, _, by omega, e1, hal, rfl⟩
      · simp [f20l0e, fwS, ptl, ptT, gl, il, lbox, exT, hk, hp, ht, hxl, hwk, over, hf12, filt_t, h1', h2', h3', hg1, show ¬ c8 = c1 by omega]
        exact ⟨A, _, by omega, e1, hal, rfl⟩
    · rw [if_neg c] at e1
      have cb : (pt == (t : Int)) = false := beq_eq_false_iff_ne.2 c
      rcases hV with rfl | ⟨c1, o1, fz, rfl, hc1, hg1⟩
      · simp [f20l0e, fwS, ptl, ptT, gl, il, lbox, exT, hk, hp, ht, hxl, hwk, over, hf12, filt_t, cb]
        exact ⟨w, _, by omega, e1, e2, rfl⟩
      · simp [f20l0e, fwS, ptl, ptT, gl, il, lbox, exT, hk, hp, ht, hxl, hwk, over, hf12, filt_t, cb, hg1, show ¬ c8 = c1 by omega]
        exact ⟨w, _, by omega, e1, e2, rfl⟩
  · rintro s ⟨w, ck, e0, e1, e2, rfl⟩
    rw [List.drop_eq_nil_of_le (Nat.le_refl _)] at e1
    simp only [fwdT] at e1
    subst e1
    rcases hV with rfl | ⟨c1, o1, fz, rfl, hc1, hg1⟩
    · simp [f20l0e, fwS, ptl, lbox, filt_t]
      exact ⟨_, _, by omega, rfl⟩
    · simp [f20l0e, fwS, ptl, lbox, filt_t, hg1, show ¬ c8 = c1 by omega]
      exact ⟨_, _, by omega, rfl⟩
def fw1S (L : T) (n i : Nat) (l : Lay) (P : List Pt) (v1 : V) (h1 : HP) (c6 o6 c8 o8 : Nat) (els : List (List T)) (t ck : Nat) : St := ⟨[(1, v1), (6, .pt ⟨6, c6, o6⟩ 3 0 0), (7, .t (ptl P)), (8, .ow ⟨8, c8, o8⟩ 1 0 t), (9, iv (t : Int)), (14, .t L), (15, iv n), (16, iv (i : Int))], (⟨8, c8, o8⟩, .row 42 1 els false) :: (⟨6, c6, o6⟩, lbox l) :: h1, ck⟩
def rws (ts : List (List Int)) : List (List T) := ts.map fun r => [il r]
def fw1I (L : T) (n i : Nat) (l : Lay) (ts : List (List Int)) (v1 : V) (h1 : HP) (c0 c6 o6 : Nat) (t : Nat) (s : St) : Prop := ∃ c8 o8 els ck, c0 ≤ c8 ∧ c8 < ck ∧ els = rws ((fwd1 l ts).take t) ∧ s = fw1S L n i l (partsP l ts) v1 h1 c6 o6 c8 o8 els t ck
def fw1Q (L : T) (n i : Nat) (l : Lay) (ts : List (List Int)) (v1 : V) (h1 : HP) (c0 c6 o6 : Nat) (E : Option (Ex × St)) : Prop := ∃ c8 o8 ck e, c0 ≤ c8 ∧ c8 < ck ∧ E = some (.exit 2, ⟨(1, v1) :: (6, .pt ⟨6, c6, o6⟩ 3 0 0) :: (7, .t (ptl (partsP l ts))) :: (8, .ow ⟨8, c8, o8⟩ 1 0 ts.length) :: (9, iv ts.length) :: (14, .t L) :: (15, iv n) :: (16, iv (i : Int)) :: e, (⟨8, c8, o8⟩, .row 42 1 (rws (fwd1 l ts)) false) :: (⟨6, c6, o6⟩, lbox l) :: h1, ck⟩)
theorem fw1_loop {L : T} {n i : Nat} {l : Lay} {d : Int} {ts : List (List Int)} {v1 : V} {h1 : HP} {c0 : Nat} (hV : TV ts v1 h1 c0) (hl : layRight l d = true) (hx : FewL l) (hd : 1 ≤ d ∧ d ≤ 8) (hw : Wide d ts) (ht2 : ts.length ≤ 10000) (c6 o6 c8 o8 : Nat) (h8 : c0 ≤ c8) (ck : Nat) (h9 : c8 < ck) :
    fw1Q L n i l ts v1 h1 c0 c6 o6 (evL cfg (.loop f20l1) (fw1S L n i l (partsP l ts) v1 h1 c6 o6 c8 o8 [] 0 ck)) := by
  have hfl : (fwd1 l ts).length = ts.length := by simp [fwd1]
  have hpl := partsP_len l ts
  have hP : ∀ p ∈ partsP l ts, (0 ≤ p.token ∧ p.token < ts.length) ∧ 0 ≤ p.expert ∧ p.expert < l.exps.length := fun p hp => ⟨⟨(partsP_in p hp).1, (partsP_in p hp).2.1⟩, partsP_exp p hp⟩
  refine loop_q ts.length (fw1I L n i l ts v1 h1 c0 c6 o6) ?_ ?_ _ ⟨c8, o8, [], ck, h8, h9, by simp [rws], rfl⟩
  · rintro t s ht ⟨c8, o8, els, ck, h8, h9, he, rfl⟩
    have hwk : IntKind.i64.wrap ((t : Int) + 1) = (t : Int) + 1 := wrap_id (by omega) (by omega)
    have gt : ts.getD t [] = ts[t] := by simp [List.getD_eq_getElem?_getD, ht]
    have hvl := (wide_get hw ht).1
    rw [gt] at hvl
    obtain ⟨ck2, e2, hc2, hE⟩ := fw0_loop (L := L) (n := n) (i := i) hV hl hx hd hw hP (by omega) c6 o6 c8 o8 h8 els t ht ht2 ts[t] hvl (ck + 1 + 1 + 1)
    have hs : rws ((fwd1 l ts).take (t + 1)) = els ++ [[il (fwdT l ts t (partsP l ts) ts[t])]] := by
      rw [List.take_succ_eq_append_getElem (by omega), he]
      simp [rws, fwd1, List.getElem?_eq_getElem ht]
    have hlen : els.length = t := by rw [he]; simp [rws]; omega
    have hb : (t + 1) * 24 ≤ 140737488355328 := by omega
    generalize fwdT l ts t (partsP l ts) ts[t] = w at *
    obtain ⟨hss, hV⟩ := hV
    rcases hV with rfl | ⟨c1, o1, fz, rfl, hc1, hg1⟩
    · simp only [fwS, ptl, gl, il, iv, lbox, Int.natCast_zero] at hE
      simp [f20l1e, fw1S, ptl, gl, il, lbox, ht, hwk, filt_t, hE, rowsOf, keysOfs, treesC, treesOf, treeOf, freezeAll, app, elsOf, over, hb, hlen]
      exact ⟨_, _, _, _, by omega, by omega, hs.symm, rfl⟩
    · simp only [fwS, ptl, gl, il, iv, lbox, Int.natCast_zero] at hE
      simp [f20l1e, fw1S, ptl, gl, il, lbox, ht, hwk, filt_t, hE, rowsOf, keysOfs, treesC, treesOf, treeOf, freezeAll, app, elsOf, over, hb, hlen, hg1, show ¬ c8 = c1 by omega]
      exact ⟨_, _, _, _, by omega, by omega, hs.symm, rfl⟩
  · rintro s ⟨c8, o8, els, ck, h8, h9, he, rfl⟩
    rw [List.take_of_length_le (by omega)] at he
    subst he
    obtain ⟨hss, hV⟩ := hV
    rcases hV with rfl | ⟨c1, o1, fz, rfl, hc1, hg1⟩
    · simp [f20l1e, fw1S, ptl, gl, filt_t]
      exact ⟨_, _, _, _, h8, by omega, rfl⟩
    · simp [f20l1e, fw1S, ptl, gl, filt_t]
      exact ⟨_, _, _, _, h8, by omega, rfl⟩
theorem freeze_get {h : HP} {k : Key} {ty sz : Nat} {els : List (List T)} {fz : Bool} (hg : h.get k = some (.row ty sz els fz)) : (freezeAll h [k]).get k = some (.row ty sz els true) := by
  simp only [freezeAll, freeze1, hg]
  rw [hp_get_put, if_pos rfl, hg]; rfl
theorem put_sites {h : HP} {k : Key} {o : Ob} {n : Nat} (hk : k.s = n) (hs : ∀ p ∈ h, p.1.s = n) : ∀ p ∈ h.put k k o, p.1.s = n := by
  induction h with
  | nil => intro p hp; simp [HP.put] at hp
  | cons q h ih =>
    obtain ⟨q, x⟩ := q
    intro p hp
    simp only [HP.put] at hp
    split at hp
    · rcases List.mem_cons.1 hp with rfl | hp
      · exact hk
      · exact hs p (by simp [hp])
    · rcases List.mem_cons.1 hp with rfl | hp
      · exact hs (q, x) (by simp)
      · exact ih (fun r hr => hs r (by simp [hr])) p hp
theorem freeze_sites {h : HP} {k : Key} {n : Nat} (hk : k.s = n) (hs : ∀ p ∈ h, p.1.s = n) : ∀ p ∈ freezeAll h [k], p.1.s = n := by
  simp only [freezeAll, freeze1]
  split
  · exact put_sites hk hs
  · exact hs
/-- The parts, asked of tokens as they lie. -/
theorem fparts_call {l : Lay} {ts : List (List Int)} {v1 : V} {h1 : HP} {c0 : Nat} (hV : TV ts v1 h1 c0) (hg : Few l.gate) (hl : ts.length ≤ 10000) (ht : ∀ r ∈ ts, r.length ≤ 1000000) (hc : 0 ≤ l.cap) (c6 o6 : Nat) : ∃ h2, TV ts v1 h2 c0 ∧ ∀ e k ck, callEv cfg (runL cfg) 19 [layV l, v1] ⟨e, (⟨6, c6, o6⟩, lbox l) :: h1, ck⟩ k = some (.t (ptl (partsP l ts)), (⟨6, c6, o6⟩, lbox l) :: h2, ck) := by
  have hr := rparts_ret l ts hg hl ht hc
  obtain ⟨hs, hV⟩ := hV
  rcases hV with rfl | ⟨c, o, fz, rfl, h2, h3⟩
  · exact ⟨h1, ⟨hs, .inl rfl⟩, fun e k ck => callEv_tr (C := cfg) hr rfl rfl rfl ⟨e, _, ck⟩ k⟩
  · refine ⟨freezeAll h1 [⟨8, c, o⟩], ⟨freeze_sites rfl hs, .inr ⟨c, o, true, rfl, h2, freeze_get h3⟩⟩, fun e k ck => ?_⟩
    have := callEv_k (C := cfg) (f := 19) (args := [layV l, .ow ⟨8, c, o⟩ 1 0 ts.length]) (s := ⟨e, (⟨6, c6, o6⟩, lbox l) :: h1, ck⟩) (k := k) rfl rfl (ps := [layV l, .t (gl ts)]) (by
      simp [puresOf, pureOf, treeOf, layV, treesOf, h3, gl, il]
      exact List.take_of_length_le (by simp)) hr rfl
    rw [this]
    simp [keysOf, keysOf1, layV, freezeAll, freeze1, h3]
def fw2I (m : Mod) (ts : List (List Int)) (i : Nat) (s : St) : Prop := ∃ v1 h1 c0, TV (tokN m ts i) v1 h1 c0 ∧ s = ⟨[(1, v1), (14, .t (laysT m)), (15, iv m.lays.length), (16, iv (i : Int))], h1, c0⟩
def fw2Q (m : Mod) (ts : List (List Int)) (E : Option (Ex × St)) : Prop := ∃ v1 h1 c0 ck e, TV (tokN m ts m.lays.length) v1 h1 c0 ∧ E = some (.exit 0, ⟨(1, v1) :: e, h1, ck⟩)
theorem tv_new {ts : List (List Int)} {h1 : HP} {c o c0 c8 : Nat} {els : List (List T)} (hs : ∀ p ∈ h1, p.1.s = 8) (he : els = rws ts) (hc : c < c0) : TV ts (.ow ⟨8, c, o⟩ 1 0 ts.length) ((⟨8, c, o⟩, .row 42 1 els false) :: h1) c0 := by
  refine ⟨fun p hp => ?_, .inr ⟨c, o, false, rfl, hc, by rw [he]; simp [HP.get, rws]⟩⟩
  rcases List.mem_cons.1 hp with rfl | hp
  · rfl
  · exact hs p hp
theorem fw2_loop {m : Mod} {ts : List (List Int)} (hm : FewM m) (hr : ∀ l ∈ m.lays, layRight l m.dim = true) (hd : 1 ≤ m.dim ∧ m.dim ≤ 8) (hw : Wide m.dim ts) (ht : ts.length ≤ 10000) (ck : Nat) : fw2Q m ts (evL cfg (.loop f20l2) ⟨[(1, .t (gl ts)), (14, .t (laysT m)), (15, iv m.lays.length), (16, iv 0)], [], ck⟩) := by
  refine loop_q m.lays.length (fw2I m ts) ?_ ?_ _ ⟨_, [], ck, ⟨by simp, .inl rfl⟩, rfl⟩
  · rintro i s hi ⟨v1, h1, c0, hV, rfl⟩
    have hml := hm.1
    have hwk : IntKind.i64.wrap ((i : Int) + 1) = (i : Int) + 1 := wrap_id (by omega) (by omega)
    obtain ⟨k1, k2⟩ := tokN_ok hr hw i (by omega)
    have e : layAt m i = m.lays[i] := by simp [layAt, List.getD_eq_getElem?_getD, hi]
    have hl := hr _ (List.getElem_mem hi)
    have hx := hm.2 _ (List.getElem_mem hi)
    have hn : tokN m ts (i + 1) = fwd1 m.lays[i] (tokN m ts i) := by
      simp only [tokN, e]; exact (next_ok hl k2).2.2.symm
    have hnl : (tokN m ts (i + 1)).length = (tokN m ts i).length := by rw [hn]; simp [fwd1]
    generalize hT : tokN m ts i = T0 at *
    have hcap : 0 ≤ m.lays[i].cap := by simp only [layRight, Bool.and_eq_true, decide_eq_true_eq] at hl; omega
    have hla : (laysT m) = .l (m.lays.map layT) := rfl
    generalize hL : m.lays[i] = l at *
    obtain ⟨h2, hV2, hp⟩ := fparts_call hV hx.1 (by omega) (fun r hr => by have := (k2 r hr).1; omega) hcap (c0 + 1) 2
    obtain ⟨c8, o8, ck8, e8, q1, q2, q3⟩ := fw1_loop (L := laysT m) (n := m.lays.length) (i := i) hV2 hl hx hd k2 (by omega) (c0 + 1) 2 (c0 + 1 + 1 + 1) 0 (by omega) (c0 + 1 + 1 + 1 + 1 + 1) (by omega)
    have hfin : fw2I m ts (i + 1) ⟨[(1, .ow ⟨8, c8, o8⟩ 1 0 T0.length), (14, .t (laysT m)), (15, iv m.lays.length), (16, iv ((i + 1 : Nat) : Int))], (⟨8, c8, o8⟩, .row 42 1 (rws (fwd1 l T0)) false) :: h2, ck8 + 1 + 1⟩ := by
      refine ⟨_, _, _, ?_, rfl⟩
      rw [← hnl]
      exact tv_new (c8 := 0) hV2.1 (by rw [hn]) (by omega)
    have hs := hV2.1
    have hf6 : List.filter (fun p => !decide (p.1.s = 6)) h2 = h2 := filt_8 hs (by intro p h; simp [h])
    have hla : layT l = [gl l.gate, .l (l.exps.map exT), .i .i64 l.cap] := rfl
    simp only [layV, lbox, fw1S, laysT, iv, ptl, gl, il, Int.natCast_zero] at hp q3 hfin hla
    simp [f20l2e, laysT, hi, hL, hla, hwk, filt_t, hf6, over, hp, q3]
    exact hfin
  · rintro s ⟨v1, h1, c0, hV, rfl⟩
    simp [f20l2e, laysT, filt_t]
    exact ⟨v1, h1, c0, _, _, hV, rfl⟩
/-- Forward of a right model: layer by layer. -/
theorem fwd_ret {m : Mod} {ts : List (List Int)} (hm : FewM m) (hr : ∀ l ∈ m.lays, layRight l m.dim = true) (hd : 1 ≤ m.dim ∧ m.dim ≤ 8) (hw : Wide m.dim ts) (ht : ts.length ≤ 10000) : RetT cfg 20 [modV m, .t (gl ts)] (.t (gl (tokN m ts m.lays.length))) := by
  obtain ⟨v1, h1, c0, ck, e, ⟨hs, hV⟩, hL⟩ := fw2_loop hm hr hd hw ht 2
  rw [retT_r, runL_pf (fn := f20) rfl rfl]
  have hf4 : List.filter (fun p => !decide (p.1.s = 4)) h1 = h1 := filt_8 hs (by intro p h; simp [h])
  generalize tokN m ts m.lays.length = R at *
  rcases hV with rfl | ⟨c1, o1, fz, rfl, hc1, hg1⟩
  · simp only [laysT, gl, il, iv] at hL
    simp [modV, laysT, gl, il, hL, filt_t, resOf]
    rfl
  · simp only [laysT, gl, il, iv] at hL
    simp [modV, laysT, gl, il, hL, filt_t, resOf, resOf1, treeOf, hg1, List.take_of_length_le]
end Go.Proofs.YtbocnaoihepjfaaGreat.Pv
end

section
/- What is put is taken: a plain law of frames. -/
namespace Go.Proofs.YtbocnaoihepjfaaGreat.Pv
open Go Go.Pev

theorem bodyB_cons (x : Int) (r : List Int) : bodyB (x :: r) = fourI x ++ bodyB r := rfl
theorem bodyB_app (a b : List Int) : bodyB (a ++ b) = bodyB a ++ bodyB b := by simp [bodyB]
theorem numB_0 (x : Int) (s : List UInt8) : numB (fourI x ++ s) 0 = (x % 4294967296).toNat := by
  obtain ⟨a, b, c, d, e1, e2⟩ := four_fourD (n := (x % 4294967296).toNat) (by omega)
  have : fourI x = [a, b, c, d] := e1
  rw [this, ← e2]
  rfl
theorem numB_s (x : Int) (s : List UInt8) (i : Nat) : numB (fourI x ++ s) (i + 1) = numB s i := by
  obtain ⟨a, b, c, d, e1, e2⟩ := four_fourD (n := (x % 4294967296).toNat) (by omega)
  have : fourI x = [a, b, c, d] := e1
  rw [this]
  unfold numB
  rw [show 4 * (i + 1) = (4 * i) + 4 by omega, show (4 * i) + 4 + 1 = (4 * i + 1) + 4 by omega, show (4 * i) + 4 + 2 = (4 * i + 2) + 4 by omega, show (4 * i) + 4 + 3 = (4 * i + 3) + 4 by omega]
  simp only [List.getD_eq_getElem?_getD, List.cons_append, List.nil_append, List.getElem?_cons_succ]
theorem numB_at : ∀ (L : List Int) (i : Nat) (hi : i < L.length), numB (bodyB L) i = (L[i] % 4294967296).toNat
  | x :: r, 0, hi => by rw [bodyB_cons, numB_0]; rfl
  | x :: r, i + 1, hi => by
    rw [bodyB_cons, numB_s, numB_at r i (by simpa using hi)]; rfl
def fullL (l : List Int) : List Int := ((4 * (l.length + 1) : Nat) : Int) :: l ++ [crcI (bodyB l)]
theorem frame_is (l : List Int) : frameB l = bodyB (fullL l) := by
  unfold frameB fullL
  rw [List.cons_append, bodyB_cons, bodyB_app, bodyB_cons]
  have : (bodyB l ++ fourI (crcI (bodyB l))).length = 4 * (l.length + 1) := by rw [List.length_append, bodyB_len, fourI_len]; omega
  rw [this]
  simp [bodyB]
theorem okS_un {v : Int} (h : okS v = true) : unsig (v % 4294967296).toNat = v := by
  simp only [okS, Bool.and_eq_true, decide_eq_true_eq] at h
  unfold unsig
  split <;> omega
theorem take_put {m : Msg} (h : wrightM m = true) : takeP (putB m) = (m, 0) := by
  have hr := h
  simp only [wrightM, nums, okN, List.all_cons, List.all_nil, Bool.and_eq_true, decide_eq_true_eq, List.all_eq_true] at hr
  obtain ⟨⟨⟨⟨⟨n0, n1, n2, n3, n4, n5, n6, n7, n8, n9, -⟩, hv⟩, k1⟩, k2⟩, k8⟩ := hr
  have hl : (numsA m).length = 11 + m.vec.length := by simp [numsA, nums]; omega
  have hf : putB m = bodyB (fullL (numsA m)) := frame_is _
  have hfl : (fullL (numsA m)).length = 13 + m.vec.length := by simp [fullL]; omega
  have hlen : (putB m).length = 4 * (13 + m.vec.length) := by rw [hf, bodyB_len, hfl]
  have hmany : manyB (putB m) = 12 + m.vec.length := by unfold manyB; rw [hlen]; omega
  have hn : ∀ i (hi : i < 13 + m.vec.length), numB (putB m) i = ((fullL (numsA m))[i]'(by omega) % 4294967296).toNat := fun i hi => by
    have := numB_at (fullL (numsA m)) i (by omega)
    rw [← hf] at this
    exact this
  have hc := crcI_in (bodyB (numsA m))
  have a0 : numB (putB m) 0 = 4 * (12 + m.vec.length) := by
    rw [hn 0 (by omega)]
    have : (fullL (numsA m))[0]'(by omega) = ((4 * ((numsA m).length + 1) : Nat) : Int) := rfl
    rw [this, hl]; omega
  have a1 : numB (putB m) 1 = m.kind.toNat := by rw [hn 1 (by omega)]; have : (fullL (numsA m))[1]'(by omega) = m.kind := rfl; rw [this]; omega
  have a2 : numB (putB m) 2 = m.fr.toNat := by rw [hn 2 (by omega)]; have : (fullL (numsA m))[2]'(by omega) = m.fr := rfl; rw [this]; omega
  have a3 : numB (putB m) 3 = m.to.toNat := by rw [hn 3 (by omega)]; have : (fullL (numsA m))[3]'(by omega) = m.to := rfl; rw [this]; omega
  have a4 : numB (putB m) 4 = m.seq.toNat := by rw [hn 4 (by omega)]; have : (fullL (numsA m))[4]'(by omega) = m.seq := rfl; rw [this]; omega
  have a5 : numB (putB m) 5 = m.batch.toNat := by rw [hn 5 (by omega)]; have : (fullL (numsA m))[5]'(by omega) = m.batch := rfl; rw [this]; omega
  have a6 : numB (putB m) 6 = m.layer.toNat := by rw [hn 6 (by omega)]; have : (fullL (numsA m))[6]'(by omega) = m.layer := rfl; rw [this]; omega
  have a7 : numB (putB m) 7 = m.token.toNat := by rw [hn 7 (by omega)]; have : (fullL (numsA m))[7]'(by omega) = m.token := rfl; rw [this]; omega
  have a8 : numB (putB m) 8 = m.rank.toNat := by rw [hn 8 (by omega)]; have : (fullL (numsA m))[8]'(by omega) = m.rank := rfl; rw [this]; omega
  have a9 : numB (putB m) 9 = m.expert.toNat := by rw [hn 9 (by omega)]; have : (fullL (numsA m))[9]'(by omega) = m.expert := rfl; rw [this]; omega
  have a10 : numB (putB m) 10 = m.epoch.toNat := by rw [hn 10 (by omega)]; have : (fullL (numsA m))[10]'(by omega) = m.epoch := rfl; rw [this]; omega
  have a11 : numB (putB m) 11 = m.vec.length := by rw [hn 11 (by omega)]; have : (fullL (numsA m))[11]'(by omega) = (m.vec.length : Int) := rfl; rw [this]; omega
  have av : ∀ i (hi : i < m.vec.length), unsig (numB (putB m) (12 + i)) = m.vec[i] := fun i hi => by
    rw [hn (12 + i) (by omega)]
    have e : (fullL (numsA m))[12 + i]? = some m.vec[i] := by
      rw [show 12 + i = i + 12 by omega]
      simp only [fullL, numsA, nums, List.cons_append, List.nil_append, List.getElem?_cons_succ]
      rw [List.getElem?_append_left hi, List.getElem?_eq_getElem hi]
    have : (fullL (numsA m))[12 + i]'(by omega) = m.vec[i] := (List.getElem?_eq_some_iff.1 e).2
    rw [this, okS_un (hv _ (List.getElem_mem hi))]
  have ac : numB (putB m) (12 + m.vec.length) = (crcI (bodyB (numsA m))).toNat := by
    rw [hn _ (by omega)]
    have : (fullL (numsA m))[12 + m.vec.length]'(by omega) = crcI (bodyB (numsA m)) := by
      simp only [fullL]
      rw [List.getElem_append_right (by simp [hl]; omega)]
      simp
    rw [this]; omega
  have hvec : vecB (putB m) = m.vec := by
    unfold vecB
    rw [hmany]
    apply List.ext_getElem
    · simp
    · intro i h1 h2
      simp only [List.getElem_map, List.getElem_range]
      exact av i h2
  have hmsg : msgB (putB m) = m := by
    unfold msgB
    rw [a1, a2, a3, a4, a5, a6, a7, a8, a9, a10, hvec]
    rw [Int.toNat_of_nonneg (show 0 ≤ m.kind by omega), Int.toNat_of_nonneg n1.1, Int.toNat_of_nonneg n2.1, Int.toNat_of_nonneg n3.1, Int.toNat_of_nonneg n4.1, Int.toNat_of_nonneg n5.1, Int.toNat_of_nonneg n6.1, Int.toNat_of_nonneg n7.1, Int.toNat_of_nonneg n8.1, Int.toNat_of_nonneg n9.1]
  have hbody : ((putB m).take (4 * (12 + m.vec.length))).drop 4 = bodyB (numsA m) := by
    unfold putB frameB
    rw [List.take_append, List.take_of_length_le (by rw [fourI_len]; omega), List.drop_left' (fourI_len _)]
    rw [List.take_append, List.take_of_length_le (by rw [fourI_len, bodyB_len, hl]; omega)]
    rw [fourI_len, bodyB_len, hl]
    rw [show 4 * (12 + m.vec.length) - 4 - 4 * (11 + m.vec.length) = 0 by omega]
    simp
  unfold takeP
  rw [if_neg (by omega), hmany, if_neg (by rw [ac, hbody]; omega), if_neg (by rw [a11, hmsg, h]; simp), hmsg]
end Go.Proofs.YtbocnaoihepjfaaGreat.Pv
end

section
/- Turned maps, plainly. -/
namespace Go.Proofs.YtbocnaoihepjfaaGreat.Pv
open Go Go.Pev
/-- The numbers j, j + 1, .. (k of them) that a test lets in. -/
def trow (p : Int → Bool) : Nat → Nat → List Int
  | 0, _ => []
  | k + 1, j => (if p j then [(j : Int)] else []) ++ trow p k (j + 1)
def tst (l : List Int) (at_ : Bool) (n : Int) (add : Bool) (j : Int) : Bool := if at_ && j == n then add else l.contains j

/-- A row as it is turned. -/
def nrow (h : List (List Int)) (x n : Int) (add : Bool) (i : Nat) : List Int := trow (tst (h.getD i []) ((i : Int) == x) n add) 4 1

def rturn (e : Int) (h : List (List Int)) (x n : Int) (add : Bool) : Int × List (List Int) × Int :=
  if may e h x n = false then (e, h, 1) else
  if add && (h.getD x.toNat []).contains n then (e, h, 5) else
  if !add && !(h.getD x.toNat []).contains n then (e, h, 4) else
  if !add && (h.getD x.toNat []).length == 1 then (e, h, 7) else
  (e + 1, (List.range' 0 h.length).map (nrow h x n add), 0)

end Go.Proofs.YtbocnaoihepjfaaGreat.Pv
end

section
/- Plain facts of maps: what Add and Retire make of a right map is what the document says. -/
namespace Go.Proofs.YtbocnaoihepjfaaGreat.Pv
open Go Go.Pev

def subs : List (List Int) := [[], [1], [2], [3], [4], [1, 2], [1, 3], [1, 4], [2, 3], [2, 4], [3, 4], [1, 2, 3], [1, 2, 4], [1, 3, 4], [2, 3, 4], [1, 2, 3, 4]]
theorem sub_in {r : List Int} (h : r.Sublist [1, 2, 3, 4]) : r ∈ subs := by
  have step : ∀ {a : Int} {l : List Int} {r : List Int}, r.Sublist (a :: l) → r.Sublist l ∨ ∃ r', r = a :: r' ∧ r'.Sublist l := by
    intro a l r h
    cases h with
    | cons _ h => exact .inl h
    | cons_cons _ h => exact .inr ⟨_, rfl, h⟩
  have nil : ∀ {r : List Int}, r.Sublist [] → r = [] := fun h => List.sublist_nil.1 h
  rcases step h with h1 | ⟨_, rfl, h1⟩ <;> rcases step h1 with h2 | ⟨_, rfl, h2⟩ <;> rcases step h2 with h3 | ⟨_, rfl, h3⟩ <;> rcases step h3 with h4 | ⟨_, rfl, h4⟩ <;> cases nil h4 <;> decide
theorem row_in {r : List Int} (h : rowUp 0 r = true) : r ∈ subs := sub_in (rowUp_is h)

theorem srt_is {l t : List Int} (hp : t.Pairwise (· ≤ ·)) (h : t.Perm l) : Go.Pev.srt l = t := by
  have h1 : (Go.Pev.srt l).Pairwise (fun a b => decide (a ≤ b) = true) := List.pairwise_mergeSort (by intro a b c h1 h2; simp at *; omega) (by intro a b; simp; omega) _
  have h2 : (Go.Pev.srt l).Perm t := (List.mergeSort_perm _ _).trans h.symm
  refine h2.eq_of_pairwise (le := fun a b => decide (a ≤ b)) (fun a b _ _ h3 h4 => ?_) h1 (hp.imp fun h => ?_)
  · simp at h3 h4; omega
  · simpa using h

theorem trow_same : ∀ r ∈ subs, trow (fun j => r.contains j) 4 1 = r := by decide
theorem trow_add0 : ∀ r ∈ subs, ∀ n ∈ ([1, 2, 3, 4] : List Int), r.contains n = false → (trow (tst r true n true) 4 1).Pairwise (· ≤ ·) ∧ (trow (tst r true n true) 4 1).isPerm (r ++ [n]) = true := by decide
theorem trow_add {r : List Int} (h : r ∈ subs) {n : Int} (hn : 1 ≤ n ∧ n ≤ 4) (hc : r.contains n = false) : trow (tst r true n true) 4 1 = srt (r ++ [n]) := by
  have hm : n ∈ ([1, 2, 3, 4] : List Int) := by
    have : n = 1 ∨ n = 2 ∨ n = 3 ∨ n = 4 := by omega
    rcases this with rfl | rfl | rfl | rfl <;> decide
  obtain ⟨h1, h2⟩ := trow_add0 r h n hm hc
  exact (srt_is h1 (List.isPerm_iff.1 h2)).symm
theorem trow_del : ∀ r ∈ subs, ∀ n ∈ ([1, 2, 3, 4] : List Int), trow (tst r true n false) 4 1 = r.filter (· != n) := by decide
theorem tst_f (r : List Int) (n : Int) (add : Bool) : tst r false n add = fun j => r.contains j := by
  funext j; simp [tst]
theorem n14 {n : Int} (h1 : 1 ≤ n) (h2 : n ≤ 4) : n ∈ ([1, 2, 3, 4] : List Int) := by
  have : n = 1 ∨ n = 2 ∨ n = 3 ∨ n = 4 := by omega
  rcases this with rfl | rfl | rfl | rfl <;> decide

theorem rows_set {e : Int} {h : List (List Int)} (hr : right e h = true) {y : Nat} (hy : y < h.length) (n : Int) (add : Bool) : (List.range' 0 h.length).map (nrow h y n add) = h.set y (trow (tst h[y] true n add) 4 1) := by
  apply List.ext_getElem
  · simp
  · intro i h1 h2
    have hi : i < h.length := by simpa using h1
    have hg : h.getD i [] = h[i] := by simp [List.getD_eq_getElem?_getD, List.getElem?_eq_getElem hi]
    simp only [List.getElem_map, List.getElem_range', nrow, Nat.zero_add, Nat.one_mul, hg]
    rw [List.getElem_set]
    by_cases e : y = i
    · subst e; simp
    · have e' : ((i : Int) == (y : Int)) = false := by simp; omega
      rw [if_neg e, e', tst_f]
      exact trow_same _ (row_in (right_row' hr (List.getElem_mem hi)).1)

theorem may_p {e : Int} {h : List (List Int)} {x n : Int} (h1 : may e h x n = true) : right e h = true ∧ 0 ≤ x ∧ x < h.length ∧ 1 ≤ n ∧ n ≤ 4 ∧ 0 ≤ e ∧ e < 2147483647 := by
  simp only [may, Bool.and_eq_true, decide_eq_true_eq] at h1
  obtain ⟨⟨⟨⟨⟨p1, p2⟩, p3⟩, p4⟩, p5⟩, p6⟩ := h1
  exact ⟨p1, p2, p3, p4, p5, (right_e p1).1, p6⟩
theorem holds_c {h : List (List Int)} {x n : Int} (h1 : 0 ≤ x) (h2 : x < h.length) : holds h x n = (h.getD x.toNat []).contains n := by
  simp [holds, h1, h2]

theorem padd_turn (e : Int) (h : List (List Int)) (x n : Int) : padd e h x n = rturn e h x n true := by
  unfold padd rturn
  by_cases h1 : may e h x n = false
  · rw [if_pos h1, if_pos h1]
  · rw [if_neg h1, if_neg h1]
    obtain ⟨p1, p2, p3, p4, p5, p6, p7⟩ := may_p (by simpa using h1)
    obtain ⟨y, rfl⟩ : ∃ y : Nat, x = y := ⟨x.toNat, by omega⟩
    have hy : y < h.length := by omega
    have hgd : h.getD y [] = h[y] := by simp [List.getD_eq_getElem?_getD, List.getElem?_eq_getElem hy]
    rw [holds_c p2 p3]
    simp only [Int.toNat_natCast, hgd, Bool.true_and, Bool.not_true, Bool.false_and]
    by_cases hc : h[y].contains n = true
    · rw [if_pos hc, if_pos hc]
    · rw [if_neg hc, if_neg hc]
      simp only [Bool.false_eq_true, if_false]
      rw [rows_set p1 hy, trow_add (row_in (right_row' p1 (List.getElem_mem hy)).1) ⟨p4, p5⟩ (by simpa using hc)]
theorem pret_turn (e : Int) (h : List (List Int)) (x n : Int) : pret e h x n = rturn e h x n false := by
  unfold pret rturn
  by_cases h1 : may e h x n = false
  · rw [if_pos h1, if_pos h1]
  · rw [if_neg h1, if_neg h1]
    obtain ⟨p1, p2, p3, p4, p5, p6, p7⟩ := may_p (by simpa using h1)
    obtain ⟨y, rfl⟩ : ∃ y : Nat, x = y := ⟨x.toNat, by omega⟩
    have hy : y < h.length := by omega
    have hgd : h.getD y [] = h[y] := by simp [List.getD_eq_getElem?_getD, List.getElem?_eq_getElem hy]
    rw [holds_c p2 p3]
    simp only [Int.toNat_natCast, hgd, Bool.false_and, Bool.not_false, Bool.true_and]
    by_cases hc : h[y].contains n = true
    · simp only [hc]
      by_cases hl : h[y].length = 1
      · simp [hl]
      · have hl' : (h[y].length == 1) = false := by simpa using hl
        simp only [hl, hl']
        rw [rows_set p1 hy, trow_del _ (row_in (right_row' p1 (List.getElem_mem hy)).1) n (n14 p4 p5)]
        simp
    · have hc : h[y].contains n = false := by simpa using hc
      simp only [hc]
      simp
end Go.Proofs.YtbocnaoihepjfaaGreat.Pv
end

section
/- Plain facts of maps: what is turned, and what is not. -/
namespace Go.Proofs.YtbocnaoihepjfaaGreat.Pv
open Go Go.Pev

def nw (r : List Int) (n : Int) (add : Bool) : List Int := trow (tst r true n add) 4 1
theorem nw_in : ∀ r ∈ subs, ∀ n ∈ ([1, 2, 3, 4] : List Int), ∀ add : Bool, nw r n add ∈ subs := by decide
theorem nw_has4 : ∀ r ∈ subs, ∀ n ∈ ([1, 2, 3, 4] : List Int), ∀ add : Bool, ∀ m ∈ ([1, 2, 3, 4] : List Int), (nw r n add).contains m = if m == n then add else r.contains m := by decide
theorem subs_14 : ∀ r ∈ subs, ∀ m ∈ r, m ∈ ([1, 2, 3, 4] : List Int) := by decide
theorem nw_ne : ∀ r ∈ subs, ∀ n ∈ ([1, 2, 3, 4] : List Int), ∀ add : Bool, (add = false → r.contains n = true ∧ r.length ≠ 1) → nw r n add ≠ [] := by decide
theorem subs_up : ∀ r ∈ subs, rowUp 0 r = true := by decide
theorem nw_has {r : List Int} (hr : r ∈ subs) {n : Int} (h1 : 1 ≤ n) (h2 : n ≤ 4) (add : Bool) (m : Int) : (nw r n add).contains m = if m == n then add else r.contains m := by
  by_cases hm : m ∈ ([1, 2, 3, 4] : List Int)
  · exact nw_has4 r hr n (n14 h1 h2) add m hm
  · have e1 : (nw r n add).contains m = false := by
      rw [Bool.eq_false_iff]; intro h
      exact hm (subs_14 _ (nw_in r hr n (n14 h1 h2) add) m (by simpa using h))
    have e2 : r.contains m = false := by
      rw [Bool.eq_false_iff]; intro h
      exact hm (subs_14 _ hr m (by simpa using h))
    have e3 : (m == n) = false := by
      rw [Bool.eq_false_iff]; intro h
      exact hm (by rw [eq_of_beq h]; exact n14 h1 h2)
    rw [e1, e2, e3]; rfl

theorem rturn_cases (e : Int) (h : List (List Int)) (x n : Int) (add : Bool) : (∃ t : Int, t ≠ 0 ∧ rturn e h x n add = (e, h, t)) ∨
    (∃ (y : Nat) (hy : y < h.length), x = y ∧ right e h = true ∧ 1 ≤ n ∧ n ≤ 4 ∧ e < 2147483647 ∧ h[y].contains n = !add ∧ (add = false → h[y].length ≠ 1) ∧ rturn e h x n add = (e + 1, h.set y (nw h[y] n add), 0)) := by
  unfold rturn
  by_cases h1 : may e h x n = false
  · rw [if_pos h1]; exact .inl ⟨1, by omega, rfl⟩
  · rw [if_neg h1]
    obtain ⟨p1, p2, p3, p4, p5, p6, p7⟩ := may_p (by simpa using h1)
    obtain ⟨y, rfl⟩ : ∃ y : Nat, x = y := ⟨x.toNat, by omega⟩
    have hy : y < h.length := by omega
    have hgd : h.getD y [] = h[y] := by simp [List.getD_eq_getElem?_getD, List.getElem?_eq_getElem hy]
    simp only [Int.toNat_natCast, hgd]
    rw [rows_set p1 hy]
    cases add with
    | true =>
      by_cases hc : h[y].contains n = true
      · simp only [hc, Bool.and_self, if_true]; exact .inl ⟨5, by omega, rfl⟩
      · have hc : h[y].contains n = false := by simpa using hc
        simp only [hc]
        exact .inr ⟨y, hy, rfl, p1, p4, p5, p7, by rw [hc]; rfl, by simp, rfl⟩
    | false =>
      by_cases hc : h[y].contains n = true
      · by_cases hl : h[y].length = 1
        · simp only [hc, hl]; exact .inl ⟨7, by omega, rfl⟩
        · have hl' : (h[y].length == 1) = false := by simpa using hl
          simp only [hc, hl']
          exact .inr ⟨y, hy, rfl, p1, p4, p5, p7, by rw [hc]; rfl, fun _ => hl, rfl⟩
      · have hc : h[y].contains n = false := by simpa using hc
        simp only [hc]; exact .inl ⟨4, by omega, rfl⟩

theorem right_set {e : Int} {h : List (List Int)} (hr : right e h = true) (he : e < 2147483647) {y : Nat} {r : List Int} (h1 : r ∈ subs) (h2 : r ≠ []) : right (e + 1) (h.set y r) = true := by
  have h0 := right_e hr
  simp only [right, Bool.and_eq_true, List.all_eq_true, decide_eq_true_eq] at hr ⊢
  refine ⟨⟨by omega, by omega, by simp; omega⟩, fun z hz => ?_⟩
  rcases List.mem_or_eq_of_mem_set hz with hz | rfl
  · exact hr.2 z hz
  · exact ⟨subs_up _ h1, by simpa using h2⟩
theorem holds_at {h : List (List Int)} {y : Nat} (hy : y < h.length) (m : Int) : holds h y m = h[y].contains m := by
  rw [holds_c (by omega) (by omega)]
  simp [List.getD_eq_getElem?_getD, List.getElem?_eq_getElem hy]

/-- What a turn that is done makes. -/
theorem rturn_done {e : Int} {h : List (List Int)} {x n : Int} {add : Bool} (ht : (rturn e h x n add).2.2 = 0) : (rturn e h x n add).1 = e + 1 ∧ right (e + 1) (rturn e h x n add).2.1 = true ∧ holds (rturn e h x n add).2.1 x n = add ∧ holds h x n = !add := by
  rcases rturn_cases e h x n add with ⟨t, h0, h1⟩ | ⟨y, hy, rfl, h1, h2, h3, h4, h5, h6, h7⟩
  · rw [h1] at ht; exact absurd ht h0
  · rw [h7]
    have hin := row_in (right_row' h1 (List.getElem_mem hy)).1
    refine ⟨rfl, right_set h1 h4 (nw_in _ hin n (n14 h2 h3) add) (nw_ne _ hin n (n14 h2 h3) add fun ha => ⟨by rw [h5, ha]; rfl, h6 ha⟩), ?_, by rw [holds_at hy, h5]⟩
    rw [holds_at (by simpa using hy)]
    simp only [List.getElem_set_self]
    rw [nw_has hin h2 h3]; simp
theorem rturn_not {e : Int} {h : List (List Int)} {x n : Int} {add : Bool} (ht : (rturn e h x n add).2.2 ≠ 0) : (rturn e h x n add).1 = e ∧ (rturn e h x n add).2.1 = h := by
  rcases rturn_cases e h x n add with ⟨t, h0, h1⟩ | ⟨y, hy, rfl, h1, h2, h3, h4, h5, h6, h7⟩
  · rw [h1]; exact ⟨rfl, rfl⟩
  · rw [h7] at ht; exact absurd rfl ht
end Go.Proofs.YtbocnaoihepjfaaGreat.Pv
end

section
/- What holds of a fleet, whatever is done with it: plain laws. -/
namespace Go.Proofs.YtbocnaoihepjfaaGreat.Pv
open Go Go.Pev

theorem partsA_uniq : ∀ (cs : List Cho) (ss : List (Int × Int)) (t : Nat), ∀ p ∈ partsA t cs ss, ∀ q ∈ partsA t cs ss, p.token = q.token → p.rank = q.rank → p = q
  | [], _, t, p, h => by simp [partsA] at h
  | c :: cs, [], t, p, h => by simp [partsA] at h
  | c :: cs, s :: ss, t, p, hp => by
    intro q hq ht hr
    simp only [partsA, List.mem_append] at hp hq
    have a0 : ∀ z, z ∈ pt0 t c s.1 → z = ⟨t, 0, c.first, c.w1⟩ := by
      intro z hz; unfold pt0 at hz
      split at hz
      · simpa using hz
      · simp at hz
    have a1 : ∀ z, z ∈ pt1 t c s.2 → z = ⟨t, 1, c.second, c.w2⟩ := by
      intro z hz; unfold pt1 at hz
      split at hz
      · simpa using hz
      · simp at hz
    have a2 : ∀ z, z ∈ partsA (t + 1) cs ss → (t : Int) + 1 ≤ z.token := by
      intro z hz
      have := (partsA_in _ _ _ z hz).1
      omega
    rcases hp with (hp | hp) | hp <;> rcases hq with (hq | hq) | hq
    · rw [a0 _ hp, a0 _ hq]
    · rw [a0 _ hp, a1 _ hq] at hr; simp at hr
    · have := a2 _ hq; rw [a0 _ hp] at ht; simp only at ht; omega
    · rw [a1 _ hp, a0 _ hq] at hr; simp at hr
    · rw [a1 _ hp, a1 _ hq]
    · have := a2 _ hq; rw [a1 _ hp] at ht; simp only at ht; omega
    · have := a2 _ hp; rw [a0 _ hq] at ht; simp only at ht; omega
    · have := a2 _ hp; rw [a1 _ hq] at ht; simp only at ht; omega
    · exact partsA_uniq cs ss (t + 1) p hp q hq ht hr
def ptsN (m : Mod) (ts : List (List Int)) (n : Nat) : List Pt := partsP (layAt m n) (tokN m ts n)
def ansN (m : Mod) (ts : List (List Int)) (n : Nat) (p : Pt) : List Int := ansW (layAt m n) (tokN m ts n) p
theorem pts_uniq {m : Mod} {ts : List (List Int)} {n : Nat} {p q : Pt} (hp : p ∈ ptsN m ts n) (hq : q ∈ ptsN m ts n) (ht : p.token = q.token) (hr : p.rank = q.rank) : p = q := partsA_uniq _ _ _ p hp q hq ht hr
structure Setup (m : Mod) (ts : List (List Int)) (n0 : Nat) : Prop where
  dim : 1 ≤ m.dim ∧ m.dim ≤ 8
  nl : 1 ≤ m.lays.length ∧ m.lays.length ≤ 4
  lays : ∀ l ∈ m.lays, layRight l m.dim = true
  wide : Wide m.dim ts
  nt : 1 ≤ ts.length ∧ ts.length ≤ 16
  exps : ∀ l ∈ m.lays, l.exps.length ≤ n0
theorem setup_of {m : Mod} {pe : Int} {ph ts : List (List Int)} (h : newOk m pe ph ts = true) : Setup m ts ph.length ∧ right pe ph = true := by
  simp only [newOk, modRight, tokRight, Bool.and_eq_true, decide_eq_true_eq, List.all_eq_true, Bool.not_eq_true', decide_eq_false_iff_not] at h
  obtain ⟨⟨⟨⟨⟨⟨⟨d1, d2⟩, d3⟩, d4⟩, d5⟩, ⟨⟨t1, t2⟩, t3⟩⟩, hr⟩, h4⟩ := h
  exact ⟨⟨⟨d1, d2⟩, ⟨d3, d4⟩, d5, t3, ⟨t1, t2⟩, fun l hl => by have := h4 l hl; omega⟩, hr⟩
variable {m : Mod} {ts : List (List Int)} {n0 : Nat}
theorem Setup.lay (h : Setup m ts n0) {n : Nat} (hn : n < m.lays.length) : layAt m n = m.lays[n] ∧ layRight (layAt m n) m.dim = true ∧ (layAt m n).exps.length ≤ n0 := by
  have e : layAt m n = m.lays[n] := by simp [layAt, List.getD_eq_getElem?_getD, hn]
  rw [e]
  exact ⟨rfl, h.lays _ (List.getElem_mem hn), h.exps _ (List.getElem_mem hn)⟩
theorem Setup.tok (h : Setup m ts n0) {n : Nat} (hn : n ≤ m.lays.length) : (tokN m ts n).length = ts.length ∧ Wide m.dim (tokN m ts n) := tokN_ok h.lays h.wide n hn
theorem Setup.pts (h : Setup m ts n0) {n : Nat} (hn : n < m.lays.length) {p : Pt} (hp : p ∈ ptsN m ts n) : (0 ≤ p.token ∧ p.token < ts.length) ∧ (0 ≤ p.rank ∧ p.rank ≤ 1) ∧ 0 ≤ p.expert ∧ p.expert < (layAt m n).exps.length := by
  have h1 := partsP_in p hp
  have h2 := partsP_exp p hp
  rw [(h.tok (by omega)).1] at h1
  exact ⟨⟨h1.1, h1.2.1⟩, h1.2.2, h2⟩
theorem Setup.few (h : Setup m ts n0) {n : Nat} (hn : n < m.lays.length) : 1 ≤ (ptsN m ts n).length ∧ (ptsN m ts n).length ≤ 32 := by
  have h1 := partsP_len (layAt m n) (tokN m ts n)
  rw [(h.tok (by omega)).1] at h1
  have h2 := parts_ne (m := m) (ts := tokN m ts n) (h.lay hn).2.1 (by rw [(h.tok (by omega)).1]; exact h.nt.1)
  have := h.nt.2
  refine ⟨?_, by unfold ptsN; omega⟩
  exact List.length_pos_iff.2 h2
theorem okS_held {v : List Int} (h : heldRow v = true) : v.all okS = true := by
  rw [heldRow_iff] at h
  rw [List.all_eq_true]
  intro n hn
  have := held_in (h n hn)
  simp only [okS, Bool.and_eq_true, decide_eq_true_eq]
  omega
theorem scores_held (rows : List (List Int)) (v : List Int) : heldRow (scoresP rows v) = true := by
  rw [heldRow_iff]
  intro n hn
  simp only [scoresP, List.mem_map] at hn
  obtain ⟨l, -, rfl⟩ := hn
  exact hold_id (dot_in l v 0 (by omega))
theorem Setup.vec (h : Setup m ts n0) {n : Nat} (hn : n < m.lays.length) {p : Pt} (hp : p ∈ ptsN m ts n) : (((tokN m ts n).getD p.token.toNat []).length : Int) = m.dim ∧ heldRow ((tokN m ts n).getD p.token.toNat []) = true := by
  obtain ⟨⟨p1, p2⟩, -⟩ := h.pts hn hp
  obtain ⟨k1, k2⟩ := h.tok (n := n) (by omega)
  exact wide_get k2 (by omega)
theorem Setup.ans (h : Setup m ts n0) {n : Nat} (hn : n < m.lays.length) {p : Pt} (hp : p ∈ ptsN m ts n) : ((ansN m ts n p).length : Int) = m.dim ∧ heldRow (ansN m ts n p) = true := by
  obtain ⟨-, -, p3, p4⟩ := h.pts hn hp
  exact ⟨(exR_run (layR_exp (h.lay hn).2.1 p3 p4) (h.vec hn hp).1).2, scores_held _ _⟩
/-- What a message is, of a part. -/
def Kin (m : Mod) (ts : List (List Int)) (a : Msg) (n : Nat) (p : Pt) : Prop := a.batch = 1 ∧ a.layer = n ∧ a.token = p.token ∧ a.rank = p.rank ∧ a.expert = p.expert ∧ ((a.kind = 1 ∧ a.fr = 0 ∧ (1 ≤ a.to ∧ a.to ≤ 4) ∧ a.vec = (tokN m ts n).getD p.token.toNat []) ∨ (a.kind = 2 ∧ a.to = 0 ∧ a.vec = ansN m ts n p) ∨ (a.kind = 3 ∧ a.to = 0))
def Good (m : Mod) (ts : List (List Int)) (s : List UInt8) : Prop := ∃ a n p, s = putB a ∧ wrightM a = true ∧ n < m.lays.length ∧ p ∈ ptsN m ts n ∧ Kin m ts a n p
def GoodE (m : Mod) (ts : List (List Int)) (e : Ent) : Prop := ∃ n p, n < m.lays.length ∧ p ∈ ptsN m ts n ∧ e.key = ⟨1, (n : Int), p.token, p.rank⟩ ∧ e.vec = ansN m ts n p
structure Inv0 (m : Mod) (ts : List (List Int)) (n0 : Nat) (F : Flt) : Prop where
  mo : F.m = m
  at_ : F.at_ ≤ m.lays.length
  toks : F.toks = tokN m ts F.at_
  parts : F.at_ < m.lays.length → F.parts = ptsN m ts F.at_
  lens : F.at_ < m.lays.length → F.ans.length = F.parts.length ∧ F.answd.length = F.parts.length
  ans : F.at_ < m.lays.length → ∀ (i : Nat) (hi : i < F.parts.length), F.answd.getD i false = true → F.ans.getD i [] = ansN m ts F.at_ F.parts[i]
  bag : ∀ s ∈ F.bag, Good m ts s
  full : F.bag.length ≤ 200
  led : ∀ l ∈ F.led, (∀ e ∈ l, GoodE m ts e) ∧ (l.map (·.key)).Nodup
  led0 : F.led.length = 5 ∧ F.led.getD 0 [] = []
  right : right F.pe F.ph = true ∧ F.ph.length = n0
def Settled (m : Mod) (F : Flt) : Prop := F.at_ < m.lays.length → false ∈ F.answd
theorem Inv0.bagged {F : Flt} (h : Inv0 m ts n0 F) {b : List (List UInt8)} (h1 : ∀ s ∈ b, Good m ts s) (h2 : b.length ≤ 200) : Inv0 m ts n0 { F with bag := b } := ⟨h.mo, h.at_, h.toks, h.parts, h.lens, h.ans, h1, h2, h.led, h.led0, h.right⟩
theorem sendB_is {b : List (List UInt8)} {a : Msg} : sendB b a = b ∨ (wrightM a = true ∧ b.length < 200 ∧ sendB b a = b ++ [putB a]) := by
  unfold sendB bagPut
  split
  · rename_i h
    split
    · rename_i h2; exact .inr ⟨h, h2, rfl⟩
    · exact .inl rfl
  · exact .inl rfl
theorem sendB_good {b : List (List UInt8)} {a : Msg} (hb : ∀ s ∈ b, Good m ts s) (h2 : b.length ≤ 200) {n : Nat} {p : Pt} (hn : n < m.lays.length) (hp : p ∈ ptsN m ts n) (hk : Kin m ts a n p) : (∀ s ∈ sendB b a, Good m ts s) ∧ (sendB b a).length ≤ 200 := by
  rcases sendB_is (b := b) (a := a) with e | ⟨e1, e2, e⟩
  · rw [e]; exact ⟨hb, h2⟩
  · rw [e]
    refine ⟨fun s hs => ?_, by simp; omega⟩
    rcases List.mem_append.1 hs with hs | hs
    · exact hb s hs
    · rw [List.mem_singleton] at hs
      exact ⟨a, n, p, hs, e1, hn, hp, hk⟩
/-- The holder that is picked. -/
theorem pick_in {pe : Int} {ph : List (List Int)} (hr : right pe ph = true) {x key : Int} (h0 : 0 ≤ x) (h1 : x < ph.length) (hk : 0 ≤ key) : (1 ≤ (ppick pe ph x key).1 ∧ (ppick pe ph x key).1 ≤ 4) ∧ holds ph x (ppick pe ph x key).1 = true := by
  have hxl : x.toNat < ph.length := by omega
  have hg : ph.getD x.toNat [] = ph[x.toNat] := by simp [List.getD_eq_getElem?_getD, hxl]
  obtain ⟨u1, u2⟩ := right_row' hr (List.getElem_mem hxl)
  have hpos : 0 < ph[x.toNat].length := List.length_pos_iff.2 u2
  have e : (ppick pe ph x key).1 = ph[x.toNat].getD (key.toNat % ph[x.toNat].length) 0 := by
    unfold ppick
    rw [if_pos ⟨hr, h0, h1, hk⟩]
    simp only [hg]
  have hlt : key.toNat % ph[x.toNat].length < ph[x.toNat].length := Nat.mod_lt _ hpos
  have hmem : (ppick pe ph x key).1 ∈ ph[x.toNat] := by
    rw [e]
    have : ph[x.toNat].getD (key.toNat % ph[x.toNat].length) 0 = ph[x.toNat][key.toNat % ph[x.toNat].length] := by simp [List.getD_eq_getElem?_getD, hlt]
    rw [this]
    exact List.getElem_mem hlt
  have h4 := (rowUp_is u1).mem hmem
  refine ⟨by simp at h4; omega, ?_⟩
  unfold holds
  rw [hg, decide_eq_true (show 0 ≤ x ∧ x < ph.length from ⟨h0, h1⟩)]
  simp only [Bool.true_and, List.contains_iff_mem]
  exact hmem
theorem ask_kin {F : Flt} (hS : Setup m ts n0) (h : Inv0 m ts n0 F) (hc : F.at_ < m.lays.length) {p : Pt} (hp : p ∈ ptsN m ts F.at_) : wrightM (askM F p) = true ∧ Kin m ts (askM F p) F.at_ p ∧ holds F.ph p.expert (askM F p).to = true ∧ (askM F p).kind = 1 ∧ (askM F p).epoch = F.pe := by
  obtain ⟨⟨p1, p2⟩, ⟨p3, p4⟩, p5, p6⟩ := hS.pts hc hp
  have hx := (hS.lay hc).2.2
  have hr := h.right
  have hpk := pick_in hr.1 (x := p.expert) (key := p.token + p.rank) p5 (by omega) (by omega)
  have hv := hS.vec hc hp
  have he := right_e hr.1
  have hd := hS.dim
  have hnt := hS.nt
  have hnl := hS.nl
  have evec : (askM F p).vec = (tokN m ts F.at_).getD p.token.toNat [] := by unfold askM; rw [h.toks]
  refine ⟨?_, ⟨rfl, rfl, rfl, rfl, rfl, .inl ⟨rfl, rfl, hpk.1, evec⟩⟩, hpk.2, rfl, rfl⟩
  have h1 : (nums (askM F p)).all okN = true := by
    obtain ⟨⟨k1, k2⟩, -⟩ := hpk
    simp only [nums, askM, okN, List.all_cons, List.all_nil, Bool.and_eq_true, decide_eq_true_eq]
    refine ⟨?_, ?_, ?_, ?_, ?_, ?_, ?_, ?_, ?_, ?_, trivial⟩ <;> omega
  have h4 : (askM F p).kind = 1 := rfl
  unfold wrightM
  rw [h1, evec, okS_held hv.2, h4, decide_eq_true (show ((tokN m ts F.at_).getD p.token.toNat []).length ≤ 8 by omega)]
  rfl
theorem askL_good {F : Flt} (hS : Setup m ts n0) (h : Inv0 m ts n0 F) (hc : F.at_ < m.lays.length) : ∀ (l : List (Pt × Bool)) (b : List (List UInt8)), (∀ x ∈ l, x.1 ∈ ptsN m ts F.at_) → (∀ s ∈ b, Good m ts s) → b.length ≤ 200 → (∀ s ∈ askL F l b, Good m ts s) ∧ (askL F l b).length ≤ 200
  | [], b, _, hb, h2 => ⟨hb, h2⟩
  | x :: r, b, hx, hb, h2 => by
    unfold askL
    have hxp := hx x (by simp)
    have hs := sendB_good (a := askM F x.1) hb h2 hc hxp (ask_kin hS h hc hxp).2.1
    split
    · exact askL_good hS h hc r b (fun y hy => hx y (by simp [hy])) hb h2
    · exact askL_good hS h hc r _ (fun y hy => hx y (by simp [hy])) hs.1 hs.2
theorem inv_ask {F : Flt} (hS : Setup m ts n0) (h : Inv0 m ts n0 F) : Inv0 m ts n0 (askP F) := by
  unfold askP
  split
  · rename_i hc
    rw [h.mo] at hc
    have hp := h.parts hc
    obtain ⟨k1, k2⟩ := askL_good hS h hc (F.parts.zip F.answd) F.bag (fun x hx => by
      have := (List.of_mem_zip (a := x.1) (b := x.2) hx).1
      rwa [hp] at this) h.bag h.full
    exact h.bagged k1 k2
  · exact h
theorem settled_ask {F : Flt} (h : Settled m F) : Settled m (askP F) := by
  obtain ⟨e1, e2, -, -, -, -, -, -, e9⟩ := askP_m F
  unfold Settled
  rw [e2, e9]; exact h
/-- All answered: on by a layer. -/
theorem inv_step {F : Flt} (hS : Setup m ts n0) (h : Inv0 m ts n0 F) (hc : F.at_ < m.lays.length) (hf : ¬ false ∈ F.answd) : Inv0 m ts n0 (stepP F) ∧ Settled m (stepP F) ∧ (stepP F).at_ = F.at_ + 1 := by
  have hp := h.parts hc
  obtain ⟨l1, l2⟩ := h.lens hc
  have hans : F.ans = (ptsN m ts F.at_).map (ansN m ts F.at_) := by
    apply List.ext_getElem
    · rw [l1, hp]; simp
    · intro i h1 h2
      have hi : i < F.parts.length := by omega
      have hb : F.answd.getD i false = true := by
        have hlt : i < F.answd.length := by omega
        have e : F.answd.getD i false = F.answd[i] := by simp [List.getD_eq_getElem?_getD, hlt]
        rw [e]
        cases hx : F.answd[i] with
        | true => rfl
        | false => exact absurd (hx ▸ List.getElem_mem hlt) hf
      have := h.ans hc i hi hb
      have e : F.ans.getD i [] = F.ans[i] := by simp [List.getD_eq_getElem?_getD, h1]
      rw [e] at this
      rw [this]
      simp only [List.getElem_map, hp]
  have htk : (onP F).toks = tokN m ts (F.at_ + 1) := by
    simp only [onP, hp, hans, h.toks, tokN, nextP]
    rfl
  unfold stepP beginP
  by_cases c : F.at_ + 1 < m.lays.length
  · rw [if_pos (by simp only [onP, h.mo]; exact c)]
    have hN : Inv0 m ts n0 (newP (onP F)) := by
      have eP : (newP (onP F)).parts = ptsN m ts (F.at_ + 1) := by
        simp only [newP, htk, ptsN]
        simp only [onP, h.mo]
      have eL : (newP (onP F)).answd = List.replicate (newP (onP F)).parts.length false := rfl
      refine ⟨h.mo, Nat.le_of_lt c, htk, fun _ => eP, fun _ => ⟨by simp [newP], by simp [newP]⟩, fun _ i hi hb => ?_, h.bag, h.full, h.led, h.led0, h.right⟩
      rw [eL] at hb
      simp [List.getD_eq_getElem?_getD, hi] at hb
    have hSt : Settled m (newP (onP F)) := fun _ => by
      have eP : (newP (onP F)).parts = ptsN m ts (F.at_ + 1) := by
        simp only [newP, htk, ptsN]
        simp only [onP, h.mo]
      have eL : (newP (onP F)).answd = List.replicate (newP (onP F)).parts.length false := rfl
      rw [eL, eP]
      exact List.mem_replicate.2 ⟨by have := (hS.few c).1; omega, rfl⟩
    exact ⟨inv_ask hS hN, settled_ask hSt, (askP_m _).2.1⟩
  · rw [if_neg (by simp only [onP, h.mo]; exact c)]
    have hz : ∀ {X : Prop}, (onP F).at_ < m.lays.length → X := fun hx => absurd hx c
    exact ⟨⟨h.mo, hc, htk, hz, hz, hz, h.bag, h.full, h.led, h.led0, h.right⟩, hz, rfl⟩
theorem inv_come {F : Flt} (hS : Setup m ts n0) : ∀ (k : Nat) {F : Flt}, Inv0 m ts n0 F → m.lays.length - F.at_ ≤ k → Inv0 m ts n0 (comeN k F) ∧ Settled m (comeN k F) ∧ F.at_ ≤ (comeN k F).at_
  | 0, F, h, hk => ⟨h, fun hc => by exfalso; have : F.at_ < m.lays.length := hc; omega, Nat.le_refl _⟩
  | k + 1, F, h, hk => by
    unfold comeN
    by_cases c : F.at_ < F.m.lays.length ∧ ¬ false ∈ F.answd
    · rw [if_pos c]
      obtain ⟨c1, c2⟩ := c
      rw [h.mo] at c1
      obtain ⟨s1, s2, s3⟩ := inv_step hS h c1 c2
      obtain ⟨i1, i2, i3⟩ := inv_come (F := F) hS k s1 (by omega)
      exact ⟨i1, i2, by omega⟩
    · rw [if_neg c]
      refine ⟨h, fun hc => ?_, Nat.le_refl _⟩
      rw [h.mo] at c
      by_cases hf : false ∈ F.answd
      · exact hf
      · exact absurd ⟨hc, hf⟩ c
theorem inv_comeP {F : Flt} (hS : Setup m ts n0) (h : Inv0 m ts n0 F) : Inv0 m ts n0 (comeP F) ∧ Settled m (comeP F) ∧ F.at_ ≤ (comeP F).at_ := by
  unfold comeP
  exact inv_come (F := F) hS _ h (by rw [h.mo]; omega)
/-! ### what is done -/
theorem take_bag {b : List (List UInt8)} {i : Int} : (∀ s ∈ (bagTake b i).2.1, s ∈ b) ∧ (bagTake b i).2.1.length ≤ b.length ∧ ((bagTake b i).2.2 = true → (bagTake b i).1 ∈ b) := by
  unfold bagTake
  split
  · rename_i hc
    refine ⟨fun s hs => ?_, by simp; omega, fun _ => ?_⟩
    · rcases List.mem_append.1 hs with hs | hs
      · exact List.mem_of_mem_take hs
      · exact List.mem_of_mem_drop hs
    · have hlt : i.toNat < b.length := by omega
      have e : b.getD i.toNat [] = b[i.toNat] := by simp [List.getD_eq_getElem?_getD, hlt]
      rw [e]
      exact List.getElem_mem hlt
  · exact ⟨fun s hs => hs, Nat.le_refl _, fun h => by cases h⟩
theorem find_none {l : List Ent} {k : LKey} (h : (findP l k).2 = false) : ¬ k ∈ l.map (·.key) := by
  unfold findP at h
  split at h
  · rename_i hc
    rw [fidx_neg] at hc
    intro hm
    obtain ⟨e, he, hk⟩ := List.mem_map.1 hm
    rw [List.any_eq_false] at hc
    exact hc e he (by simp [atKey, hk])
  · cases h
theorem fidx_hit {α : Type} (p : α → Bool) : ∀ (l : List α) (i : Nat), fidx p l = i → ∃ h : i < l.length, p l[i] = true := by
  intro l
  induction l with
  | nil => intro i h; simp [fidx] at h
  | cons x r ih =>
    intro i h
    unfold fidx at h
    split at h
    · rename_i hx
      have : i = 0 := by omega
      subst this
      exact ⟨by simp, hx⟩
    · split at h
      · omega
      · rename_i h2
        obtain ⟨j, rfl⟩ : ∃ j, i = j + 1 := ⟨i - 1, by omega⟩
        obtain ⟨hj, hp⟩ := ih j (by omega)
        exact ⟨by simp; omega, hp⟩
theorem find_some {l : List Ent} {k : LKey} (h : (findP l k).2 = true) : ∃ e ∈ l, e.key = k ∧ (findP l k).1 = e.vec := by
  unfold findP at h ⊢
  split
  · rename_i hc; rw [if_pos hc] at h; cases h
  · rename_i hc
    obtain ⟨i, hi⟩ : ∃ i : Nat, fidx (atKey k) l = i := ⟨(fidx (atKey k) l).toNat, by omega⟩
    obtain ⟨h1, h2⟩ := fidx_hit _ _ _ hi
    rw [hi]
    have e : l.getD ((i : Int)).toNat ent0 = l[i] := by simp [List.getD_eq_getElem?_getD, h1]
    refine ⟨l[i], List.getElem_mem h1, by simpa [atKey] using h2, by simp only [e]⟩
end Go.Proofs.YtbocnaoihepjfaaGreat.Pv
end

section
/- What holds of a fleet, whatever is done with it: act by act. -/
namespace Go.Proofs.YtbocnaoihepjfaaGreat.Pv
open Go Go.Pev
variable {m : Mod} {ts : List (List Int)} {n0 : Nat}

theorem key_kin {a : Msg} {n : Nat} {p : Pt} (hk : Kin m ts a n p) : keyOf a = ⟨1, (n : Int), p.token, p.rank⟩ := by
  obtain ⟨k1, k2, k3, k4, k5, k6⟩ := hk
  unfold keyOf
  rw [k1, k2, k3, k4]
theorem led_at {F : Flt} (h : Inv0 m ts n0 F) {t : Int} (h1 : 1 ≤ t ∧ t ≤ 4) : ledAt F t ∈ F.led := by
  have hlt : t.toNat < F.led.length := by rw [h.led0.1]; omega
  unfold ledAt
  have e : F.led.getD t.toNat [] = F.led[t.toNat] := by simp [List.getD_eq_getElem?_getD, hlt]
  rw [e]; exact List.getElem_mem hlt
/-- What a node works out, or knows. -/
theorem workV_is {F : Flt} (h : Inv0 m ts n0 F) {a : Msg} {n : Nat} {p : Pt} (hp : p ∈ ptsN m ts n) (hk : Kin m ts a n p) (h1 : a.kind = 1) {l : List Ent} (hl : ∀ e ∈ l, GoodE m ts e) : workV F.m l a = ansN m ts n p := by
  unfold workV
  split
  · rename_i hf
    obtain ⟨e, he, e1, e2⟩ := find_some hf
    obtain ⟨n', p', g1, g2, g3, g4⟩ := hl e he
    rw [e2, g4]
    rw [e1, key_kin hk] at g3
    simp only [LKey.mk.injEq] at g3
    obtain ⟨-, q1, q2, q3⟩ := g3
    obtain rfl : n = n' := by omega
    rw [pts_uniq hp g2 q2 q3]
  · obtain ⟨k1, k2, k3, k4, k5, k6⟩ := hk
    rcases k6 with ⟨-, -, -, k9⟩ | ⟨k, -⟩ | ⟨k, -⟩
    · rw [h.mo, k2, k5, k9]; rfl
    · omega
    · omega
theorem node_ok {F : Flt} (h : Inv0 m ts n0 F) {a : Msg} {n : Nat} {p : Pt} (hn : n < m.lays.length) (hp : p ∈ ptsN m ts n) (hk : Kin m ts a n p) (h1 : a.kind = 1) : (∀ e ∈ (nodeP F a).1, GoodE m ts e) ∧ ((nodeP F a).1.map (·.key)).Nodup ∧ ((nodeP F a).2.2 = true → Kin m ts (nodeP F a).2.1 n p) := by
  have hto : (1 ≤ a.to ∧ a.to ≤ 4) ∧ a.fr = 0 := by
    obtain ⟨k1, k2, k3, k4, k5, k6⟩ := hk
    rcases k6 with ⟨-, f, t, -⟩ | ⟨k, -⟩ | ⟨k, -⟩
    · exact ⟨t, f⟩
    · omega
    · omega
  obtain ⟨l1, l2⟩ := h.led _ (led_at h hto.1)
  have hv := workV_is h hp hk h1 l1
  obtain ⟨k1, k2, k3, k4, k5, k6⟩ := hk
  unfold nodeP workP
  split
  · exact ⟨l1, l2, fun hh => by cases hh⟩
  · split
    · exact ⟨l1, l2, fun _ => ⟨k1, k2, k3, k4, k5, .inr (.inr ⟨rfl, hto.2⟩)⟩⟩
    · refine ⟨?_, ?_, fun _ => ⟨k1, k2, k3, k4, k5, .inr (.inl ⟨rfl, hto.2, hv⟩)⟩⟩
      · simp only [workL]
        split
        · exact l1
        · intro e he
          rcases List.mem_append.1 he with he | he
          · exact l1 e he
          · rw [List.mem_singleton] at he
            rw [he]
            exact ⟨n, p, hn, hp, key_kin ⟨k1, k2, k3, k4, k5, k6⟩, hv⟩
      · simp only [workL]
        split
        · exact l2
        · rename_i hf
          have := find_none (by simpa using hf)
          rw [List.map_append, List.nodup_append]
          refine ⟨l2, by simp, ?_⟩
          intro x hx y hy
          simp only [List.map_cons, List.map_nil, List.mem_singleton] at hy
          rintro rfl
          rw [hy] at hx
          exact this hx
theorem inv_work {F : Flt} (hS : Setup m ts n0) (h : Inv0 m ts n0 F) {a : Msg} {n : Nat} {p : Pt} (hn : n < m.lays.length) (hp : p ∈ ptsN m ts n) (hk : Kin m ts a n p) (h1 : a.kind = 1) : Inv0 m ts n0 (workF F a) := by
  obtain ⟨o1, o2, o3⟩ := node_ok h hn hp hk h1
  have hto : 1 ≤ a.to ∧ a.to ≤ 4 := by
    obtain ⟨-, -, -, -, -, k6⟩ := hk
    rcases k6 with ⟨-, f, t, -⟩ | ⟨k, -⟩ | ⟨k, -⟩
    · exact t
    · omega
    · omega
  have hb : (∀ s ∈ (workF F a).bag, Good m ts s) ∧ (workF F a).bag.length ≤ 200 := by
    simp only [workF]
    split
    · rename_i hc
      exact sendB_good h.bag h.full hn hp (o3 hc)
    · exact ⟨h.bag, h.full⟩
  refine ⟨h.mo, h.at_, h.toks, h.parts, h.lens, h.ans, hb.1, hb.2, ?_, ?_, h.right⟩
  · intro l hl
    simp only [workF] at hl
    rcases List.mem_or_eq_of_mem_set hl with hl | rfl
    · exact h.led l hl
    · exact ⟨o1, o2⟩
  · refine ⟨by simp only [workF, List.length_set]; exact h.led0.1, ?_⟩
    have := h.led0.2
    simp only [workF]
    rw [List.getD_eq_getElem?_getD] at this ⊢
    rw [List.getElem?_set_ne (by omega)]
    exact this
theorem inv_set {F : Flt} (hS : Setup m ts n0) (h : Inv0 m ts n0 F) {a : Msg} {n : Nat} {p : Pt} (hn : n < m.lays.length) (hp : p ∈ ptsN m ts n) (hk : Kin m ts a n p) (hc : goodA F a ∧ 0 ≤ fidx (hitP a) F.parts ∧ F.answd.getD (fidx (hitP a) F.parts).toNat true = false) : Inv0 m ts n0 (setP F (fidx (hitP a) F.parts).toNat a.vec) := by
  obtain ⟨⟨g1, g2, g3, g4, g5⟩, c2, c3⟩ := hc
  rw [h.mo] at g5
  obtain ⟨k1, k2, k3, k4, k5, k6⟩ := hk
  have hv : a.vec = ansN m ts n p := by
    rcases k6 with ⟨k, -⟩ | ⟨-, -, k⟩ | ⟨k, -⟩
    · omega
    · exact k
    · omega
  obtain rfl : n = F.at_ := by omega
  obtain ⟨i, hi⟩ : ∃ i : Nat, fidx (hitP a) F.parts = i := ⟨(fidx (hitP a) F.parts).toNat, by omega⟩
  obtain ⟨i1, i2⟩ := fidx_hit _ _ _ hi
  simp only [hitP, Bool.and_eq_true, decide_eq_true_eq] at i2
  have hx : ansN m ts F.at_ F.parts[i] = a.vec := by
    rw [hv]
    unfold ansN ansW
    rw [i2.1.1, i2.2, k3, k5]
  obtain ⟨e1, e2⟩ := h.lens g5
  rw [hi, Int.toNat_natCast]
  refine ⟨h.mo, h.at_, h.toks, h.parts, fun _ => ⟨by simp only [setP, List.length_set]; exact e1, by simp only [setP, List.length_set]; exact e2⟩, fun _ j hj hb => ?_, h.bag, h.full, h.led, h.led0, h.right⟩
  simp only [setP] at hb hj ⊢
  rw [List.getD_eq_getElem?_getD] at hb ⊢
  by_cases hij : i = j
  · subst hij
    rw [List.getElem?_set_self (by omega)]
    exact hx.symm
  · rw [List.getElem?_set_ne hij] at hb ⊢
    have := h.ans g5 j hj (by rw [List.getD_eq_getElem?_getD]; exact hb)
    rw [List.getD_eq_getElem?_getD] at this
    exact this
theorem inv_answer {F : Flt} (hS : Setup m ts n0) (h : Inv0 m ts n0 F) (hs : Settled m F) {a : Msg} {n : Nat} {p : Pt} (hn : n < m.lays.length) (hp : p ∈ ptsN m ts n) (hk : Kin m ts a n p) : Inv0 m ts n0 (answerP F a) ∧ Settled m (answerP F a) ∧ F.at_ ≤ (answerP F a).at_ := by
  unfold answerP
  split
  · rename_i hc
    obtain ⟨q1, q2, q3⟩ := inv_comeP hS (inv_set hS h hn hp hk hc)
    exact ⟨q1, q2, q3⟩
  · exact ⟨h, hs, Nat.le_refl _⟩
theorem inv_got {F : Flt} (hS : Setup m ts n0) (h : Inv0 m ts n0 F) (hs : Settled m F) {s : List UInt8} (hg : Good m ts s) : Inv0 m ts n0 (gotP F s) ∧ Settled m (gotP F s) ∧ F.at_ ≤ (gotP F s).at_ := by
  obtain ⟨a, n, p, rfl, hw, hn, hp, hk⟩ := hg
  unfold gotP
  rw [take_put hw]
  simp only [ne_eq, not_true_eq_false, if_false]
  by_cases h0 : a.to = 0
  · rw [if_pos h0]; exact inv_answer hS h hs hn hp hk
  · rw [if_neg h0]
    have hk1 : a.kind = 1 ∧ a.to ≤ 4 := by
      obtain ⟨-, -, -, -, -, k6⟩ := hk
      rcases k6 with ⟨k, f, t, -⟩ | ⟨-, k, -⟩ | ⟨-, k⟩
      · exact ⟨k, t.2⟩
      · exact absurd k h0
      · exact absurd k h0
    rw [if_pos hk1.2]
    exact ⟨inv_work hS h hn hp hk hk1.1, hs, Nat.le_refl _⟩
theorem inv_delv {F : Flt} (hS : Setup m ts n0) (h : Inv0 m ts n0 F) (hs : Settled m F) (i : Int) : Inv0 m ts n0 (delvP F i).1 ∧ Settled m (delvP F i).1 ∧ F.at_ ≤ (delvP F i).1.at_ := by
  unfold delvP
  split
  · rename_i hc
    obtain ⟨t1, t2, t3⟩ := take_bag (b := F.bag) (i := i)
    have := h.full
    exact inv_got hS (h.bagged (fun s hs => h.bag s (t1 s hs)) (by omega)) hs (h.bag _ (t3 hc))
  · exact ⟨h, hs, Nat.le_refl _⟩
theorem inv_drop {F : Flt} (h : Inv0 m ts n0 F) (i : Int) : Inv0 m ts n0 (dropP F i).1 := by
  obtain ⟨t1, t2, t3⟩ := take_bag (b := F.bag) (i := i)
  have := h.full
  exact h.bagged (fun s hs => h.bag s (t1 s hs)) (by omega)
theorem inv_twice {F : Flt} (h : Inv0 m ts n0 F) (i : Int) : Inv0 m ts n0 (twiceP F i).1 := by
  unfold twiceP
  split
  · rename_i hc
    have hlt : i.toNat < F.bag.length := by omega
    have hin : F.bag.getD i.toNat [] ∈ F.bag := by
      have e : F.bag.getD i.toNat [] = F.bag[i.toNat] := by simp [List.getD_eq_getElem?_getD, hlt]
      rw [e]; exact List.getElem_mem hlt
    have hf := h.full
    simp only [bagTwice, if_pos hc, bagPut]
    split
    · refine h.bagged (fun s hs => ?_) (by simp; omega)
      rcases List.mem_append.1 hs with hs | hs
      · exact h.bag s hs
      · rw [List.mem_singleton] at hs; rw [hs]; exact h.bag _ hin
    · exact h
  · exact h
theorem turn_ok {e : Int} {ph : List (List Int)} (hr : right e ph = true) (x n : Int) (add : Bool) : right (rturn e ph x n add).1 (rturn e ph x n add).2.1 = true ∧ (rturn e ph x n add).2.1.length = ph.length := by
  have hl : (rturn e ph x n add).2.1.length = ph.length := by
    rcases rturn_cases e ph x n add with ⟨t, h0, h1⟩ | ⟨y, hy, rfl, h1, h2, h3, h4, h5, h6, h7⟩
    · rw [h1]
    · rw [h7]; simp
  by_cases ht : (rturn e ph x n add).2.2 = 0
  · obtain ⟨h1, h2, -⟩ := rturn_done ht
    rw [h1]; exact ⟨h2, hl⟩
  · obtain ⟨h1, h2⟩ := rturn_not ht
    rw [h1, h2]; exact ⟨hr, rfl⟩
theorem inv_add {F : Flt} (h : Inv0 m ts n0 F) (x n : Int) : Inv0 m ts n0 (addP F x n).1 := by
  have := turn_ok h.right.1 x n true
  unfold addP
  rw [padd_turn]
  exact ⟨h.mo, h.at_, h.toks, h.parts, h.lens, h.ans, h.bag, h.full, h.led, h.led0, ⟨this.1, by rw [← h.right.2]; exact this.2⟩⟩
theorem inv_ret {F : Flt} (h : Inv0 m ts n0 F) (x n : Int) : Inv0 m ts n0 (retP F x n).1 := by
  have := turn_ok h.right.1 x n false
  unfold retP
  rw [pret_turn]
  exact ⟨h.mo, h.at_, h.toks, h.parts, h.lens, h.ans, h.bag, h.full, h.led, h.led0, ⟨this.1, by rw [← h.right.2]; exact this.2⟩⟩
def Inv (m : Mod) (ts : List (List Int)) (n0 : Nat) (F : Flt) : Prop := Inv0 m ts n0 F ∧ Settled m F
theorem inv_do {F : Flt} (hS : Setup m ts n0) (h : Inv m ts n0 F) (a : Act) : Inv m ts n0 (doP F a) := by
  obtain ⟨h, hs⟩ := h
  unfold doP doAt
  split
  · exact ⟨inv_ask hS h, settled_ask hs⟩
  · split
    · obtain ⟨a, b, -⟩ := inv_delv hS h hs (whichP F a); exact ⟨a, b⟩
    · split
      · exact ⟨inv_drop h _, hs⟩
      · split
        · refine ⟨inv_twice h _, ?_⟩
          unfold twiceP; split <;> exact hs
        · split
          · exact ⟨inv_add h _ _, hs⟩
          · exact ⟨inv_ret h _ _, hs⟩
theorem inv_start {pe : Int} {ph : List (List Int)} (h : newOk m pe ph ts = true) : Inv m ts ph.length (startF m pe ph ts) := by
  obtain ⟨hS, hr⟩ := setup_of h
  have hz : 0 < m.lays.length := by have := hS.nl; omega
  have hN : Inv0 m ts ph.length (newP (newF m pe ph ts)) := by
    have eL : (newP (newF m pe ph ts)).answd = List.replicate (newP (newF m pe ph ts)).parts.length false := rfl
    refine ⟨rfl, Nat.zero_le _, rfl, fun _ => rfl, fun _ => ⟨by simp [newP], by simp [newP]⟩, fun _ i hi hb => ?_, by simp [newP, newF], by simp [newP, newF], by simp [newP, newF], ⟨rfl, rfl⟩, ⟨hr, rfl⟩⟩
    rw [eL] at hb
    simp [List.getD_eq_getElem?_getD, hi] at hb
  rw [start_is h]
  refine ⟨inv_ask hS hN, settled_ask fun _ => ?_⟩
  have eL : (newP (newF m pe ph ts)).answd = List.replicate (ptsN m ts 0).length false := rfl
  rw [eL]
  exact List.mem_replicate.2 ⟨by have := (hS.few hz).1; omega, rfl⟩
/-- What is told at the end. -/
theorem inv_done {F : Flt} (h : Inv m ts n0 F) : doneP F = if F.at_ < m.lays.length then ([], false) else (tokN m ts m.lays.length, true) := by
  unfold doneP
  rw [h.1.mo]
  split
  · rfl
  · rename_i hc
    have := h.1.at_
    have e : F.at_ = m.lays.length := by omega
    rw [h.1.toks, e]
end Go.Proofs.YtbocnaoihepjfaaGreat.Pv
end

section
/- What the document's Same of the layer 2 tells. -/
namespace Go.Proofs.YtbocnaoihepjfaaGreat.Pv
open Go Go.Pev
theorem same_loop (a b : List Int) (hl : a.length ≤ 1000000) (hab : a.length = b.length) : ∀ (k i ck : Nat), i + k = a.length → ∃ c, evL cfg (.loop f55l0) ⟨[(0, .t (il a)), (1, .t (il b)), (5, iv i)], [], ck⟩ =
    some (if a.drop i = b.drop i then (.exit 0, ⟨[(0, .t (il a)), (1, .t (il b)), (5, iv a.length), (14, bv false)], [], c⟩) else (.ret, ⟨[(4, bv false)], [], c⟩)) := by
  intro k
  induction k with
  | zero =>
    intro i ck h
    obtain rfl : i = a.length := by omega
    refine ⟨ck + 1, ?_⟩
    have h1 : a.drop a.length = b.drop a.length := by rw [List.drop_length, hab, List.drop_length]
    rw [evL_loop, if_pos h1]
    simp [f55l0e]
  | succ k ih =>
    intro i ck h
    have hi : i < a.length := by omega
    have hi' : i < b.length := by omega
    have h1 : a.drop i = b.drop i ↔ a[i] = b[i] ∧ a.drop (i + 1) = b.drop (i + 1) := by
      rw [List.drop_eq_getElem_cons hi, List.drop_eq_getElem_cons hi', List.cons.injEq]
    by_cases hx : a[i] = b[i]
    · obtain ⟨c, hc⟩ := ih (i + 1) (ck + 3) (by omega)
      refine ⟨c, ?_⟩
      rw [evL_loop_n (s1 := ⟨[(0, .t (il a)), (1, .t (il b)), (5, iv ((i + 1 : Nat) : Int))], [], ck + 3⟩), hc]
      · simp only [h1, hx, true_and]
      · have hw : IntKind.i64.wrap ((i : Int) + 1) = (i : Int) + 1 := wrap_id (by omega) (by omega)
        simp [f55l0e, hi, hi', hx, hw]
    · refine ⟨ck + 3, ?_⟩
      have hb : (a[i] != b[i]) = true := by simp [hx]
      rw [evL_loop, if_neg (fun h => hx (h1.1 h).1)]
      simp [f55l0e, hi, hi', hb]

theorem same_ret (a b : List Int) (hl : a.length ≤ 1000000) : RetT cfg 55 [.t (il a), .t (il b)] (bv (decide (a = b))) := by
  refine RetT.of ?_
  rw [runL_pf (fn := f55) rfl rfl]
  by_cases hab : a.length = b.length
  · obtain ⟨c, hc⟩ := same_loop a b hl hab a.length 0 3 (by omega)
    simp only [List.drop_zero] at hc
    by_cases hx : a = b
    · subst hx
      simp at hc
      simp [hc]
    · rw [if_neg hx] at hc
      simp [hab] at hc
      simp [hab, hx, hc]
  · have h1 : ¬ a = b := fun e => hab (by rw [e])
    have hb : ((a.length : Int) != (b.length : Int)) = true := by simp; omega
    simp [hb, h1]

end Go.Proofs.YtbocnaoihepjfaaGreat.Pv
end

section
/- What the document's Same of the layer 15 tells. -/
namespace Go.Proofs.YtbocnaoihepjfaaGreat.Pv
open Go Go.Pev
theorem same15_loop (a b : List (List Int)) (hl : a.length ≤ 1000000) (hr : ∀ r ∈ a, r.length ≤ 1000000) (hab : a.length = b.length) : ∀ (k i ck : Nat), i + k = a.length → ∃ c, evL cfg (.loop f22l0) ⟨[(0, .t (gl a)), (1, .t (gl b)), (5, iv i)], [], ck⟩ =
    some (if a.drop i = b.drop i then (.exit 0, ⟨[(0, .t (gl a)), (1, .t (gl b)), (5, iv a.length), (14, bv false)], [], c⟩) else (.ret, ⟨[(4, bv false)], [], c⟩)) := by
  intro k
  induction k with
  | zero =>
    intro i ck h
    obtain rfl : i = a.length := by omega
    refine ⟨ck + 1, ?_⟩
    rw [evL_loop]
    simp [f22l0e, gl, hab]
  | succ k ih =>
    intro i ck h
    have hi : i < a.length := by omega
    have hib : i < b.length := by omega
    have hw : IntKind.i64.wrap ((i : Int) + 1) = (i : Int) + 1 := wrap_id (by omega) (by omega)
    have hs := fun hp => callQ_tr (C := cfg) (same_ret a[i] b[i] (hr _ (List.getElem_mem hi))) rfl hp
    simp only [il, bv] at hs
    have hd : (a.drop i = b.drop i) = (a[i] = b[i] ∧ a.drop (i + 1) = b.drop (i + 1)) := by
      rw [List.drop_eq_getElem_cons hi, List.drop_eq_getElem_cons hib]; simp only [List.cons.injEq]
    simp only [hd]
    by_cases hx : a[i] = b[i]
    · obtain ⟨c, hc⟩ := ih (i + 1) (ck + 3) (by omega)
      refine ⟨c, ?_⟩
      rw [evL_loop_n (s1 := ⟨[(0, .t (gl a)), (1, .t (gl b)), (5, iv ((i + 1 : Nat) : Int))], [], ck + 3⟩), hc]
      · simp [hx]
      · rw [hx] at hs
        simp [f22l0e, gl, hi, hib, hs, hx, hw]
    · refine ⟨ck + 3, ?_⟩
      rw [evL_loop]
      simp [f22l0e, gl, hi, hib, hs, hx]

theorem same15_ret (a b : List (List Int)) (hl : a.length ≤ 1000000) (hr : ∀ r ∈ a, r.length ≤ 1000000) : RetT cfg 22 [.t (gl a), .t (gl b)] (bv (decide (a = b))) := by
  refine RetT.of ?_
  rw [runL_pf (fn := f22) rfl rfl]
  by_cases hab : a.length = b.length
  · obtain ⟨c, hc⟩ := same15_loop a b hl hr hab a.length 0 3 (by omega)
    simp only [List.drop_zero, gl] at hc
    by_cases hx : a = b
    · subst hx
      simp at hc
      simp [gl, hc]
    · rw [if_neg hx] at hc
      simp [hab] at hc
      simp [gl, hab, hx, hc]
  · have h1 : ¬ a = b := fun e => hab (by rw [e])
    have hb : ((a.length : Int) != (b.length : Int)) = true := by simp; omega
    simp [gl, h1, hb]
end Go.Proofs.YtbocnaoihepjfaaGreat.Pv
end

section
/- FleetTrue, reckoned. -/
set_option maxRecDepth 100000
namespace Go.Proofs.YtbocnaoihepjfaaGreat.Pv
open Go Go.Pev
variable {N n0 : Nat} {m : Mod} {ts : List (List Int)}

theorem same_row_t {a b : List (List Int)} {kd1 : Key} {t1 : Nat} {f1 : Bool} (hl : a.length ≤ 1000000) (hr : ∀ r ∈ a, r.length ≤ 1000000) (s : St) (k : Key) (g1 : s.hp.get kd1 = some (.row t1 1 (a.map fun r => [il r]) f1)) : callEv cfg (runL cfg) 22 [.ow kd1 1 0 a.length, .t (gl b)] s k = some (bv (decide (a = b)), s.hp, s.ck) := by
  refine callEv_t rfl rfl ?_ (same15_ret a b hl hr) (.inl rfl)
  simp [puresOf, pureOf, treeOf, g1, gl, il]
  exact List.take_of_length_le (by simp)
theorem doneP_few {F : Flt} (hO : Ok N F) : (doneP F).1.length ≤ 1000000 ∧ ∀ r ∈ (doneP F).1, r.length ≤ 1000000 := by
  unfold doneP
  split
  · simp
  · exact ⟨hO.f0.toks.1, hO.f0.toks.2⟩
end Go.Proofs.YtbocnaoihepjfaaGreat.Pv
end

section
/- FleetTrue, whole. -/
set_option maxRecDepth 100000
namespace Go.Proofs.YtbocnaoihepjfaaGreat.Pv
open Go Go.Pev
variable {N n0 : Nat}

end Go.Proofs.YtbocnaoihepjfaaGreat.Pv
end
