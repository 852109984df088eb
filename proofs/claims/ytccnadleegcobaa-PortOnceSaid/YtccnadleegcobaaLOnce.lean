/- PortOnce, reckoned: the loops of tell and deliver. -/
import Derived.Test.YtccnadleegcobaaSNet3
import Derived.Test.YtccnadleegcobaaOnceP2
set_option linter.unusedVariables false
set_option linter.unusedSimpArgs false
set_option maxRecDepth 10000
namespace Go.Proofs.Ytccnadleegcobaa.Pv
open Go Go.Pev

theorem dP_len (n : Int) : (dP n).length ≤ 11 := by
  have := packR_len (kind := 68) (seq := n) (t := txt n)
  rw [txt_len] at this
  exact this
theorem aP_len (n : Int) : (aP n).length ≤ 9 := by
  have := packR_len (kind := 65) (seq := n) (t := [])
  simpa [aP] using this
theorem NI.nb {w : Net} (h : NI w) : NB w := by
  have hm := h.many
  have hq := q_len h
  obtain ⟨w1, w2, w3, w4, w5⟩ := h.win
  refine ⟨⟨by omega, by rw [h.low0]; exact ⟨by omega, by omega⟩, by rw [h.seen0]; simp, by rw [h.seen0]; simp⟩, ⟨by rw [h.bq]; simp, ⟨by omega, by omega⟩, by omega, fun n hn => by have := w4 n hn; exact ⟨by omega, by omega⟩⟩, by have := h.tlen; omega, by have := h.blen; omega, fun s hs => ?_, fun s hs => ?_, h.glen, fun n hn => ?_, fun f hf => ?_, hm⟩
  · obtain ⟨n, _, _, rfl⟩ := h.there s hs
    have := dP_len n; omega
  · obtain ⟨n, _, _, rfl, _⟩ := h.back s hs
    have := aP_len n; omega
  · obtain ⟨i, hi, rfl⟩ := List.getElem_of_mem hn
    have hi2 : i < 256 := by rw [← h.glen]; exact hi
    have := ni_got h hi2
    have e : w.got.getD i 0 = w.got[i] := by simp [List.getD_eq_getElem?_getD, hi]
    rw [e] at this
    exact ⟨this.2.2, by omega⟩
  · rw [(h.q f hf).1, txt_len]; omega

/-- The net's cells: a slice may be nil where it is empty. -/
def Cells (cs : List V) (w : Net) : Prop := ∃ x1 x3 x5 x7 x8 x9, cs = .t (.i .i64 w.a.next) :: x1 :: .t (.i .i64 w.a.low) :: x3 :: .t (.i .i64 w.b.next) :: x5 :: .t (.i .i64 w.b.low) :: x7 :: x8 :: x9 :: ((w.got.map fun n => V.t (.i .i64 n)) ++ [.t (.i .i64 w.sent)]) ∧
  Nv (fl w.a.q) x1 ∧ Nv (il w.a.seen) x3 ∧ Nv (fl w.b.q) x5 ∧ Nv (il w.b.seen) x7 ∧ Nv (sl w.there) x8 ∧ Nv (sl w.back) x9
theorem cells_L (w : Net) : Cells (netL w) w := ⟨_, _, _, _, _, _, rfl, .inl rfl, .inl rfl, .inl rfl, .inl rfl, .inl rfl, .inl rfl⟩
theorem cells_Z : Cells (netZ zero256) net0 := by
  refine ⟨.nl, .nl, .nl, .nl, .nl, .nl, ?_, .inr ⟨rfl, rfl⟩, .inr ⟨rfl, rfl⟩, .inr ⟨rfl, rfl⟩, .inr ⟨rfl, rfl⟩, .inr ⟨rfl, rfl⟩, .inr ⟨rfl, rfl⟩⟩
  unfold netZ zero256
  show _ = _ :: _ :: _ :: _ :: _ :: _ :: _ :: _ :: _ :: _ :: (((List.replicate 256 0).map fun n => V.t (.i .i64 n)) ++ _)
  rw [List.map_replicate]; rfl
theorem nv_tree {t : T} {v : V} (h : Nv t v) (hp : HP) : treeOf hp v = some t ∧ keysOf1 hp v = [] := by
  rcases h with rfl | ⟨rfl, rfl⟩ <;> exact ⟨rfl, rfl⟩
theorem cells_trees {cs : List V} {w : Net} (h : Cells cs w) (hp : HP) : treesOf hp cs = treesOf hp (netL w) ∧ cs.flatMap (keysOf1 hp) = [] ∧ (w.got.length = 256 → cs.length = 267) := by
  obtain ⟨x1, x3, x5, x7, x8, x9, rfl, h1, h3, h5, h7, h8, h9⟩ := h
  have g1 := nv_tree h1 hp
  have g3 := nv_tree h3 hp
  have g5 := nv_tree h5 hp
  have g7 := nv_tree h7 hp
  have g8 := nv_tree h8 hp
  have g9 := nv_tree h9 hp
  refine ⟨?_, ?_, fun hg => by simp [hg]⟩
  · unfold netL netC
    have ht : ∀ x, treeOf hp (.t x) = some x := fun _ => rfl
    simp only [treesOf, ht, g1.1, g3.1, g5.1, g7.1, g8.1, g9.1]
  · have := netL_keys hp w
    unfold netL netC at this
    simp only [List.flatMap_cons, g1.2, g3.2, g5.2, g7.2, g8.2, g9.2] at this ⊢
    simp [keysOf1]
theorem cells_pure {cs : List V} {w : Net} (h : Cells cs w) (hp : HP) (r rs : List V) (hr : puresOf hp r = some rs) : puresOf hp (.ag cs :: r) = some (.ag (netL w) :: rs) := by
  have := netL_pure hp w r rs hr
  simp only [puresOf, pureOf, (cells_trees h hp).1] at this ⊢
  exact this
theorem tell_x {cs : List V} {w : Net} (h : Cells cs w) (i : Nat) (hi : i < 1000) (hb : NB w) (s : St) (k : Key) : callEv cfg (runL cfg) 5 [.ag cs, .t (.i .i64 (i : Int))] s k = some (.ag (netL (tellN w i)), s.hp, s.ck) :=
  callEv_t rfl rfl (cells_pure h s.hp _ _ rfl) (tell_ret w i hi hb) (.inr (by simp [keysOf, (cells_trees h s.hp).2.1]))
theorem deliver_x {cs : List V} {w : Net} (h : Cells cs w) (i : Nat) (tw : Bool) (hi : i < 1000) (hb : NB w) (s : St) (k : Key) : callEv cfg (runL cfg) 7 [.ag cs, .t (.i .i64 (i : Int)), .t (.b tw)] s k = some (.ag (netL (delivN w i tw)), s.hp, s.ck) :=
  callEv_t rfl rfl (cells_pure h s.hp _ _ rfl) (deliver_ret w i tw hi hb) (.inr (by simp [keysOf, (cells_trees h s.hp).2.1]))
theorem act_x {cs : List V} {w : Net} (h : Cells cs w) (kind i : Nat) (hk : kind < 7) (hi : i < 1000) (hb : NB w) (hp : HP) : callQ (runL cfg) 4 [.ag cs, .t (.i .i64 (kind : Int)), .t (.i .i64 (i : Int))] hp = some (.ag (netL (actN w kind i))) := by
  refine callQ_t (cells_pure h hp _ _ rfl) ?_ (.inr (by simp [keysOf, (cells_trees h hp).2.1]))
  by_cases hh : kind = 1 ∨ kind = 2 ∨ kind = 4
  · exact act_far w kind i hh hi hb
  · exact act_near w kind i (by omega) hi hb
theorem nv_len {l : List (List UInt8)} {v : V} (h : Nv (sl l) v) : len v = some (.t (.i .i64 l.length)) := by
  rcases h with rfl | ⟨rfl, e⟩
  · simp [sl, slc]
  · have : l = [] := by
      unfold sl slc at e
      exact List.map_eq_nil_iff.1 (T.l.inj e)
    rw [this]; rfl
theorem nv_lenf {l : List Fr} {v : V} (h : Nv (fl l) v) : len v = some (.t (.i .i64 l.length)) := by
  rcases h with rfl | ⟨rfl, e⟩
  · simp [fl]
  · have : l = [] := by
      unfold fl at e
      exact List.map_eq_nil_iff.1 (T.l.inj e)
    rw [this]; rfl
theorem cells_9 {cs : List V} {w : Net} (h : Cells cs w) : ∃ x9 r, List.drop 9 cs = x9 :: r ∧ len x9 = some (.t (.i .i64 w.back.length)) := by
  obtain ⟨x1, x3, x5, x7, x8, x9, rfl, h1, h3, h5, h7, h8, h9⟩ := h
  exact ⟨x9, _, rfl, nv_len h9⟩
theorem cells_8 {cs : List V} {w : Net} (h : Cells cs w) : ∃ x8 r, List.drop 8 cs = x8 :: r ∧ len x8 = some (.t (.i .i64 w.there.length)) := by
  obtain ⟨x1, x3, x5, x7, x8, x9, rfl, h1, h3, h5, h7, h8, h9⟩ := h
  exact ⟨x8, _, rfl, nv_len h8⟩
theorem actN_got {w : Net} (h : NI w) (k i : Nat) : (actN w k i).got.length = 256 := (ni_act h k i).glen

abbrev NB1 (cs : List V) : HP := [(⟨3, 1, 0⟩, .box 34 cs)]
def tellQ (n a b : Nat) (w : Net) (E : Option (Ex × St)) : Prop := ∃ e c cs, E = some (.exit n, ⟨(3, .pt ⟨3, 1, 0⟩ 267 0 0) :: e, NB1 cs, c⟩) ∧ Cells cs w ∧ NI w
theorem tell_l2 : ∀ (k j ck : Nat) (w : Net) (cs : List V), j + k = 800 → NI w → Cells cs w → tellQ 4 6 64 (tellAll k w) (evL cfg (.loop f3l2) ⟨[(3, .pt ⟨3, 1, 0⟩ 267 0 0), (6, iv j)], NB1 cs, ck⟩) := by
  intro k
  induction k with
  | zero =>
    intro j ck w cs hj hn hc
    obtain rfl : j = 800 := by omega
    refine ⟨[(6, iv 800), (64, bv false)], ck + 1, cs, ?_, hc, hn⟩
    rw [evL_loop]
    simp [f3l2e]
  | succ k ih =>
    intro j ck w cs hj hn hc
    have hj8 : (j : Int) < 800 := by omega
    obtain ⟨x9, r9, d9, l9⟩ := cells_9 hc
    have hcl := (cells_trees hc []).2.2 hn.glen
    have hw : IntKind.i64.wrap ((j : Int) + 1) = (j : Int) + 1 := wrap_id (by omega) (by omega)
    unfold tellAll
    by_cases hb : w.back = []
    · rw [if_pos hb]
      refine ⟨[(6, iv j), (64, bv false)], ck + 1, cs, ?_, hc, hn⟩
      rw [hb] at l9
      rw [evL_loop]
      simp [f3l2e, hj8, d9, l9]
    · rw [if_neg hb]
      have hpos : (0 : Int) < (w.back.length : Int) := by have := List.length_pos_iff.2 hb; omega
      have hposN := List.length_pos_iff.2 hb
      have hT := fun s k => tell_x hc 0 (by omega) hn.nb s k
      simp only [Int.natCast_zero] at hT
      have htk : List.take 267 cs = cs := List.take_of_length_le (by omega)
      have hTn := (ni_tell hn 0).1
      have hTl : (netL (tellN w 0)).length = 267 := netL_len hTn.glen
      have hov : over cs 0 (netL (tellN w 0)) = netL (tellN w 0) := over_all _ _ (by omega)
      have := ih (j + 1) (ck + 3) (tellN w 0) (netL (tellN w 0)) (by omega) hTn (cells_L _)
      rw [evL_loop_n (s1 := ⟨[(3, .pt ⟨3, 1, 0⟩ 267 0 0), (6, iv ((j + 1 : Nat) : Int))], NB1 (netL (tellN w 0)), ck + 3⟩)]
      · exact this
      · simp [f3l2e, hj8, d9, l9, hposN, hT, htk, hcl, hTl, hov, hw]
theorem tell_l4 : ∀ (k j ck : Nat) (w : Net) (cs : List V), j + k = 800 → NI w → Cells cs w → tellQ 8 8 92 (tellAll k w) (evL cfg (.loop f3l4) ⟨[(3, .pt ⟨3, 1, 0⟩ 267 0 0), (8, iv j)], NB1 cs, ck⟩) := by
  intro k
  induction k with
  | zero =>
    intro j ck w cs hj hn hc
    obtain rfl : j = 800 := by omega
    refine ⟨[(8, iv 800), (92, bv false)], ck + 1, cs, ?_, hc, hn⟩
    rw [evL_loop]
    simp [f3l4e]
  | succ k ih =>
    intro j ck w cs hj hn hc
    have hj8 : (j : Int) < 800 := by omega
    obtain ⟨x9, r9, d9, l9⟩ := cells_9 hc
    have hcl := (cells_trees hc []).2.2 hn.glen
    have hw : IntKind.i64.wrap ((j : Int) + 1) = (j : Int) + 1 := wrap_id (by omega) (by omega)
    unfold tellAll
    by_cases hb : w.back = []
    · rw [if_pos hb]
      refine ⟨[(8, iv j), (92, bv false)], ck + 1, cs, ?_, hc, hn⟩
      rw [hb] at l9
      rw [evL_loop]
      simp [f3l4e, hj8, d9, l9]
    · rw [if_neg hb]
      have hpos : (0 : Int) < (w.back.length : Int) := by have := List.length_pos_iff.2 hb; omega
      have hposN := List.length_pos_iff.2 hb
      have hT := fun s k => tell_x hc 0 (by omega) hn.nb s k
      simp only [Int.natCast_zero] at hT
      have htk : List.take 267 cs = cs := List.take_of_length_le (by omega)
      have hTn := (ni_tell hn 0).1
      have hTl : (netL (tellN w 0)).length = 267 := netL_len hTn.glen
      have hov : over cs 0 (netL (tellN w 0)) = netL (tellN w 0) := over_all _ _ (by omega)
      have := ih (j + 1) (ck + 3) (tellN w 0) (netL (tellN w 0)) (by omega) hTn (cells_L _)
      rw [evL_loop_n (s1 := ⟨[(3, .pt ⟨3, 1, 0⟩ 267 0 0), (8, iv ((j + 1 : Nat) : Int))], NB1 (netL (tellN w 0)), ck + 3⟩)]
      · exact this
      · simp [f3l4e, hj8, d9, l9, hposN, hT, htk, hcl, hTl, hov, hw]
theorem del_l3 : ∀ (k j ck : Nat) (w : Net) (cs : List V), j + k = 400 → NI w → Cells cs w → tellQ 6 7 80 (delAll k w) (evL cfg (.loop f3l3) ⟨[(3, .pt ⟨3, 1, 0⟩ 267 0 0), (7, iv j)], NB1 cs, ck⟩) := by
  intro k
  induction k with
  | zero =>
    intro j ck w cs hj hn hc
    obtain rfl : j = 400 := by omega
    refine ⟨[(7, iv 400), (80, bv false)], ck + 1, cs, ?_, hc, hn⟩
    rw [evL_loop]
    simp [f3l3e]
  | succ k ih =>
    intro j ck w cs hj hn hc
    have hj8 : (j : Int) < 400 := by omega
    obtain ⟨x9, r9, d9, l9⟩ := cells_8 hc
    have hcl := (cells_trees hc []).2.2 hn.glen
    have hw : IntKind.i64.wrap ((j : Int) + 1) = (j : Int) + 1 := wrap_id (by omega) (by omega)
    unfold delAll
    by_cases hb : w.there = []
    · rw [if_pos hb]
      refine ⟨[(7, iv j), (80, bv false)], ck + 1, cs, ?_, hc, hn⟩
      rw [hb] at l9
      rw [evL_loop]
      simp [f3l3e, hj8, d9, l9]
    · rw [if_neg hb]
      have hpos : (0 : Int) < (w.there.length : Int) := by have := List.length_pos_iff.2 hb; omega
      have hposN := List.length_pos_iff.2 hb
      have hT := fun s k => deliver_x hc 0 false (by omega) hn.nb s k
      simp only [Int.natCast_zero] at hT
      have htk : List.take 267 cs = cs := List.take_of_length_le (by omega)
      have hTn := (ni_deliv hn 0 false).1
      have hTl : (netL (delivN w 0 false)).length = 267 := netL_len hTn.glen
      have hov : over cs 0 (netL (delivN w 0 false)) = netL (delivN w 0 false) := over_all _ _ (by omega)
      have := ih (j + 1) (ck + 3) (delivN w 0 false) (netL (delivN w 0 false)) (by omega) hTn (cells_L _)
      rw [evL_loop_n (s1 := ⟨[(3, .pt ⟨3, 1, 0⟩ 267 0 0), (7, iv ((j + 1 : Nat) : Int))], NB1 (netL (delivN w 0 false)), ck + 3⟩)]
      · exact this
      · simp [f3l3e, hj8, d9, l9, hposN, hT, htk, hcl, hTl, hov, hw]
end Go.Proofs.Ytccnadleegcobaa.Pv
