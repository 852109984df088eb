/- What move.Piece tells. -/
import Derived.Test.YthkehbdljckbdaaSMove
set_option linter.unusedVariables false
set_option linter.unusedSimpArgs false
namespace Go.Proofs.Ythkehbdljckbdaa.Pv
open Go Go.Pev

def pieceP (m : Mv) (i : Int) (s : List UInt8) : Mv × Int :=
  if m.p ≠ 1 ∨ m.has.length ≠ m.got.length ∨ i < 0 ∨ (m.has.length : Int) ≤ i then (m, 1)
  else if m.has.getD i.toNat false = true then (m, 5)
  else if (m.has.set i.toNat true).contains false = true then ({ m with has := m.has.set i.toNat true, got := m.got.set i.toNat s }, 0)
  else if crcI (m.got.set i.toNat s).flatten ≠ m.s then ({ m with p := 4, has := m.has.set i.toNat true, got := m.got.set i.toNat s }, 9)
  else ({ m with p := 2, has := m.has.set i.toNat true, got := m.got.set i.toNat s }, 0)
def pieV (r : Mv × Int) : V := .tu [mvV r.1, iv r.2]

theorem flat_len {b : Nat} : ∀ (l : List (List UInt8)), (∀ y ∈ l, y.length ≤ b) → l.flatten.length ≤ l.length * b
  | [], _ => by simp
  | y :: l, h => by
    have h1 := h y List.mem_cons_self
    have h2 := flat_len l fun z hz => h z (List.mem_cons_of_mem _ hz)
    simp only [List.flatten_cons, List.length_append, List.length_cons, Nat.add_mul, Nat.one_mul]
    omega
theorem cloneb_ret (xs : List (List T)) (h : ∀ c ∈ xs, c.length = 1) (hl : xs.length ≤ 1000000) : RetO cfg 53 [.t (.l xs)] 4 1 xs := by
  refine ⟨⟨0, 0, 0⟩, [(⟨0, 0, 0⟩, .row 4 1 xs false)], 9, ?_, by simp [HP.get]⟩
  rw [runL_ex (p := cloneP 4 1 1) rfl]
  unfold cloneP
  have h1 : (xs.all fun c => c.length == 1) = true := List.all_eq_true.2 fun c hc => by simpa using h c hc
  have h2 : xs.length * 1 ≤ 140737488355328 := by omega
  simp only [h1, h2]
  simp
theorem clones_ret (xs : List (List T)) (h : ∀ c ∈ xs, c.length = 1) (hl : xs.length ≤ 1000000) : RetO cfg 54 [.t (.l xs)] 9 1 xs := by
  refine ⟨⟨0, 0, 0⟩, [(⟨0, 0, 0⟩, .row 9 1 xs false)], 9, ?_, by simp [HP.get]⟩
  rw [runL_ex (p := cloneP 9 1 16) rfl]
  unfold cloneP
  have h1 : (xs.all fun c => c.length == 1) = true := List.all_eq_true.2 fun c hc => by simpa using h c hc
  have h2 : xs.length * 16 ≤ 140737488355328 := by omega
  simp only [h1, h2]
  simp

set_option maxHeartbeats 8000000 in
theorem piece_ret (m : Mv) (i : Int) (s : List UInt8) (hh : m.has.length ≤ 1000) (hg : m.got.length ≤ 1000) (hy : ∀ y ∈ m.got, y.length ≤ 900) (hs : s.length ≤ 900) : RetT cfg 35 [mvV m, iv i, .t (.s s)] (pieV (pieceP m i s)) := by
  obtain ⟨x, f, t, p, sm, has, got⟩ := m
  simp only at hh hg hy
  unfold RetT
  rw [runL_pf (fn := f35) rfl rfl]
  unfold pieceP
  by_cases h1 : p = 1
  case neg =>
    rw [if_pos (.inl h1)]
    have d1 : (p != 1) = true := by simpa using h1
    simp [mvV, bl, sl, d1, over]
    refine ⟨_, _, ⟨rfl, rfl⟩, ?_⟩
    simp [pieV, mvV, resOf, resOfs, resOf1, treesOf, treeOf, bl, sl]
  subst h1
  by_cases h2 : has.length = got.length
  case neg =>
    rw [if_pos (.inr (.inl h2))]
    have d2 : ((has.length : Int) != (got.length : Int)) = true := by simp; omega
    simp [mvV, bl, sl, d2, over]
    refine ⟨_, _, ⟨rfl, rfl⟩, ?_⟩
    simp [pieV, mvV, resOf, resOfs, resOf1, treesOf, treeOf, bl, sl]
  by_cases h3 : i < 0
  · rw [if_pos (.inr (.inr (.inl h3)))]
    simp [mvV, bl, sl, h2, h3, over]
    refine ⟨_, _, ⟨rfl, rfl⟩, ?_⟩
    simp [pieV, mvV, resOf, resOfs, resOf1, treesOf, treeOf, bl, sl]
  have d3 : decide (i < 0) = false := decide_eq_false h3
  by_cases h4 : (has.length : Int) ≤ i
  · rw [if_pos (.inr (.inr (.inr h4)))]
    have h4' : (got.length : Int) ≤ i := by omega
    simp [mvV, bl, sl, h2, d3, h4', over]
    refine ⟨_, _, ⟨rfl, rfl⟩, ?_⟩
    simp [pieV, mvV, resOf, resOfs, resOf1, treesOf, treeOf, bl, sl]
  obtain ⟨j, rfl⟩ : ∃ j : Nat, i = j := ⟨i.toNat, by omega⟩
  have hj : j < has.length := by omega
  have hjg : j < got.length := by omega
  have d4 : decide (has.length ≤ j) = false := decide_eq_false (by omega)
  have d4' : decide (got.length ≤ j) = false := decide_eq_false (by omega)
  rw [if_neg (by simp only [h2]; omega)]
  have hgd : has.getD j false = has[j] := by simp [List.getD_eq_getElem?_getD, List.getElem?_eq_getElem hj]
  simp only [Int.toNat_natCast, hgd]
  by_cases h5 : has[j] = true
  · rw [if_pos h5]
    simp [mvV, bl, sl, h2, d3, hjg, hj, d4', h5, over]
    refine ⟨_, _, ⟨rfl, rfl⟩, ?_⟩
    simp [pieV, mvV, resOf, resOfs, resOf1, treesOf, treeOf, bl, sl]
  rw [if_neg h5]
  have h5 : has[j] = false := by simpa using h5
  have hcb := fun hp k => callO_tr (C := cfg) (cloneb_ret (has.map fun b => [.b b]) (fun c hc => by obtain ⟨b, _, rfl⟩ := List.mem_map.1 hc; rfl) (by simp; omega)) rfl rfl rfl hp k
  have hcs := fun hp k => callO_tr (C := cfg) (clones_ret (got.map fun b => [.s b]) (fun c hc => by obtain ⟨b, _, rfl⟩ := List.mem_map.1 hc; rfl) (by simp; omega)) rfl rfl rfl hp k
  have hsl : (has.set j true).length = has.length := by simp
  have hgl : (got.set j s).length = got.length := by simp
  have hfl : (got.set j s).flatten.length ≤ 1000000 := by
    have := flat_len (b := 900) (got.set j s) (fun y hm => by
      rcases List.mem_or_eq_of_mem_set hm with hm | rfl
      · exact hy y hm
      · exact hs)
    rw [hgl] at this
    omega
  have hcon : ∀ (st : St) (kk : Key), st.hp.get ⟨42, 3, 2⟩ = some (.row 4 1 ((has.set j true).map fun b => [.b b]) false) → callEv cfg (runL cfg) 55 [.ow ⟨42, 3, 2⟩ 1 0 has.length, .t (.b false)] st kk = some (.t (.b ((has.set j true).contains false)), st.hp, st.ck) := fun st kk hg =>
    callEv_ow (C := cfg) (bcontains_ret (has.set j true) false (by omega)) (by simp) rfl rfl rfl rfl st kk hg
  have hjoi : ∀ (hp : HP), hp.get ⟨45, 3, 5⟩ = some (.row 9 1 ((got.set j s).map fun b => [.s b]) false) → callQ (runL cfg) 56 [.ow ⟨45, 3, 5⟩ 1 0 got.length] hp = some (.t (.s (got.set j s).flatten)) := fun hp hg =>
    callQ_t (C := cfg) (ps := [.t (sl (got.set j s))]) (by simp only [puresOf]; rw [pureOf_ow hg (by simp)]; rfl) (cjoin_ret (got.set j s) (by omega) hfl) (.inl rfl)
  have hcrc := fun hp => callQ_tr (C := cfg) (crc_ret (got.set j s).flatten hfl) rfl hp
  simp only [iv, bv, List.length_map] at hcb hcs hcrc
  rw [h2] at hcon
  generalize crcI (got.set j s).flatten = cr at *
  generalize (got.set j s).flatten = fl at *
  by_cases h6 : (has.set j true).contains false = true
  · rw [if_pos h6]
    rw [h6] at hcon
    simp [mvV, bl, sl, h2, d3, hjg, hj, d4', h5, over, hcb, hcs, isBox, isRow, treesC, treesOf, treeOf, keysOf, freezeAll, ← List.map_set, hcon]
    refine ⟨_, _, ⟨rfl, rfl⟩, ?_⟩
    simp [pieV, mvV, resOf, resOfs, resOf1, treesOf, treeOf, bl, sl, List.map_set, h2]
    try exact ⟨List.take_of_length_le (by simp; omega), List.take_of_length_le (by simp)⟩
  · rw [if_neg h6]
    have h6 : (has.set j true).contains false = false := by simpa using h6
    rw [h6] at hcon
    by_cases h7 : cr = sm
    · rw [if_neg (by simp [h7])]
      simp [mvV, bl, sl, h2, d3, hjg, hj, d4', h5, over, hcb, hcs, isBox, isRow, treesC, treesOf, treeOf, keysOf, freezeAll, ← List.map_set, hcon, hjoi, hcrc, h7]
      refine ⟨_, _, ⟨rfl, rfl⟩, ?_⟩
      simp [pieV, mvV, resOf, resOfs, resOf1, treesOf, treeOf, bl, sl, List.map_set, h2]
      try exact ⟨List.take_of_length_le (by simp; omega), List.take_of_length_le (by simp)⟩
    · rw [if_pos h7]
      have h7' : (cr != sm) = true := by simpa using h7
      simp [mvV, bl, sl, h2, d3, hjg, hj, d4', h5, over, hcb, hcs, isBox, isRow, treesC, treesOf, treeOf, keysOf, freezeAll, ← List.map_set, hcon, hjoi, hcrc, h7']
      refine ⟨_, _, ⟨rfl, rfl⟩, ?_⟩
      simp [pieV, mvV, resOf, resOfs, resOf1, treesOf, treeOf, bl, sl, List.map_set, h2]
      try exact ⟨List.take_of_length_le (by simp; omega), List.take_of_length_le (by simp)⟩
end Go.Proofs.Ythkehbdljckbdaa.Pv
