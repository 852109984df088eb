/- Windows: plain words; is a window right? -/
import Derived.Test.YtccnadleegcobaaSContains
import Derived.Test.YtccnadleegcobaaSClone
set_option linter.unusedVariables false
set_option linter.unusedSimpArgs false
namespace Go.Proofs.Ytccnadleegcobaa.Pv
open Go Go.Pev

/-- Numbers that go up, above one, to the last one that may be. -/
def upM : Int → List Int → Bool
  | _, [] => true
  | last, n :: r => decide (last < n) && decide (n ≤ 2147483647) && upM n r
def wright (low : Int) (l : List Int) : Bool := decide (0 ≤ low ∧ low ≤ 2147483647 ∧ l.length ≤ 32) && upM (low - 1) l
theorem upM_at {r : List Int} {j : Nat} (last : Int) (hj : j < r.length) : upM last (r.drop j) = (decide (last < r[j]) && decide (r[j] ≤ 2147483647) && upM r[j] (r.drop (j + 1))) := by
  rw [List.drop_eq_getElem_cons hj]; rfl

theorem wright_loop (r : List Int) (ty : Nat) (bx : List V) (hr : r.length ≤ 1000000) : ∀ (k j : Nat) (last : Int) (ck : Nat), j + k = r.length → ∃ c last', evL cfg (.loop f24l0) ⟨[(1, .pt ⟨1, 0, 0⟩ 2 0 0), (3, iv last), (10, .t (il r)), (11, iv r.length), (12, iv j)], [(⟨1, 0, 0⟩, .box ty bx)], ck⟩ =
    some (if upM last (r.drop j) then (.exit 0, ⟨[(1, .pt ⟨1, 0, 0⟩ 2 0 0), (3, iv last'), (10, .t (il r)), (11, iv r.length), (12, iv r.length), (13, bv false)], [(⟨1, 0, 0⟩, .box ty bx)], c⟩) else (.ret, ⟨[(2, bv false)], [], c⟩)) := by
  intro k
  induction k with
  | zero =>
    intro j last ck h
    obtain rfl : j = r.length := by omega
    refine ⟨ck + 1, last, ?_⟩
    rw [evL_loop]
    simp [f24l0e, upM]
  | succ k ih =>
    intro j last ck h
    have hj : j < r.length := by omega
    have hw : IntKind.i64.wrap ((j : Int) + 1) = (j : Int) + 1 := wrap_id (by omega) (by omega)
    rw [upM_at last hj]
    by_cases h1 : r[j] ≤ last
    · refine ⟨ck + 4, 0, ?_⟩
      have h1' : ¬ last < r[j] := by omega
      rw [evL_loop]
      simp [f24l0e, hj, h1, h1']
    · have h1' : last < r[j] := by omega
      by_cases h2 : 2147483647 < r[j]
      · have h2' : ¬ r[j] ≤ 2147483647 := by omega
        refine ⟨ck + 4, 0, ?_⟩
        rw [evL_loop]
        simp [f24l0e, hj, h1, h1', h2, h2']
      · have h2' : r[j] ≤ 2147483647 := by omega
        obtain ⟨c, last', hc⟩ := ih (j + 1) r[j] (ck + 5) (by omega)
        refine ⟨c, last', ?_⟩
        rw [evL_loop_n (s1 := ⟨[(1, .pt ⟨1, 0, 0⟩ 2 0 0), (3, iv r[j]), (10, .t (il r)), (11, iv r.length), (12, iv ((j + 1 : Nat) : Int))], [(⟨1, 0, 0⟩, .box ty bx)], ck + 5⟩), hc]
        · simp [h1', h2']
        · simp [f24l0e, hj, h1, h2, hw]

theorem wright_ret (low : Int) (l : List Int) (hw : -9223372036854775808 ≤ low ∧ low ≤ 9223372036854775807) (hl : l.length ≤ 1000000) (hn : ∀ n ∈ l, n ≤ 9223372036854775807) : RetT cfg 24 [.ag [iv low, .t (il l)]] (bv (wright low l)) := by
  refine RetT.of ?_
  rw [runL_pf (fn := f24) rfl rfl]
  obtain ⟨c, last', hc⟩ := wright_loop l 28 [iv low, .t (il l)] hl l.length 0 (IntKind.i64.wrap (low - 1)) 3 (by omega)
  simp only [List.drop_zero, il, iv, bv, Int.natCast_zero] at hc
  by_cases h0 : 0 ≤ low
  · have hwr : IntKind.i64.wrap (low - 1) = low - 1 := wrap_id (by omega) (by omega)
    rw [hwr] at hc
    by_cases h1 : upM (low - 1) l = true
    · rw [if_pos h1] at hc
      by_cases h2 : low ≤ 2147483647
      · by_cases h3 : (l.length : Int) ≤ 32
        · have h3' : l.length ≤ 32 := by omega
          simp [hc, hwr, wright, h0, h1, h2, h3, h3']
        · have h3' : ¬ l.length ≤ 32 := by omega
          simp [hc, hwr, wright, h0, h1, h2, h3, h3']
      · simp [hc, hwr, wright, h0, h1, h2]
    · rw [if_neg h1] at hc
      simp [hc, hwr, wright, h1]
  · by_cases h1 : upM (IntKind.i64.wrap (low - 1)) l = true
    · rw [if_pos h1] at hc
      simp [hc, wright, h0]
    · rw [if_neg h1] at hc
      simp [hc, wright, h0]

/-- With one more, in its place. -/
def ins (n : Int) : List Int → List Int
  | [] => [n]
  | x :: r => if n < x then n :: x :: r else x :: ins n r
/-- On, as long as the first one is there. -/
def adv : Int → List Int → Int × List Int
  | low, [] => (low, [])
  | low, x :: r => if x = low then adv (low + 1) r else (low, x :: r)
def over32 (low : Int) (l : List Int) : Int × List Int := if 32 < l.length then (l.getD 0 0 + 1, l.tail) else (low, l)
def acc (low : Int) (l : List Int) (n : Int) : Int × List Int × Bool :=
  if wright low l = true ∧ low ≤ n ∧ n ≤ 2147483647 ∧ ¬ n ∈ l then ((adv (over32 low (ins n l)).1 (over32 low (ins n l)).2).1, (adv (over32 low (ins n l)).1 (over32 low (ins n l)).2).2, true) else (low, l, false)

theorem ins_len (n : Int) : ∀ l, (ins n l).length = l.length + 1
  | [] => rfl
  | x :: r => by
    unfold ins
    split
    · rfl
    · simp [ins_len n r]
theorem ins_perm (n : Int) : ∀ l, (ins n l).Perm (l ++ [n])
  | [] => List.Perm.refl _
  | x :: r => by
    unfold ins
    split
    · exact (List.perm_append_singleton n (x :: r)).symm
    · exact (ins_perm n r).cons x
theorem upM_pair : ∀ (l : List Int) (last : Int), upM last l = true → l.Pairwise (· < ·) ∧ ∀ x ∈ l, last < x ∧ x ≤ 2147483647
  | [], last, _ => ⟨.nil, by simp⟩
  | x :: r, last, h => by
    simp only [upM, Bool.and_eq_true, decide_eq_true_eq] at h
    obtain ⟨⟨h1, h2⟩, h3⟩ := h
    obtain ⟨p1, p2⟩ := upM_pair r x h3
    refine ⟨List.pairwise_cons.2 ⟨fun y hy => (p2 y hy).1, p1⟩, fun y hy => ?_⟩
    rcases List.mem_cons.1 hy with rfl | hy
    · exact ⟨h1, h2⟩
    · have := p2 y hy
      omega
theorem upM_of : ∀ (l : List Int) (last : Int), l.Pairwise (· < ·) → (∀ x ∈ l, last < x ∧ x ≤ 2147483647) → upM last l = true
  | [], _, _, _ => rfl
  | x :: r, last, hp, hm => by
    rw [List.pairwise_cons] at hp
    have := hm x List.mem_cons_self
    simp only [upM, Bool.and_eq_true, decide_eq_true_eq]
    exact ⟨this, upM_of r x hp.2 fun y hy => ⟨hp.1 y hy, (hm y (List.mem_cons_of_mem _ hy)).2⟩⟩
theorem mem_ins {n x : Int} {l : List Int} : x ∈ ins n l ↔ x ∈ l ∨ x = n := by
  rw [(ins_perm n l).mem_iff]; simp
theorem ins_pair {n : Int} : ∀ {l : List Int}, l.Pairwise (· < ·) → ¬ n ∈ l → (ins n l).Pairwise (· < ·)
  | [], _, _ => by simp [ins]
  | x :: r, hp, hn => by
    have hp' := List.pairwise_cons.1 hp
    unfold ins
    split
    · rename_i h
      refine List.pairwise_cons.2 ⟨fun y hy => ?_, hp⟩
      rcases List.mem_cons.1 hy with rfl | hy
      · exact h
      · have := hp'.1 y hy; omega
    · rename_i h
      have hne : n ≠ x := fun e => hn (by rw [e]; exact List.mem_cons_self)
      refine List.pairwise_cons.2 ⟨fun y hy => ?_, ins_pair hp'.2 fun hm => hn (List.mem_cons_of_mem _ hm)⟩
      rcases mem_ins.1 hy with hy | rfl
      · exact hp'.1 y hy
      · omega
theorem srt_ins {n : Int} {l : List Int} (hp : l.Pairwise (· < ·)) (hn : ¬ n ∈ l) : Go.Pev.srt (l ++ [n]) = ins n l := by
  have h1 : (Go.Pev.srt (l ++ [n])).Pairwise (fun a b => decide (a ≤ b) = true) := List.pairwise_mergeSort (by intro a b c h1 h2; simp at *; omega) (by intro a b; simp; omega) _
  have h2 : (Go.Pev.srt (l ++ [n])).Perm (ins n l) := (List.mergeSort_perm _ _).trans (ins_perm n l).symm
  refine h2.eq_of_pairwise (le := fun a b => decide (a ≤ b)) (fun a b _ _ h3 h4 => ?_) h1 ((ins_pair hp hn).imp fun h => ?_)
  · simp at h3 h4; omega
  · simp; omega
end Go.Proofs.Ytccnadleegcobaa.Pv
