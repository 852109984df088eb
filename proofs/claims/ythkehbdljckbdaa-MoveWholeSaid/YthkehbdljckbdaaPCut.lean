/- Texts in pieces, plainly. -/
import Derived.Test.YthkehbdljckbdaaBase
import Derived.Lib.Join
set_option linter.unusedVariables false
set_option linter.unusedSimpArgs false
namespace Go.Proofs.Ythkehbdljckbdaa.Pv
open Go Go.Pev

/-- A slice of strings; of bools. -/
def sl (l : List (List UInt8)) : T := .l (l.map fun y => [.s y])
def bl (l : List Bool) : T := .l (l.map fun b => [.b b])

def cutN : Nat → Nat → List UInt8 → List (List UInt8)
  | 0, _, _ => []
  | f + 1, k, s => if s = [] then [] else s.take k :: cutN f k (s.drop k)
def cut (k : Nat) (s : List UInt8) : List (List UInt8) := cutN s.length k s
theorem cutN_nil (f k : Nat) : cutN f k [] = [] := by cases f <;> simp [cutN]
theorem cutN_fuel {k : Nat} (hk : 1 ≤ k) : ∀ (f g : Nat) (s : List UInt8), s.length ≤ f → s.length ≤ g → cutN f k s = cutN g k s
  | 0, g, s, h1, _ => by
    obtain rfl : s = [] := List.eq_nil_of_length_eq_zero (by omega)
    rw [cutN_nil, cutN_nil]
  | f + 1, 0, s, _, h2 => by
    obtain rfl : s = [] := List.eq_nil_of_length_eq_zero (by omega)
    rw [cutN_nil, cutN_nil]
  | f + 1, g + 1, s, h1, h2 => by
    simp only [cutN]
    by_cases h : s = []
    · rw [if_pos h, if_pos h]
    · rw [if_neg h, if_neg h]
      have : 0 < s.length := List.length_pos_iff.2 h
      rw [cutN_fuel hk f g (s.drop k) (by rw [List.length_drop]; omega) (by rw [List.length_drop]; omega)]
theorem cut_nil (k : Nat) : cut k [] = [] := rfl
theorem cut_cons {k : Nat} (hk : 1 ≤ k) {s : List UInt8} (hs : s ≠ []) : cut k s = s.take k :: cut k (s.drop k) := by
  have hp : 0 < s.length := List.length_pos_iff.2 hs
  obtain ⟨f, hf⟩ : ∃ f, s.length = f + 1 := ⟨s.length - 1, by omega⟩
  unfold cut
  rw [hf]
  simp only [cutN, if_neg hs]
  rw [cutN_fuel hk f (s.drop k).length (s.drop k) (by rw [List.length_drop]; omega) (Nat.le_refl _)]
/-- By the pieces. -/
theorem cut_ind {k : Nat} (hk : 1 ≤ k) {P : List UInt8 → Prop} (h0 : P []) (h1 : ∀ s, s ≠ [] → P (s.drop k) → P s) (s : List UInt8) : P s := by
  have : ∀ (n : Nat) (s : List UInt8), s.length ≤ n → P s := by
    intro n
    induction n with
    | zero => intro s hs; rw [List.eq_nil_of_length_eq_zero (by omega : s.length = 0)]; exact h0
    | succ n ih =>
      intro s hs
      by_cases h : s = []
      · rw [h]; exact h0
      · exact h1 s h (ih _ (by have : 0 < s.length := List.length_pos_iff.2 h; rw [List.length_drop]; omega))
  exact this s.length s (Nat.le_refl _)
theorem cut_flatten {k : Nat} (hk : 1 ≤ k) (s : List UInt8) : (cut k s).flatten = s := by
  refine cut_ind hk (P := fun s => (cut k s).flatten = s) rfl (fun s hs ih => ?_) s
  rw [cut_cons hk hs, List.flatten_cons, ih, List.take_append_drop]
theorem cut_len {k : Nat} (hk : 1 ≤ k) (s : List UInt8) : (cut k s).length = (s.length + k - 1) / k := by
  refine cut_ind hk (P := fun s => (cut k s).length = (s.length + k - 1) / k) ?_ (fun s hs ih => ?_) s
  · rw [cut_nil]; simp only [List.length_nil]; rw [Nat.div_eq_of_lt (by omega)]
  · rw [cut_cons hk hs, List.length_cons, ih, List.length_drop]
    have hp : 0 < s.length := List.length_pos_iff.2 hs
    by_cases h : s.length ≤ k
    · have h1 : (s.length + k - 1) / k = 1 := by
        rw [show s.length + k - 1 = (s.length - 1) + k by omega, Nat.add_div_right _ (by omega), Nat.div_eq_of_lt (by omega)]
      rw [show s.length - k + k - 1 = k - 1 by omega, Nat.div_eq_of_lt (by omega), h1]
    · rw [show s.length + k - 1 = (s.length - k + k - 1) + k by omega, Nat.add_div_right _ (by omega)]
theorem cut_le {k : Nat} (hk : 1 ≤ k) (s : List UInt8) : (cut k s).length ≤ s.length := by
  refine cut_ind hk (P := fun s => (cut k s).length ≤ s.length) (Nat.le_refl _) (fun s hs ih => ?_) s
  have hp : 0 < s.length := List.length_pos_iff.2 hs
  rw [cut_cons hk hs, List.length_cons]
  rw [List.length_drop] at ih
  omega
theorem cut_get {k : Nat} (hk : 1 ≤ k) (s : List UInt8) : ∀ i, (hi : i < (cut k s).length) → 1 ≤ (cut k s)[i].length ∧ (cut k s)[i].length ≤ k ∧ (i + 1 < (cut k s).length → (cut k s)[i].length = k) := by
  refine cut_ind hk (P := fun s => ∀ i, (hi : i < (cut k s).length) → 1 ≤ (cut k s)[i].length ∧ (cut k s)[i].length ≤ k ∧ (i + 1 < (cut k s).length → (cut k s)[i].length = k)) ?_ (fun s hs ih => ?_) s
  · intro i hi; simp [cut_nil] at hi
  · have hp : 0 < s.length := List.length_pos_iff.2 hs
    rw [cut_cons hk hs]
    intro i hi
    cases i with
    | zero =>
      simp only [List.getElem_cons_zero, List.length_take, List.length_cons]
      refine ⟨by omega, by omega, fun h => ?_⟩
      have h1 : 0 < (cut k (s.drop k)).length := by omega
      have h2 : s.drop k ≠ [] := fun e => by rw [e] at h1; simp [cut_nil] at h1
      have := List.length_pos_iff.2 h2
      rw [List.length_drop] at this
      omega
    | succ i =>
      simp only [List.getElem_cons_succ, List.length_cons]
      obtain ⟨a, b, c⟩ := ih i (by simpa using hi)
      exact ⟨a, b, fun h => c (by omega)⟩
/-- Texts of one length are cut at the same places. -/
theorem cut_same {k : Nat} (hk : 1 ≤ k) (s t : List UInt8) (h : s.length = t.length) : (cut k s).length = (cut k t).length := by rw [cut_len hk, cut_len hk, h]

theorem join_nil_eq (l : List (List UInt8)) : Lib.join l [] = l.flatten := by
  show ([] : List UInt8).intercalate l = _
  induction l with
  | nil => rfl
  | cons a l ih =>
    cases l with
    | nil => simp [List.intercalate, List.intersperse]
    | cons b l =>
      simp only [List.intercalate, List.intersperse] at ih ⊢
      simp only [List.flatten_cons, List.nil_append] at ih ⊢
      rw [ih]
end Go.Proofs.Ythkehbdljckbdaa.Pv
