/- The net between two ports: Without, text, tell, deliver. -/
import Derived.Test.YtccnadleegcobaaOnceP
import Derived.Test.YtccnadleegcobaaGLoop
set_option linter.unusedVariables false
set_option linter.unusedSimpArgs false
namespace Go.Proofs.Ytccnadleegcobaa.Pv
open Go Go.Pev

def slc (l : List (List UInt8)) : List (List T) := l.map fun s => [.s s]
def sl (l : List (List UInt8)) : T := .l (slc l)
theorem slc_len (l : List (List UInt8)) : (slc l).length = l.length := by simp [slc]

theorem eraseIdx_get {α : Type} (l : List α) (i : Nat) : l.eraseIdx i = l.take i ++ l.drop (i + 1) := List.eraseIdx_eq_take_drop_succ l i
theorem without_loop (l : List (List UInt8)) (i : Nat) (hl : l.length ≤ 100000) : ∀ (m j c o ck : Nat) (acc : List (List UInt8)), j + m = l.length → acc.length ≤ j → ∃ c' o' ck' tl, evL cfg (.loop f11l0) ⟨[(0, .t (sl l)), (1, iv i), (5, .ow ⟨5, c, o⟩ 1 0 acc.length), (6, iv j)], [(⟨5, c, o⟩, .row 9 1 (slc acc) false)], ck⟩ =
    some (.exit 0, ⟨[(0, .t (sl l)), (1, iv i), (5, .ow ⟨5, c', o'⟩ 1 0 (acc ++ (if j ≤ i then (l.drop j).eraseIdx (i - j) else l.drop j)).length), (6, iv l.length)] ++ tl, [(⟨5, c', o'⟩, .row 9 1 (slc (acc ++ (if j ≤ i then (l.drop j).eraseIdx (i - j) else l.drop j))) false)], ck'⟩) := by
  intro m
  induction m with
  | zero =>
    intro j c o ck acc h ha
    obtain rfl : j = l.length := by omega
    refine ⟨c, o, ck + 1, [(10, bv false)], ?_⟩
    rw [evL_loop]
    have hd : l.drop l.length = [] := List.drop_eq_nil_of_le (Nat.le_refl _)
    have e : (if l.length ≤ i then (l.drop l.length).eraseIdx (i - l.length) else l.drop l.length) = [] := by rw [hd]; simp
    rw [e]
    simp [f11l0e, sl, slc_len]
  | succ m ih =>
    intro j c o ck acc h ha
    have hlt : j < l.length := by omega
    have hw : IntKind.i64.wrap ((j : Int) + 1) = (j : Int) + 1 := wrap_id (by omega) (by omega)
    have hgs : (slc l)[j]? = some [.s l[j]] := by simp [slc, hlt]
    have hgs2 : (slc l)[j]'(by rw [slc_len]; exact hlt) = [.s l[j]] := by simp [slc]
    have hlen := slc_len l
    have hdr : l.drop j = l[j] :: l.drop (j + 1) := List.drop_eq_getElem_cons hlt
    by_cases e : j = i
    · subst e
      obtain ⟨c', o', ck', tl, hc⟩ := ih (j + 1) c o (ck + 3) acc (by omega) (by omega)
      rw [if_neg (by omega)] at hc
      rw [if_pos (Nat.le_refl _), Nat.sub_self, hdr, List.eraseIdx_cons_zero]
      refine ⟨c', o', ck', tl, ?_⟩
      rw [evL_loop_n (s1 := ⟨[(0, .t (sl l)), (1, iv j), (5, .ow ⟨5, c, o⟩ 1 0 acc.length), (6, iv ((j + 1 : Nat) : Int))], [(⟨5, c, o⟩, .row 9 1 (slc acc) false)], ck + 3⟩), hc]
      simp [f11l0e, sl, hlen, hlt, hw]
    · obtain ⟨c', o', ck', tl, hc⟩ := ih (j + 1) (ck + 2) 6 (ck + 4) (acc ++ [l[j]]) (by omega) (by simp; omega)
      have e2 : acc ++ [l[j]] ++ (if j + 1 ≤ i then (l.drop (j + 1)).eraseIdx (i - (j + 1)) else l.drop (j + 1)) = acc ++ (if j ≤ i then (l.drop j).eraseIdx (i - j) else l.drop j) := by
        rw [List.append_assoc]
        congr 1
        by_cases hji : j ≤ i
        · rw [if_pos hji, if_pos (by omega), hdr]
          have : i - j = (i - (j + 1)) + 1 := by omega
          rw [this, List.eraseIdx_cons_succ]; rfl
        · rw [if_neg hji, if_neg (by omega), hdr]; rfl
      rw [e2] at hc
      refine ⟨c', o', ck', tl, ?_⟩
      have e' : ((j : Int) != (i : Int)) = true := by simp; omega
      have hb : (acc.length + 1) * 16 ≤ 140737488355328 := by omega
      rw [evL_loop_n (s1 := ⟨[(0, .t (sl l)), (1, iv i), (5, .ow ⟨5, ck + 2, 6⟩ 1 0 (acc ++ [l[j]]).length), (6, iv ((j + 1 : Nat) : Int))], [(⟨5, ck + 2, 6⟩, .row 9 1 (slc (acc ++ [l[j]])) false)], ck + 4⟩), hc]
      have e3 : slc (acc ++ [l[j]]) = slc acc ++ [[.s l[j]]] := by simp [slc]
      simp [f11l0e, sl, hlen, slc_len, hlt, hw, e', hgs, hgs2, rowsOf, treesC, treesOf, treeOf, keysOfs, freezeAll, app, elsOf, hb, e3]
theorem without_ret (l : List (List UInt8)) (i : Nat) (hl : l.length ≤ 100000) : RetT cfg 11 [.t (sl l), iv i] (.t (sl (l.eraseIdx i))) := by
  rw [retT_r, runL_pf (fn := f11) rfl rfl]
  obtain ⟨c', o', ck', tl, hc⟩ := without_loop l i hl l.length 0 1 0 3 [] (by omega) (by simp)
  have e : (if 0 ≤ i then (l.drop 0).eraseIdx (i - 0) else l.drop 0) = l.eraseIdx i := by simp
  rw [e, List.nil_append] at hc
  simp only [iv, Int.natCast_zero] at hc
  have htk : (slc (l.eraseIdx i)).take (l.eraseIdx i).length = slc (l.eraseIdx i) := List.take_of_length_le (by rw [slc_len]; omega)
  simp [slc, sl] at hc
  simp [hc, slc, sl, resOf, resOf1, treeOf]
  exact htk

theorem text_ret (n : Nat) (hn : n < 256) : RetT cfg 10 [iv n] (.t (.s (txt n))) := by
  rw [retT_r, runL_pf (fn := f10) rfl rfl]
  have hw : IntKind.u8.wrap (n : Int) = n := by
    simp [IntKind.wrap, IntKind.bits, IntKind.signed]
    omega
  simp [hw, rowsOf, treesC, treesOf, treeOf, keysOfs, freezeAll, elsOf, u8s, resOf, resOf1, txt]

/-- The net's cells. -/
def netC (a b : Prt) (th bk : T) (G : List V) (n : Int) : List V :=
  .t (.i .i64 a.next) :: .t (fl a.q) :: .t (.i .i64 a.low) :: .t (il a.seen) :: .t (.i .i64 b.next) :: .t (fl b.q) :: .t (.i .i64 b.low) :: .t (il b.seen) :: .t th :: .t bk :: (G ++ [.t (.i .i64 n)])
def netZ (G : List V) : List V := .t (.i .i64 0) :: .nl :: .t (.i .i64 0) :: .nl :: .t (.i .i64 0) :: .nl :: .t (.i .i64 0) :: .nl :: .nl :: .nl :: (G ++ [.t (.i .i64 0)])
def zero256 : List V := List.replicate 256 (.t (.i .i64 0))
def netL (w : Net) : List V := netC w.a w.b (sl w.there) (sl w.back) (w.got.map fun n => .t (.i .i64 n)) w.sent
theorem over_set {α : Type} : ∀ (vs c : List α) (j : Nat), j + vs.length = c.length → over c j vs = c.take j ++ vs
  | [], c, j, h => by
    unfold over
    rw [List.append_nil, List.take_of_length_le (by simp at h; omega)]
  | x :: r, c, j, h => by
    unfold over
    simp only [List.length_cons] at h
    rw [over_set r (c.set j x) (j + 1) (by rw [List.length_set]; omega)]
    rw [List.take_set, List.take_add_one]
    have hj : j < c.length := by omega
    rw [List.getElem?_eq_getElem hj]
    simp only [Option.toList]
    rw [List.set_append_right _ _ (by simp; omega)]
    simp [List.length_take, Nat.min_eq_left (Nat.le_of_lt hj)]
theorem over_all {α : Type} (vs c : List α) (h : vs.length = c.length) : over c 0 vs = vs := by
  rw [over_set vs c 0 (by omega)]; simp
theorem netZ_len {G : List V} (h : G.length = 256) : (netZ G).length = 267 := by simp [netZ, h]
theorem netC_len {a b : Prt} {th bk : T} {G : List V} {n : Int} (h : G.length = 256) : (netC a b th bk G n).length = 267 := by simp [netC, h]
theorem treesOf_app (h : HP) : ∀ (xs ys : List V) (a b : List T), treesOf h xs = some a → treesOf h ys = some b → treesOf h (xs ++ ys) = some (a ++ b)
  | [], ys, a, b, h1, h2 => by simp [treesOf] at h1; subst h1; simpa using h2
  | x :: xs, ys, a, b, h1, h2 => by
    simp only [treesOf] at h1
    split at h1
    · rename_i u us e1 e2
      cases h1
      simp only [List.cons_append, treesOf, e1, treesOf_app h xs ys us b e2 h2]
    · cases h1
theorem treesOf_g (h : HP) (g : List Int) : treesOf h (g.map fun n => .t (.i .i64 n)) = some (g.map fun n => .i .i64 n) := by
  have := treesOf_t h (g.map fun n => .i .i64 n)
  rw [List.map_map] at this
  exact this
theorem netL_trees (h : HP) (w : Net) : (treesOf h (netL w)).map (fun ts => ts.map V.t) = some (netL w) := by
  unfold netL netC
  have := treesOf_app h _ [.t (.i .i64 (w.sent : Int))] _ _ (treesOf_g h w.got) (by simp [treesOf, treeOf]; rfl)
  simp [treesOf, treeOf, this, List.map_map]
end Go.Proofs.Ytccnadleegcobaa.Pv
