/- The machine's operations against the pure evaluator's: clear of a row's tail. -/
import Derived.Test.YthkehbdljckbdaaOps7
import Derived.Laws.IdiomStrings
set_option linter.unusedVariables false
set_option linter.unusedSimpArgs false
namespace Go.Pev
open Go Go.RowKit

section
variable {P : Program} {o : Oper} {a : Act} {R : Rl} {w : World} {hp : HP} {dn : Nat → Prop} {me ck d : Nat} {e : Env}

theorem clr_out (hi : HInv R w hp ck dn) (he : EnvRep R w a e) {as_ : Array Operand} {ts : Array TypeId} {t el : TypeId} {x : Operand} {x' : Opd} (ho : o.op = .call { callee := .builtin .clear, args := as_, argTypes := ts }) (ha : as_.toList = [x]) (hts : ts.toList = [t]) (ht : P.underlying t = some (.slice el))
    {n : Nat} {z : Value} (hz : zeroOf P el = some z) (hn0 : 0 < n) (hzs : z.cells.size = n) (hz1 : z.cells.all (·.oneCell') = true) (hx : compOpd x = some x') {hp' : HP} (hr : clr hp n (x'.ev e) = some hp') :
    Out P o a R w hp dn me .un hp' ck := by
  have rx := opd_rep he hx
  have ha' : as_ = #[x] := by cases as_; simp at ha; simp [ha]
  have ht' : ts = #[t] := by cases ts; simp at hts; simp [hts]
  have hrun : ∀ v w', (Builtin.clear_ #[t] o.type #[a.eval x]).run P w = .ok v w' → (execOp a.eval o).run P w = .ok (.value v) w' := by
    intro v w' h
    simp [execOp, ho, ha', ht', resolve, invoke, builtin, h]
  have hzr : (zeroValue el).run P w = .ok z w := run_zeroOf hz w
  unfold clr at hr
  split at hr
  · rename_i k sz off len h1
    split at hr
    · rename_i ty sz2 els hk
      by_cases hc : sz = n ∧ sz2 = n ∧ off + len ≤ els.length
      · rw [if_pos hc] at hr
        cases hr
        obtain ⟨rfl, rfl, hle⟩ := hc
        rw [h1] at rx
        have hob := hi.ob _ _ hk
        rcases repV_ow rx with ⟨g, tot, A, cap, hv, hμ, hl, hcap, hA⟩ | ⟨hv, hμ, rfl, rfl⟩
        · rw [hv] at hrun
          rcases hob with ⟨b1, _⟩ | ⟨g', tot', arr, b1, b2, b3, b4, b5, b6, b7, b8, b9⟩
          · rw [hμ] at b1; cases b1
          · rw [hμ] at b1
            cases b1
            rcases Nat.eq_zero_or_pos len with h0 | h0
            · subst h0
              obtain ⟨s1, s2⟩ := put_step (me := me) (w' := w) hi k k (.row ty sz2 els false) (.row ty sz2 (els.take off) false) hk rfl (some (g, tot)) (.inl ⟨rfl, hμ⟩) rfl rfl rfl (Nat.le_refl _)
                (fun q hq hne => rfl) (fun g' n2 h => .inr ⟨tot, by cases h; exact hμ⟩) rfl
                (fun hag => .inr ⟨g, tot, arr, updμ_same _ _ _, b2, b3, by simp; omega, b5, fun q hq => b6 q (List.mem_of_mem_take hq), b7, fun i j t' ht' => (by
                    obtain ⟨c, hc1, hc2⟩ := at2_elim ht'
                    rw [List.getElem?_take] at hc1
                    by_cases hi1 : i < off
                    · rw [if_pos hi1] at hc1
                      exact (b8 _ _ _ (at2_some hc1 hc2)).mono hag.S hag.hS
                    · rw [if_neg hi1] at hc1; cases hc1), by simp⟩)
              refine Out.of (.tuple #[]) w _ (.inl (hrun _ _ ?_)) (.un _) s1 s2
              cases A <;> simp [Builtin.clear_, run_underlying ht]
            · have hA' := hA (by omega)
              subst hA'
              have hcz : (Builtin.zeroCells z.cells len).size = len * sz2 := by rw [size_zeroCells, hzs]
              have hfit : (off + len) * sz2 ≤ arr.size := by
                rw [b3]
                exact Nat.mul_le_mul_right _ (by omega)
              rw [Nat.add_mul] at hfit
              have hst := run_storeCells_row P g (off * sz2) ty (Builtin.zeroCells z.cells len).toList 0 arr w b2 (by simp only [Nat.add_zero, Array.length_toList, hcz]; exact hfit) (fun v hv => by
                obtain ⟨j, hj, rfl⟩ := List.getElem_of_mem hv
                have hj' : j < (Builtin.zeroCells z.cells len).size := by simpa using hj
                have := zeroCells_one z.cells hz1 (by omega) len j hj'
                rwa [Array.getD_eq_getD_getElem?, Array.getElem?_eq_getElem hj', Option.getD_some] at this)
              simp only [Nat.add_zero] at hst
              have hcur : off * sz2 + (Builtin.zeroCells z.cells len).toList.length ≤ arr.toList.length := by rw [Array.length_toList, Array.length_toList, hcz]; exact hfit
              generalize hA2 : (arr.toList.take (off * sz2) ++ (Builtin.zeroCells z.cells len).toList ++ arr.toList.drop (off * sz2 + (Builtin.zeroCells z.cells len).toList.length)).toArray = A2 at hst
              have hsz2 : A2.size = arr.size := by rw [← hA2]; exact (splice_size _ _ _ hcur).trans Array.length_toList
              have hget : ∀ j, A2.getD j undef = if off * sz2 ≤ j ∧ j < off * sz2 + len * sz2 then (Builtin.zeroCells z.cells len).toList.getD (j - off * sz2) undef else arr.getD j undef := by
                intro j
                rw [← hA2, splice_get _ _ _ _ hcur, Array.length_toList, hcz]
                simp only [arr_getD]
              obtain ⟨s1, s2⟩ := put_step (me := me) (w' := w.setRow g A2) hi k k (.row ty sz2 els false) (.row ty sz2 (els.take off) false) hk rfl (some (g, tot)) (.inl ⟨rfl, hμ⟩) rfl rfl rfl (by simp)
                (fun q hq hne => setRow_hold _ _ _ _ (fun h => hne tot (by rw [h]; exact hμ))) (fun g' n2 h => .inr ⟨tot, by cases h; exact hμ⟩) rfl
                (fun hag => .inr ⟨g, tot, A2, updμ_same _ _ _, b2.set hsz2, by rw [hsz2]; exact b3, by simp; omega, b5, fun q hq => b6 q (List.mem_of_mem_take hq), fun j hj => by
                    rw [hsz2] at hj
                    rw [hget]
                    by_cases h : off * sz2 ≤ j ∧ j < off * sz2 + len * sz2
                    · rw [if_pos h]
                      have := zeroCells_one z.cells hz1 (by omega) len (j - off * sz2) (by omega)
                      rwa [arr_getD]
                    · rw [if_neg h]; exact b7 _ hj, fun i j t' ht' => (by
                    obtain ⟨c, hc1, hc2⟩ := at2_elim ht'
                    rw [List.getElem?_take] at hc1
                    by_cases hi1 : i < off
                    · rw [if_pos hi1] at hc1
                      have hcs := b6 c (List.mem_of_getElem? hc1)
                      have hj1 := (List.getElem?_eq_some_iff.1 hc2).1
                      have hlt : i * sz2 + j < off * sz2 := mul_lt (by omega) (by omega)
                      rw [hget, if_neg (by omega)]
                      exact (b8 _ _ _ (at2_some hc1 hc2)).mono hag.S hag.hS
                    · rw [if_neg hi1] at hc1; cases hc1), by simp⟩)
              refine Out.of (.tuple #[]) _ _ (.inl (hrun _ _ ?_)) (.un _) s1 s2
              cases len with
              | zero => omega
              | succ m =>
                simp [Builtin.clear_, run_underlying ht, hzr, hst]
        · rw [hv] at hrun
          have hels : els.take 0 = [] := rfl
          obtain ⟨s1, s2⟩ := put_step (me := me) (w' := w) hi k k (.row ty sz2 els false) (.row ty sz2 (els.take 0) false) hk rfl none (.inl ⟨rfl, hμ⟩) rfl rfl rfl (Nat.le_refl _)
            (fun q hq hne => rfl) (fun g' n2 h => by cases h) rfl
            (fun hag => .inl ⟨updμ_same _ _ _, rfl⟩)
          refine Out.of (.tuple #[]) w _ (.inl (hrun _ _ ?_)) (.un _) s1 s2
          simp [Builtin.clear_, run_underlying ht]
      · rw [if_neg hc] at hr; cases hr
    · cases hr
  · cases hr

theorem sbs_out (hi : HInv R w hp ck dn) (hd : ¬ dn me) (he : EnvRep R w a e) {s dt el : TypeId} {x : Operand} {x' : Opd} (ho : o.op = .convert s dt x) (hs : P.underlying s = some .string) (hel : P.underlying el = some (.int .u8)) (hdt : P.underlying dt = some (.slice el)) (hx : compOpd x = some x') {y : List UInt8} (hv : x'.ev e = .t (.s y)) (hl : y.length ≤ 140737488355328) :
    Out P o a R w hp dn me (.ow ⟨d, ck, me⟩ 1 0 y.length) ((⟨d, ck, me⟩, .row el 1 (bytesT y) false) :: hp) ck := by
  have rx := opd_rep he hx
  rw [hv] at rx
  obtain ⟨z, hz1, hz2⟩ := repV_s rx
  have hzl : z.size = y.length := by rw [← hz2]; simp
  have h := run_bytes_of_string (P := P) w s dt el z hs hdt hel
  have hge := grownCap_ge w z.size 0 el
  have hle := grownCap_le_maxLen w z.size 0 el (by simp only [maxLen]; omega)
  generalize hG : grownCap w z.size 0 el = G at h hge hle
  have hasz : (bytesRow z G).size = G := by
    simp only [bytesRow, Array.size_append, Array.size_map, Array.size_replicate]
    have : z.data.size = z.size := rfl
    omega
  have hget : ∀ j, (bytesRow z G).getD j undef = if j < z.size then .int .u8 (y.getD j 0).toNat else if j < G then .int .u8 0 else undef := by
    intro j
    have hsz : z.data.size = z.size := rfl
    rw [Array.getD_eq_getD_getElem?]
    simp only [bytesRow, Array.getElem?_append, Array.size_map]
    by_cases h1 : j < z.size
    · have h1' : j < y.length := by omega
      rw [if_pos (by omega), if_pos h1, Array.getElem?_map, Array.getElem?_eq_getElem (by omega), Option.map_some, Option.getD_some]
      have : z.data[j] = y.getD j 0 := by
        rw [List.getD_eq_getElem?_getD, ← hz2, Array.getElem?_toList, Array.getElem?_eq_getElem (by omega), Option.getD_some]
      rw [this]
    · rw [if_neg (by omega), if_neg h1]
      by_cases h2 : j < G
      · rw [if_pos h2, Array.getElem?_replicate, if_pos (by omega), Option.getD_some]
      · rw [if_neg h2, Array.getElem?_replicate, if_neg (by omega), Option.getD_none]
  generalize hC : bytesRow z G = C at h hasz hget
  have hh : (w.drew.alloc (.cells C el (C.size, C.size + 1))).heap = w.heap.push (.cells C el (C.size, C.size + 1)) := rfl
  have hold : ∀ g, g < w.heap.size → (w.drew.alloc (.cells C el (C.size, C.size + 1))).heap[g]? = w.heap[g]? := fun g hg => by rw [hh, Array.getElem?_push, if_neg (by omega)]
  have hnew : RowAt (w.drew.alloc (.cells C el (C.size, C.size + 1))) w.heap.size C el := ⟨(C.size, C.size + 1), by rw [hh]; simp, fun j hj => by simp; omega⟩
  obtain ⟨g1, g2⟩ := alloc_step (w' := w.drew.alloc (.cells C el (C.size, C.size + 1))) hi hd ⟨d, ck, me⟩ ⟨rfl, rfl⟩ (some (w.heap.size, G)) (.row el 1 (bytesT y) false) rfl rfl rfl (by rw [hh]; simp) hold (by intro g n h; cases h; exact Nat.le_refl _)
    (fun ha => .inr ⟨w.heap.size, G, C, updμ_same _ _ _, hnew, by rw [hasz, Nat.mul_one], by simp [bytesT]; omega, hle, by intro c hc; simp [bytesT] at hc; obtain ⟨b, _, rfl⟩ := hc; rfl, fun j hj => by
        rw [hget]
        rw [hasz] at hj
        by_cases h1 : j < z.size
        · rw [if_pos h1]; rfl
        · rw [if_neg h1, if_pos hj]; rfl, fun i j t ht => by
        obtain ⟨c, hc1, hc2⟩ := at2_elim ht
        simp only [bytesT, List.getElem?_map] at hc1
        cases hy : y[i]? with
        | none => rw [hy] at hc1; cases hc1
        | some b =>
          rw [hy] at hc1
          cases hc1
          have hj := (List.getElem?_eq_some_iff.1 hc2).1
          obtain rfl : j = 0 := by simpa using hj
          cases hc2
          simp only [Nat.add_zero]
          have hil := (List.getElem?_eq_some_iff.1 hy).1
          rw [Nat.mul_one, hget, if_pos (by omega), List.getD_eq_getElem?_getD, hy]
          exact .i _ _, by simp⟩)
  refine Out.of _ _ _ (.inl ?_) (.ow _ _ _ _ w.heap.size G _ G (updμ_same _ _ _) (by omega) (by omega) (fun _ => by rw [Nat.zero_mul])) g1 g2
  rw [← hzl]
  simp [execOp, ho, hz1, h]
end
end Go.Pev
