/- The library's Sort, in the pure evaluator's words, out of its contract. -/
import Derived.Test.YthkehbdljckbdaaPrim
import Derived.Sort.Grow
set_option linter.unusedVariables false
set_option linter.unusedSimpArgs false
namespace Go.Pev
open Go Go.RowKit Go.Sort

def intsOf : List (List T) → Option (List Int)
  | [] => some []
  | [.i .i64 n] :: r => (intsOf r).map (n :: ·)
  | _ => none
theorem intsOf_map (l : List Int) : intsOf (l.map fun n => [.i .i64 n]) = some l := by
  induction l with
  | nil => rfl
  | cons a l ih => simp [intsOf, ih]
theorem intsOf_eq : ∀ {els : List (List T)} {zs : List Int}, intsOf els = some zs → els = zs.map fun n => [.i .i64 n]
  | [], zs, h => by cases h; rfl
  | c :: r, zs, h => by
    unfold intsOf at h
    split at h
    · rename_i hnil; cases hnil
    · rename_i n r' hc
      cases hc
      obtain ⟨zs', h1, rfl⟩ := Option.map_eq_some_iff.1 h
      rw [intsOf_eq h1]; rfl
    · cases h

def srt (l : List Int) : List Int := l.mergeSort fun x y => decide (x ≤ y)
def sortP (args : List V) (h : HP) (ck : Nat) : Option (V × HP × Nat) :=
  match args with
  | [.ow k 1 0 n] => match h.get k with
    | some (.row ty 1 els false) => match intsOf els with
      | some zs => if n = els.length ∧ 0 < n ∧ n ≤ 140737488355328 then some (.tu [], h.put k k (.row ty 1 ((srt zs).map fun x => [.i .i64 x]) false), ck + 1) else none
      | none => none
    | _ => none
  | _ => none

/-- What the library's contract says of the call. -/
def SortSaid (P : Program) (f : FuncId) : Prop := ∀ (blk off cap : Nat) (zs : List Int) (w : World), Holds (Value.int .i64) w blk off zs.toArray → blk < w.heap.size → zs.length < 4611686018427387904 →
  Calls P f #[.slice (some ⟨blk, off, none⟩) zs.length cap] w fun e w' => e = .returned (.tuple #[]) ∧ ∃ n os, w' = grow (putRow (Value.int .i64) (Sort.ahead w n) blk off (zs.mergeSort fun x y => decide (x ≤ y)).toArray) os

theorem sort_ok {P : Program} {f : FuncId} (hS : SortSaid P f) (hg : goodFn P f = true) : ∀ args h ck r h' ck', sortP args h ck = some (r, h', ck') → ∀ R w us, HInv R w h ck (fun _ => False) → ArgsRep R w us args → goodFn P f = true ∧ Calls P f us w (CPost R w h r h' ck' (fun _ => False)) := by
  intro args h ck r h' ck' hr R w us hi ha
  refine ⟨hg, ?_⟩
  unfold sortP at hr
  split at hr
  · rename_i k n
    split at hr
    · rename_i ty els hk
      split at hr
      · rename_i zs hz
        split at hr
        · rename_i hc
          obtain ⟨hn, hn0, hnb⟩ := hc
          cases hr
          obtain rfl := intsOf_eq hz
          have hzn : zs.length = n := by rw [hn]; simp
          have h0 := ha.2 0 _ rfl
          have hus : us = #[us.getD 0 undef] := by
            have h1 : us.size = 1 := ha.1.symm ▸ rfl
            apply Array.ext
            · simp [h1]
            · intro i hi1 hi2
              have : i = 0 := by omega
              subst this
              simp [Array.getD_eq_getD_getElem?, h1]
          rcases repV_ow h0 with ⟨g, tot, A, cap, hv, hμ, hl, hcap, hA⟩ | ⟨hv, hμ, _, hl0⟩
          · rcases hi.ob _ _ hk with ⟨b1, _⟩ | ⟨g', tot', arr, b1, b2, b3, b4, b5, b6, b7, b8, b9⟩
            · rw [hμ] at b1; cases b1
            · rw [hμ] at b1
              cases b1
              have hA' := hA (by omega)
              rw [Nat.zero_mul] at hA'
              subst hA'
              have hsz : zs.length ≤ arr.size := by rw [b3, Nat.mul_one]; simpa using b4
              have hcell : ∀ j, (hj : j < zs.length) → arr.getD j undef = .int .i64 zs[j] := by
                intro j hj
                have := b8 j 0 (.i .i64 zs[j]) (by simp [at2, hj])
                rw [Nat.mul_one, Nat.add_zero] at this
                generalize arr.getD j undef = u at this
                cases this; rfl
              have hH : Holds (Value.int .i64) w g 0 zs.toArray := by
                intro j hj
                have hj' : j < zs.length := by simpa using hj
                refine ⟨?_, ?_⟩
                · rw [b2.cell, Nat.zero_add, getD_of_getElem? (by omega), hcell j hj']
                  simp [hj']
                · obtain ⟨mk, hm1, hm2⟩ := b2
                  have := hm2 j (by omega)
                  simp only [World.frozen?, hm1]
                  simp; omega
              have hglt := b2.lt
              have hlen : zs.length < 4611686018427387904 := by omega
              have hcall := hS g 0 cap zs w hH hglt hlen
              rw [hus, hv, ← hzn]
              refine hcall.mono ?_
              rintro e w' ⟨rfl, m, os, rfl⟩
              have hszs : (srt zs).length = zs.length := by simp [srt, List.length_mergeSort]
              generalize hd : (srt zs).toArray = d
              have hds : d.size = zs.length := by rw [← hd]; simpa using hszs
              have hw' : (grow (putRow (Value.int .i64) (Sort.ahead w m) g 0 (zs.mergeSort fun x y => decide (x ≤ y)).toArray) os) = grow (putRow (Value.int .i64) (Sort.ahead w m) g 0 d) os := by rw [← hd]; rfl
              rw [hw']
              clear hw'
              have hheap : (grow (putRow (Value.int .i64) (Sort.ahead w m) g 0 d) os).heap = (w.heap.modify g (onCells (putCells (Value.int .i64) 0 d))) ++ os := rfl
              generalize hW : grow (putRow (Value.int .i64) (Sort.ahead w m) g 0 d) os = w' at hheap
              have hos : w'.os = w.os := by rw [← hW]; rfl
              have htp : w'.tape = w.tape := by rw [← hW]; rfl
              have hout : w'.output = w.output := by rw [← hW]; rfl
              have hasz : (putCells (Value.int .i64) 0 d arr).size = arr.size := by simp [putCells]
              have hag : ∀ j, (putCells (Value.int .i64) 0 d arr).getD j undef = if j < d.size then .int .i64 d[j]! else arr.getD j undef := by
                intro j
                rw [Array.getD_eq_getD_getElem?, Array.getD_eq_getD_getElem?]
                simp only [putCells, Array.getElem?_mapIdx]
                by_cases hj : j < d.size
                · rw [if_pos hj, Array.getElem?_eq_getElem (by omega)]
                  simp [hj]
                · rw [if_neg hj]
                  cases arr[j]? with
                  | none => rfl
                  | some v => simp [hj]
              have hold : ∀ q, q < w.heap.size → q ≠ g → w'.heap[q]? = w.heap[q]? := by
                intro q hq hne
                rw [hheap, Array.getElem?_append_left (by simpa using hq), Array.getElem?_modify, if_neg (Ne.symm hne)]
              have hnew : RowAt w' g (putCells (Value.int .i64) 0 d arr) ty := by
                obtain ⟨mk, hm1, hm2⟩ := b2
                refine ⟨mk, ?_, fun j hj => hm2 j (by omega)⟩
                rw [hheap, Array.getElem?_append_left (by simpa using hglt), Array.getElem?_modify, if_pos rfl, hm1]
                rfl
              obtain ⟨s1, s2⟩ := put_step (me := 0) (w' := w') hi k k (.row ty 1 (zs.map fun n => [.i .i64 n]) false) (.row ty 1 ((srt zs).map fun x => [.i .i64 x]) false) hk rfl (some (g, tot)) (.inl ⟨rfl, hμ⟩) hos htp hout (by rw [hheap]; simp)
                (fun q hq hne => hold q hq (fun e => hne tot (by rw [e]; exact hμ))) (fun g' n2 h => .inr ⟨tot, by cases h; exact hμ⟩) rfl
                (fun hag2 => .inr ⟨g, tot, _, updμ_same _ _ _, hnew, by rw [hasz, b3], by simp [hszs]; simpa using b4, b5, fun c hc => by
                    obtain ⟨x, _, rfl⟩ := List.mem_map.1 hc
                    rfl, fun j hj => by
                    rw [hag]
                    by_cases hjd : j < d.size
                    · rw [if_pos hjd]; rfl
                    · rw [if_neg hjd]; exact b7 j (by omega), fun i j t ht => by
                    obtain ⟨c, hc1, hc2⟩ := at2_elim ht
                    rw [List.getElem?_map] at hc1
                    cases hy : (srt zs)[i]? with
                    | none => rw [hy] at hc1; cases hc1
                    | some x =>
                      rw [hy] at hc1
                      cases hc1
                      have hj := (List.getElem?_eq_some_iff.1 hc2).1
                      obtain rfl : j = 0 := by simpa using hj
                      cases hc2
                      have hil := (List.getElem?_eq_some_iff.1 hy).1
                      rw [Nat.mul_one, Nat.add_zero, hag, if_pos (by omega)]
                      have : d[i]! = x := by
                        rw [← hd]
                        simp [hy]
                      rw [this]
                      exact .i _ _, by simp⟩)
              refine ⟨_, _, rfl, .tu #[] [] rfl (by intro j v hv; simp at hv), s1, s2.ck _ (by omega) _⟩
          · omega
        · cases hr
      · cases hr
    · cases hr
  · cases hr
end Go.Pev
