/- The library's Delete, of texts, in the pure evaluator's words, out of its contract. -/
import Derived.Test.YtlfjlpleodlkmaaGreatDoorPevC
import Derived.Test.YtlfjlpleodlkmaaGreatDoorPrim3
import Derived.Sort.EncStr
set_option linter.unusedVariables false
set_option linter.unusedSimpArgs false
namespace Go.Pev
open Go Go.RowKit Go.Sort
open Go.Proofs (encStr)

def delP (args : List V) (h : HP) (ck : Nat) : Option (V × HP × Nat) :=
  match args with
  | [.ow k 1 0 n, .t (.i .i64 i), .t (.i .i64 j)] => match h.get k with
    | some (.row ty 1 els false) => match strsOf els with
      | some zs => if n = els.length ∧ 0 < n ∧ n ≤ 140737488355328 ∧ 0 ≤ i ∧ i ≤ j ∧ j ≤ n then
          some (.ow k 1 0 (zs.take i.toNat ++ zs.drop j.toNat).length, h.put k k (.row ty 1 ((zs.take i.toNat ++ zs.drop j.toNat).map fun x => [.s x]) false), ck + 1) else none
      | none => none
    | _ => none
  | _ => none

/-- What the library's contract says of the call. -/
def DelSaid (P : Program) (f : FuncId) : Prop := ∀ (blk off cap i j : Nat) (zs : List (List UInt8)) (w : World), Holds encStr w blk off zs.toArray → zs.length ≤ cap → cap ≤ 9223372036854775807 → i ≤ j → j ≤ zs.length →
  Calls P f #[.slice (some ⟨blk, off, none⟩) zs.length cap, .int .i64 i, .int .i64 j] w fun e w' => e = .returned (.slice (some ⟨blk, off, none⟩) (zs.length - (j - i)) cap) ∧ ∃ q, w' = putRow encStr (Sort.ahead w q) blk off (zs.take i ++ zs.drop j ++ List.replicate (j - i) []).toArray

theorem del_ok {P : Program} {f : FuncId} (hS : DelSaid P f) (hg : goodFn P f = true) : ∀ args h ck r h' ck', delP args h ck = some (r, h', ck') → ∀ R w us, HInv R w h ck (fun _ => False) → ArgsRep R w us args → goodFn P f = true ∧ Calls P f us w (CPost R w h r h' ck' (fun _ => False)) := by
  intro args h ck r h' ck' hr R w us hi ha
  refine ⟨hg, ?_⟩
  unfold delP at hr
  split at hr
  · rename_i k n i j
    split at hr
    · rename_i ty els hk
      split at hr
      · rename_i zs hz
        split at hr
        · rename_i hc
          obtain ⟨hn, hn0, hnb, hi0, hij, hjn⟩ := hc
          obtain ⟨i, rfl⟩ : ∃ m : Nat, i = m := ⟨i.toNat, by omega⟩
          obtain ⟨j, rfl⟩ : ∃ m : Nat, j = m := ⟨j.toNat, by omega⟩
          simp only [Int.toNat_natCast] at hr
          cases hr
          obtain rfl := strsOf_eq hz
          have hzn : zs.length = n := by rw [hn]; simp
          have h0 := ha.2 0 _ rfl
          have h1 := repV_tl (ha.2 1 _ rfl)
          have h2 := repV_tl (ha.2 2 _ rfl)
          have hus : us = #[us.getD 0 undef, us.getD 1 undef, us.getD 2 undef] := by
            have h1 : us.size = 3 := ha.1.symm ▸ rfl
            apply Array.ext
            · simp [h1]
            · intro q hq1 hq2
              have : q = 0 ∨ q = 1 ∨ q = 2 := by omega
              rcases this with rfl | rfl | rfl <;> simp [Array.getD_eq_getD_getElem?, h1]
          have e1 : us.getD 1 undef = .int .i64 i := by generalize us.getD 1 undef = u at h1; cases h1; rfl
          have e2 : us.getD 2 undef = .int .i64 j := by generalize us.getD 2 undef = u at h2; cases h2; rfl
          rcases repV_ow h0 with ⟨g, tot, A, cap, hv, hμ, hl, hcap, hA⟩ | ⟨hv, hμ, _, hl0⟩
          · rcases hi.ob _ _ hk with ⟨b1, _⟩ | ⟨g', tot', arr, b1, b2, b3, b4, b5, b6, b7, b8, b9⟩
            · rw [hμ] at b1; cases b1
            · rw [hμ] at b1
              cases b1
              have hA' := hA (by omega)
              rw [Nat.zero_mul] at hA'
              subst hA'
              have hsz : zs.length ≤ arr.size := by rw [b3, Nat.mul_one]; simpa using b4
              have hcell : ∀ j, (hj : j < zs.length) → arr.getD j undef = encStr zs[j] := by
                intro j hj
                have := b8 j 0 (.s zs[j]) (by simp [at2, hj])
                rw [Nat.mul_one, Nat.add_zero] at this
                generalize arr.getD j undef = u at this
                cases this with
                | s x y h => rw [← h]
              have hH : Holds encStr w g 0 zs.toArray := by
                intro j hj
                have hj' : j < zs.length := by simpa using hj
                refine ⟨?_, ?_⟩
                · rw [b2.cell, Nat.zero_add, getD_of_getElem? (by omega), hcell j hj']
                  simp [hj']
                · obtain ⟨mk, hm1, hm2⟩ := b2
                  have := hm2 j (by omega)
                  simp only [World.frozen?, hm1]
                  simp; omega
              have hglt := b2.lt
              have hcapm : cap ≤ 9223372036854775807 := by
                have h5 : tot ≤ 2 ^ 63 - 1 := b5
                omega
              have hcall := hS g 0 cap i j zs w hH (by omega) hcapm (by omega) (by omega)
              rw [hus, hv, e1, e2, ← hzn]
              refine hcall.mono ?_
              rintro e w' ⟨rfl, m, rfl⟩
              generalize hnl : zs.take i ++ zs.drop j = nl
              have hnll : nl.length = zs.length - (j - i) := by rw [← hnl]; simp; omega
              generalize hd : (nl ++ List.replicate (j - i) []).toArray = d
              have hds : d.size = zs.length := by rw [← hd]; simp [hnll]; omega
              have hdg : ∀ q, (hq : q < nl.length) → d[q]! = nl[q] := by
                intro q hq
                rw [← hd]
                simp [List.getElem?_append_left hq, hq]
              have hheap : (putRow encStr (Sort.ahead w m) g 0 d).heap = (w.heap.modify g (onCells (putCells encStr 0 d))) := rfl
              generalize hW : putRow encStr (Sort.ahead w m) g 0 d = w' at hheap
              have hos : w'.os = w.os := by rw [← hW]; rfl
              have htp : w'.tape = w.tape := by rw [← hW]; rfl
              have hout : w'.output = w.output := by rw [← hW]; rfl
              have hasz : (putCells encStr 0 d arr).size = arr.size := by simp [putCells]
              have hag : ∀ j, (putCells encStr 0 d arr).getD j undef = if j < d.size then encStr d[j]! else arr.getD j undef := by
                intro j
                rw [Array.getD_eq_getD_getElem?, Array.getD_eq_getD_getElem?]
                simp only [putCells, Array.getElem?_mapIdx]
                by_cases hj : j < d.size
                · rw [if_pos hj, Array.getElem?_eq_getElem (by omega)]
                  simp [hj]
                · rw [if_neg hj]
                  cases arr[j]? with
                  | none => rfl
                  | some v => simp [hj]
              have hold : ∀ q, q < w.heap.size → q ≠ g → w'.heap[q]? = w.heap[q]? := by
                intro q hq hne
                rw [hheap, Array.getElem?_modify, if_neg (Ne.symm hne)]
              have hnew : RowAt w' g (putCells encStr 0 d arr) ty := by
                obtain ⟨mk, hm1, hm2⟩ := b2
                refine ⟨mk, ?_, fun j hj => hm2 j (by omega)⟩
                rw [hheap, Array.getElem?_modify, if_pos rfl, hm1]
                rfl
              obtain ⟨s1, s2⟩ := put_step (me := 0) (w' := w') hi k k (.row ty 1 (zs.map fun n => [.s n]) false) (.row ty 1 (nl.map fun x => [.s x]) false) hk rfl (some (g, tot)) (.inl ⟨rfl, hμ⟩) hos htp hout (by rw [hheap]; simp)
                (fun q hq hne => hold q hq (fun e => hne tot (by rw [e]; exact hμ))) (fun g' n2 h => .inr ⟨tot, by cases h; exact hμ⟩) rfl
                (fun hag2 => .inr ⟨g, tot, _, updμ_same _ _ _, hnew, by rw [hasz, b3], by simp [hnll] at b4 ⊢; omega, b5, fun c hc => by
                    obtain ⟨x, _, rfl⟩ := List.mem_map.1 hc
                    rfl, fun j hj => by
                    rw [hag]
                    by_cases hjd : j < d.size
                    · rw [if_pos hjd]; rfl
                    · rw [if_neg hjd]; exact b7 j (by omega), fun i j t ht => by
                    obtain ⟨c, hc1, hc2⟩ := at2_elim ht
                    rw [List.getElem?_map] at hc1
                    cases hy : nl[i]? with
                    | none => rw [hy] at hc1; cases hc1
                    | some x =>
                      rw [hy] at hc1
                      cases hc1
                      have hj := (List.getElem?_eq_some_iff.1 hc2).1
                      obtain rfl : j = 0 := by simpa using hj
                      cases hc2
                      have hil := (List.getElem?_eq_some_iff.1 hy).1
                      rw [Nat.mul_one, Nat.add_zero, hag, if_pos (by omega)]
                      have : d[i]! = x := by
                        rw [hdg i hil]
                        exact (List.getElem?_eq_some_iff.1 hy).2
                      rw [this]
                      exact .s _ _ rfl, by simp⟩)
              refine ⟨_, _, rfl, ?_, s1, s2.ck _ (by omega) _⟩
              rw [← hnll]
              exact .ow k 1 0 nl.length g tot (some ⟨g, 0, none⟩) cap (updμ_same _ _ _) (by omega) hcap (fun _ => by rw [Nat.zero_mul])
          · omega
        · cases hr
      · cases hr
    · cases hr
  · cases hr
end Go.Pev
