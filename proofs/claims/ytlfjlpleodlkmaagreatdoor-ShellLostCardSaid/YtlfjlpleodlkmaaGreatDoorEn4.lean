/- What this law leans on, of the framework and of the functions (by claimset.py). -/
import Derived.Test.YtlfjlpleodlkmaaGreatDoorEn3
import Derived.Lib.Join
import Derived.Sort.EncStr
import Derived.Lib.UnsafeStr
import Derived.Shelf.Strings.OnBuilder
import Derived.Test.YtlfjlpleodlkmaaGreatDoorEn2
import Derived.Lib.Split
import Derived.Lib.AtoiAll
import Derived.Lib.ItoaNum
import Derived.Lib.Strings
import Derived.Shelf.Strings.Split
import Derived.Shelf.Strings.Prefix
import Derived.Shelf.Strconv.AtoiAll
import Derived.Shelf.Strconv.Itoa3
import Derived.Shelf.Sort.Plain
import Derived.Shelf.Slices.Delete
import Derived.Test.YtlfjlpleodlkmaaGreatDoorProg
set_option linter.unusedVariables false
set_option linter.unusedSimpArgs false
namespace Go.Pev
open Go Go.RowKit
def strsOf : List (List T) → Option (List (List UInt8))
  | [] => some []
  | [.s y] :: r => (strsOf r).map (y :: ·)
  | _ => none
theorem strsOf_eq : ∀ {xs : List (List T)} {ys : List (List UInt8)}, strsOf xs = some ys → xs = ys.map fun y => [.s y]
  | [], ys, h => by cases h; rfl
  | [.s y] :: r, ys, h => by
    simp only [strsOf, Option.map_eq_some_iff] at h
    obtain ⟨zs, h1, rfl⟩ := h
    rw [strsOf_eq h1]; rfl
theorem strsOf_map : ∀ ys : List (List UInt8), strsOf (ys.map fun y => [.s y]) = some ys
  | [] => rfl
  | y :: r => by simp only [List.map_cons, strsOf, strsOf_map r, Option.map_some]
theorem below_nil {R : Rl} {w w' : World} {ck ck' : Nat} (hi : HInv R w [] ck (fun _ => False)) (hck : ck < ck') (hb : Below w.heap.size w w') : Grow R w [] R w' [] ∧ HInv R w' [] ck' (fun _ => False) := by
  have hown : ∀ g, ¬ Own R [] g := by rintro g ⟨k, o, n, h, _⟩; cases h
  refine ⟨⟨hb.os, hb.tape, hb.output, hb.size, fun g hg _ => hb.block g hg, fun _ h => h, rfl, fun _ _ h => h, fun _ h => .inl h, fun g h => absurd h (hown g)⟩, ?_⟩
  exact ⟨fun k o h => (by cases h), fun k1 k2 o1 o2 g n1 n2 h => (by cases h), fun g h => absurd h (hown g), fun g h => Nat.lt_of_lt_of_le (hi.sS g h) hb.size, fun g h => Nat.lt_of_lt_of_le (hi.sB g h) hb.size, fun k p h => by
    rcases hi.fr k p h with h | h
    · exact .inl (by omega)
    · exact h.2.elim, by simp, ⟨hi.gl.1, hi.gl.2.keep fun g hg => hb.block g ((hi.gl.1 g hg).elim (hi.sS g) (hi.sB g))⟩⟩
end Go.Pev
namespace Go.Pev
open Go Go.RowKit Go.Sort
open Go.Proofs (encStr)
def delP (args : List V) (h : HP) (ck : Nat) : Option (V × HP × Nat) :=
  match args with
  | [.ow k 1 0 n, .t (.i .i64 i), .t (.i .i64 j)] => match h.get k with
    | some (.row ty 1 els false) => match strsOf els with
      | some zs => if n = els.length ∧ 0 < n ∧ n ≤ 140737488355328 ∧ 0 ≤ i ∧ i ≤ j ∧ j ≤ n then
          some (.ow k 1 0 (zs.take i.toNat ++ zs.drop j.toNat).length, h.put k k (.row ty 1 ((zs.take i.toNat ++ zs.drop j.toNat).map fun x => [.s x]) false), ck + 1) else none
      | none => none
    | _ => none
  | _ => none
def DelSaid (P : Program) (f : FuncId) : Prop := ∀ (blk off cap i j : Nat) (zs : List (List UInt8)) (w : World), Holds encStr w blk off zs.toArray → zs.length ≤ cap → cap ≤ 9223372036854775807 → i ≤ j → j ≤ zs.length →
  Calls P f #[.slice (some ⟨blk, off, none⟩) zs.length cap, .int .i64 i, .int .i64 j] w fun e w' => e = .returned (.slice (some ⟨blk, off, none⟩) (zs.length - (j - i)) cap) ∧ ∃ q, w' = putRow encStr (Sort.ahead w q) blk off (zs.take i ++ zs.drop j ++ List.replicate (j - i) []).toArray
theorem del_ok {P : Program} {f : FuncId} (hS : DelSaid P f) (hg : goodFn P f = true) : ∀ args h ck r h' ck', delP args h ck = some (r, h', ck') → ∀ R w us, HInv R w h ck (fun _ => False) → ArgsRep R w us args → goodFn P f = true ∧ Calls P f us w (CPost R w h r h' ck' (fun _ => False)) := by
  intro args h ck r h' ck' hr R w us hi ha
  refine ⟨hg, ?_⟩
  unfold delP at hr
  split at hr
  · rename_i k n i j
    split at hr
    · rename_i ty els hk
      split at hr
      · rename_i zs hz
        split at hr
        · rename_i hc
          obtain ⟨hn, hn0, hnb, hi0, hij, hjn⟩ := hc
          obtain ⟨i, rfl⟩ : ∃ m : Nat, i = m := ⟨i.toNat, by omega⟩
          obtain ⟨j, rfl⟩ : ∃ m : Nat, j = m := ⟨j.toNat, by omega⟩
          simp only [Int.toNat_natCast] at hr
          cases hr
          obtain rfl := strsOf_eq hz
          have hzn : zs.length = n := by rw [hn]; simp
          have h0 := ha.2 0 _ rfl
          have h1 := repV_tl (ha.2 1 _ rfl)
          have h2 := repV_tl (ha.2 2 _ rfl)
          have hus : us = #[us.getD 0 undef, us.getD 1 undef, us.getD 2 undef] := by
            have h1 : us.size = 3 := ha.1.symm ▸ rfl
            apply Array.ext
            · simp [h1]
            · intro q hq1 hq2
              have : q = 0 ∨ q = 1 ∨ q = 2 := by omega
              rcases this with rfl | rfl | rfl <;> simp [Array.getD_eq_getD_getElem?, h1]
          have e1 : us.getD 1 undef = .int .i64 i := by generalize us.getD 1 undef = u at h1; cases h1; rfl
          have e2 : us.getD 2 undef = .int .i64 j := by generalize us.getD 2 undef = u at h2; cases h2; rfl
          rcases repV_ow h0 with ⟨g, tot, A, cap, hv, hμ, hl, hcap, hA⟩ | ⟨hv, hμ, _, hl0⟩
          · rcases hi.ob _ _ hk with ⟨b1, _⟩ | ⟨g', tot', arr, b1, b2, b3, b4, b5, b6, b7, b8, b9⟩
            · rw [hμ] at b1; cases b1
            · rw [hμ] at b1
              cases b1
              have hA' := hA (by omega)
              rw [Nat.zero_mul] at hA'
              subst hA'
              have hsz : zs.length ≤ arr.size := by rw [b3, Nat.mul_one]; simpa using b4
              have hcell : ∀ j, (hj : j < zs.length) → arr.getD j undef = encStr zs[j] := by
                intro j hj
                have := b8 j 0 (.s zs[j]) (by simp [at2, hj])
                rw [Nat.mul_one, Nat.add_zero] at this
                generalize arr.getD j undef = u at this
                cases this with
                | s x y h => rw [← h]
              have hH : Holds encStr w g 0 zs.toArray := by
                intro j hj
                have hj' : j < zs.length := by simpa using hj
                refine ⟨?_, ?_⟩
                · rw [b2.cell, Nat.zero_add, getD_of_getElem? (by omega), hcell j hj']
                  simp [hj']
                · obtain ⟨mk, hm1, hm2⟩ := b2
                  have := hm2 j (by omega)
                  simp only [World.frozen?, hm1]
                  simp; omega
              have hglt := b2.lt
              have hcapm : cap ≤ 9223372036854775807 := by
                have h5 : tot ≤ 2 ^ 63 - 1 := b5
                omega
              have hcall := hS g 0 cap i j zs w hH (by omega) hcapm (by omega) (by omega)
              rw [hus, hv, e1, e2, ← hzn]
              refine hcall.mono ?_
              rintro e w' ⟨rfl, m, rfl⟩
              generalize hnl : zs.take i ++ zs.drop j = nl
              have hnll : nl.length = zs.length - (j - i) := by rw [← hnl]; simp; omega
              generalize hd : (nl ++ List.replicate (j - i) []).toArray = d
              have hds : d.size = zs.length := by rw [← hd]; simp [hnll]; omega
              have hdg : ∀ q, (hq : q < nl.length) → d[q]! = nl[q] := by
                intro q hq
                rw [← hd]
                simp [List.getElem?_append_left hq, hq]
              have hheap : (putRow encStr (Sort.ahead w m) g 0 d).heap = (w.heap.modify g (onCells (putCells encStr 0 d))) := rfl
              generalize hW : putRow encStr (Sort.ahead w m) g 0 d = w' at hheap
              have hos : w'.os = w.os := by rw [← hW]; rfl
              have htp : w'.tape = w.tape := by rw [← hW]; rfl
              have hout : w'.output = w.output := by rw [← hW]; rfl
              have hasz : (putCells encStr 0 d arr).size = arr.size := by simp [putCells]
              have hag : ∀ j, (putCells encStr 0 d arr).getD j undef = if j < d.size then encStr d[j]! else arr.getD j undef := by
                intro j
                rw [Array.getD_eq_getD_getElem?, Array.getD_eq_getD_getElem?]
                simp only [putCells, Array.getElem?_mapIdx]
                by_cases hj : j < d.size
                · rw [if_pos hj, Array.getElem?_eq_getElem (by omega)]
                  simp [hj]
                · rw [if_neg hj]
                  cases arr[j]? with
                  | none => rfl
                  | some v => simp [hj]
              have hold : ∀ q, q < w.heap.size → q ≠ g → w'.heap[q]? = w.heap[q]? := by
                intro q hq hne
                rw [hheap, Array.getElem?_modify, if_neg (Ne.symm hne)]
              have hnew : RowAt w' g (putCells encStr 0 d arr) ty := by
                obtain ⟨mk, hm1, hm2⟩ := b2
                refine ⟨mk, ?_, fun j hj => hm2 j (by omega)⟩
                rw [hheap, Array.getElem?_modify, if_pos rfl, hm1]
                rfl
              obtain ⟨s1, s2⟩ := put_step (me := 0) (w' := w') hi k k (.row ty 1 (zs.map fun n => [.s n]) false) (.row ty 1 (nl.map fun x => [.s x]) false) hk rfl (some (g, tot)) (.inl ⟨rfl, hμ⟩) hos htp hout (by rw [hheap]; simp)
                (fun q hq hne => hold q hq (fun e => hne tot (by rw [e]; exact hμ))) (fun g' n2 h => .inr ⟨tot, by cases h; exact hμ⟩) rfl
                (fun hag2 => .inr ⟨g, tot, _, updμ_same _ _ _, hnew, by rw [hasz, b3], by simp [hnll] at b4 ⊢; omega, b5, fun c hc => by
                    obtain ⟨x, _, rfl⟩ := List.mem_map.1 hc
                    rfl, fun j hj => by
                    rw [hag]
                    by_cases hjd : j < d.size
                    · rw [if_pos hjd]; rfl
                    · rw [if_neg hjd]; exact b7 j (by omega), fun i j t ht => by
                    obtain ⟨c, hc1, hc2⟩ := at2_elim ht
                    rw [List.getElem?_map] at hc1
                    cases hy : nl[i]? with
                    | none => rw [hy] at hc1; cases hc1
                    | some x =>
                      rw [hy] at hc1
                      cases hc1
                      have hj := (List.getElem?_eq_some_iff.1 hc2).1
                      obtain rfl : j = 0 := by simpa using hj
                      cases hc2
                      have hil := (List.getElem?_eq_some_iff.1 hy).1
                      rw [Nat.mul_one, Nat.add_zero, hag, if_pos (by omega)]
                      have : d[i]! = x := by
                        rw [hdg i hil]
                        exact (List.getElem?_eq_some_iff.1 hy).2
                      rw [this]
                      exact .s _ _ rfl, by simp⟩)
              refine ⟨_, _, rfl, ?_, s1, s2.ck _ (by omega) _⟩
              rw [← hnll]
              exact .ow k 1 0 nl.length g tot (some ⟨g, 0, none⟩) cap (updμ_same _ _ _) (by omega) hcap (fun _ => by rw [Nat.zero_mul])
          · omega
        · cases hr
      · cases hr
    · cases hr
  · cases hr
end Go.Pev
namespace Go.Pev
open Go Go.RowKit
theorem cell_of_heap0 {w : World} {g : Nat} {arr : Array Value} {ty : TypeId} {fz : Nat × Nat} (h : w.heap[g]? = some (.cells arr ty fz)) {j : Nat} (hj : j < arr.size) : w.cell? ⟨g, j, none⟩ = some (arr.getD j undef) := by
  rw [Array.getD_eq_getD_getElem?, Array.getElem?_eq_getElem hj]
  simp [World.cell?, h, hj]
def ckP (ty0 : Nat) (args : List V) (h : HP) (ck : Nat) : Option (V × HP × Nat) :=
  match args with
  | [.pt k 2 0 0] => match h.get k with
    | some (.box ty [.t .np, x]) => if ty = ty0 then some (.tu [], h.put k k (.box ty [.pt k 2 0 0, x]), ck + 1) else none
    | some (.box ty [.pt k2 2 0 0, x]) => if ty = ty0 ∧ k2 = k then some (.tu [], h, ck + 1) else none
    | _ => none
  | _ => none
def CkSaid (P : Program) (f : FuncId) (ty : Nat) : Prop :=
  (∀ (b : Nat) (w : World), w.cell? ⟨b, 0, none⟩ = some (.pointer (some ⟨b, 0, none⟩)) → Calls P f #[.pointer (some ⟨b, 0, none⟩)] w fun e w' => e = .returned (.tuple #[]) ∧ w' = w) ∧
  (∀ (b : Nat) (w : World), w.cell? ⟨b, 0, none⟩ = some (.pointer none) → w.shape? b = some (ty, 2) → w.frozen? ⟨b, 0, none⟩ = false → Calls P f #[.pointer (some ⟨b, 0, none⟩)] w fun e w' => e = .returned (.tuple #[]) ∧ w' = w.setCell ⟨b, 0, none⟩ (.pointer (some ⟨b, 0, none⟩)))
theorem pt_arg {R : Rl} {w : World} {us : Array Value} {k : Key} (ha : ArgsRep R w us [.pt k 2 0 0]) : ∃ g n, R.μ k = some (some (g, n)) ∧ us = #[.pointer (some ⟨g, 0, none⟩)] := by
  have h0 := ha.2 0 _ rfl
  have h1 : us.size = 1 := ha.1.symm ▸ rfl
  have hus : us = #[us.getD 0 undef] := by
    apply Array.ext
    · simp [h1]
    · intro i hi1 hi2
      obtain rfl : i = 0 := by omega
      simp [Array.getD, h1]
  rw [hus]
  generalize us.getD 0 undef = u at h0 ⊢
  cases h0 with
  | pt k sz i j g n hμ => exact ⟨g, n, hμ, rfl⟩
theorem ck_ok {P : Program} {f : FuncId} {ty : Nat} (hS : CkSaid P f ty) (hg : goodFn P f = true) : ∀ args h ck r h' ck', ckP ty args h ck = some (r, h', ck') → ∀ R w us, HInv R w h ck (fun _ => False) → ArgsRep R w us args → goodFn P f = true ∧ Calls P f us w (CPost R w h r h' ck' (fun _ => False)) := by
  intro args h ck r h' ck' hr R w us hi ha
  refine ⟨hg, ?_⟩
  unfold ckP at hr
  split at hr
  · rename_i k
    obtain ⟨g, n, hμ, rfl⟩ := pt_arg ha
    split at hr
    · rename_i ty' x hk
      by_cases ht : ty' = ty
      · rw [if_pos ht] at hr
        cases hr
        subst ht
        obtain ⟨g', n', arr, b1, b2, b3, b4, b5⟩ := hi.ob _ _ hk
        rw [hμ] at b1; cases b1
        have hsz : arr.size = 2 := b3
        have h0 : arr.getD 0 undef = .pointer none := by
          have := repV_tl (b5 0 _ rfl)
          generalize arr.getD 0 undef = u at this
          cases this; rfl
        have hc : w.cell? ⟨g, 0, none⟩ = some (.pointer none) := by
          rw [← h0]; exact cell_of_heap0 b2 (by omega)
        refine (hS.2 g w hc (by simp [World.shape?, b2, hsz]) (by simp [World.frozen?, b2])).mono ?_
        rintro e w' ⟨rfl, rfl⟩
        obtain ⟨s1, s2⟩ := put_step (me := 0) (w' := w.setCell ⟨g, 0, none⟩ (.pointer (some ⟨g, 0, none⟩))) hi k k (.box ty' [.t .np, x]) (.box ty' [.pt k 2 0 0, x]) hk rfl (some (g, n)) (.inl ⟨rfl, hμ⟩) rfl rfl rfl (by simp [World.setCell])
          (fun q hq hne => by
            simp only [World.setCell, Array.getElem?_modify]
            rw [if_neg (fun e => hne n (by rw [← e]; exact hμ))]) (fun g' n2 h => .inr ⟨n, by cases h; exact hμ⟩) rfl
          (fun hag => ⟨g, n, arr.setIfInBounds 0 (.pointer (some ⟨g, 0, none⟩)), updμ_same _ _ _, by simp [World.setCell, Array.getElem?_modify, b2], by simp [hsz], fun j hj => by
              rw [Array.getD_eq_getD_getElem?, Array.getElem?_setIfInBounds]
              by_cases e : 0 = j
              · subst e; rw [if_pos rfl, if_pos (by omega)]; rfl
              · rw [if_neg e, ← Array.getD_eq_getD_getElem?]; exact b4 j (by simpa using hj), fun j v hv => by
              rw [Array.getD_eq_getD_getElem?, Array.getElem?_setIfInBounds]
              match j, hv with
              | 0, hv =>
                rw [if_pos rfl, if_pos (by omega)]
                cases hv
                have := RepV.pt (R := { R with μ := updμ R.μ k (some (g, n)) }) (w := w.setCell ⟨g, 0, none⟩ (.pointer (some ⟨g, 0, none⟩))) k 2 0 0 g n (updμ_same _ _ _)
                exact this
              | 1, hv =>
                rw [if_neg (by omega), ← Array.getD_eq_getD_getElem?]
                exact (b5 1 v hv).mono hag
              | j + 2, hv => cases hv⟩)
        exact ⟨_, _, rfl, .tu _ _ rfl (by intro j v h; cases h), s1, s2.ck _ (by omega) _⟩
      · rw [if_neg ht] at hr; cases hr
    · rename_i ty' k2 x hk
      by_cases ht : ty' = ty ∧ k2 = k
      · rw [if_pos ht] at hr
        cases hr
        obtain ⟨rfl, rfl⟩ := ht
        obtain ⟨g', n', arr, b1, b2, b3, b4, b5⟩ := hi.ob _ _ hk
        rw [hμ] at b1; cases b1
        have hsz : arr.size = 2 := b3
        have h0 : arr.getD 0 undef = .pointer (some ⟨g, 0, none⟩) := by
          have := b5 0 _ rfl
          generalize arr.getD 0 undef = u at this
          cases this with
          | pt k sz i j g2 n2 hμ2 => rw [hμ] at hμ2; cases hμ2; rfl
        have hc : w.cell? ⟨g, 0, none⟩ = some (.pointer (some ⟨g, 0, none⟩)) := by
          rw [← h0]; exact cell_of_heap0 b2 (by omega)
        refine (hS.1 g w hc).mono ?_
        rintro e w' ⟨rfl, rfl⟩
        exact ⟨_, R, rfl, .tu _ _ rfl (by intro j v h; cases h), Grow.refl _ _ _, hi.ck _ (by omega) _⟩
      · rw [if_neg ht] at hr; cases hr
    · cases hr
  · cases hr
def u8x : List (List T) → Option (List UInt8)
  | [] => some []
  | [.i .u8 n] :: r => if 0 ≤ n ∧ n ≤ 255 then (u8x r).map (UInt8.ofNat n.toNat :: ·) else none
  | _ => none
theorem u8x_eq : ∀ {els : List (List T)} {bs : List UInt8}, u8x els = some bs → els = bytesT bs
  | [], bs, h => by cases h; rfl
  | [.i .u8 n] :: r, bs, h => by
    simp only [u8x] at h
    split at h
    · rename_i hn
      obtain ⟨ys, h1, rfl⟩ := Option.map_eq_some_iff.1 h
      rw [u8x_eq h1]
      have e : ((UInt8.ofNat n.toNat).toNat : Int) = n := by
        rw [UInt8.toNat_ofNat', Nat.mod_eq_of_lt (by omega)]; omega
      unfold bytesT
      simp only [List.map_cons, e]
    · cases h
theorem u8x_bytes : ∀ bs : List UInt8, u8x (bytesT bs) = some bs
  | [] => rfl
  | b :: r => by
    have h : 0 ≤ (b.toNat : Int) ∧ (b.toNat : Int) ≤ 255 := by have := b.toNat_lt; omega
    have ih := u8x_bytes r
    unfold bytesT at ih ⊢
    simp only [List.map_cons, u8x, if_pos h, ih, Option.map_some, Int.toNat_natCast, UInt8.ofNat_toNat]
def strP (ty0 e0 : Nat) (args : List V) (h : HP) (ck : Nat) : Option (V × HP × Nat) :=
  match args with
  | [.pt k 2 0 0] => match h.get k with
    | some (.box ty [a, .ow k2 1 0 len]) => match h.get k2 with
      | some (.row e 1 els false) => match u8x els with
        | some bs => if ty = ty0 ∧ e = e0 ∧ len = els.length ∧ 0 < len then some (.t (.s bs), (h.del k2).put k k (.bls ty e bs), ck + 1) else none
        | none => none
      | _ => none
    | some (.bls ty e bs) => if ty = ty0 ∧ e = e0 then some (.t (.s bs), h, ck + 1) else none
    | _ => none
  | _ => none
def StrSaid (P : Program) (f : FuncId) (ty e0 : Nat) : Prop :=
  ∀ (b g : Nat) (p : Value) (l : List UInt8) (cap : Nat) (cur : Array Value) (e : TypeId) (fz : Nat × Nat) (w : World), l ≠ [] → e = e0 → w.heap[b]? = some (.cells #[p, .slice (some ⟨g, 0, none⟩) l.length cap] ty (0, 0)) → w.heap[g]? = some (.cells cur e fz) → l.length ≤ cap → cap ≤ maxLen → cur.size = cap → (∀ (j : Nat) x, l[j]? = some x → cur.getD j undef = .int .u8 x.toNat) →
    Calls P f #[.pointer (some ⟨b, 0, none⟩)] w fun e w' => e = .returned (.string ⟨l.toArray⟩) ∧ w' = w.drew.freeze ⟨g, 0, none⟩ l.length
theorem freeze_heap (w : World) (g n : Nat) (hn : n ≠ 0) (q : Nat) (hq : q ≠ g) : (w.drew.freeze ⟨g, 0, none⟩ n).heap[q]? = w.heap[q]? := by
  unfold World.freeze
  rw [if_neg hn]
  simp only [Array.getElem?_modify]
  rw [if_neg (Ne.symm hq)]; rfl
theorem freeze_rest (w : World) (g n : Nat) : (w.drew.freeze ⟨g, 0, none⟩ n).os = w.os ∧ (w.drew.freeze ⟨g, 0, none⟩ n).tape = w.tape ∧ (w.drew.freeze ⟨g, 0, none⟩ n).output = w.output ∧ (w.drew.freeze ⟨g, 0, none⟩ n).heap.size = w.heap.size := by
  unfold World.freeze
  split
  · exact ⟨rfl, rfl, rfl, rfl⟩
  · exact ⟨rfl, rfl, rfl, by rw [Array.size_modify]; rfl⟩
theorem freeze_at (w : World) (g n : Nat) (hn : n ≠ 0) {cur : Array Value} {e : TypeId} {fz : Nat × Nat} (h : w.heap[g]? = some (.cells cur e fz)) : ∃ mk : Nat × Nat, (w.drew.freeze ⟨g, 0, none⟩ n).heap[g]? = some (.cells cur e mk) ∧ mk.1 = 0 ∧ n ≤ mk.2 ∧ (fz.1 = 0 ∧ n ≤ fz.2 → mk = fz) := by
  obtain ⟨lo, hi⟩ := fz
  unfold World.freeze
  rw [if_neg hn]
  have h' : w.drew.heap[g]? = some (.cells cur e (lo, hi)) := h
  simp only [Array.getElem?_modify, h', if_true, Option.map_some]
  refine ⟨_, rfl, ?_⟩
  by_cases c : lo = hi
  · simp only [c, beq_self_eq_true, if_true]
    refine ⟨trivial, by omega, fun ⟨a, b⟩ => by omega⟩
  · have c' : (lo == hi) = false := by simpa using c
    simp only [c', Bool.false_eq_true, if_false]
    refine ⟨by omega, by omega, fun ⟨a, b⟩ => ?_⟩
    have e1 : min lo 0 = lo := by omega
    have e2 : max hi (0 + n) = hi := by omega
    rw [e1, e2]
theorem del_get {h : HP} (nd : (h.map Prod.fst).Nodup) (k q : Key) : (h.del k).get q = if q = k then none else h.get q := by
  induction h with
  | nil => simp [HP.del, HP.get]
  | cons p r ih =>
    obtain ⟨k', o'⟩ := p
    simp only [List.map_cons, List.nodup_cons] at nd
    simp only [HP.del]
    by_cases e : k' = k
    · subst e
      rw [if_pos rfl]
      simp only [HP.get]
      by_cases e2 : q = k'
      · subst e2
        rw [if_pos rfl]; exact HP.get_none nd.1
      · rw [if_neg e2, if_neg (Ne.symm e2)]
    · rw [if_neg e]
      simp only [HP.get]
      by_cases e2 : k' = q
      · subst e2
        rw [if_pos rfl, if_neg e, if_pos rfl]
      · rw [if_neg e2, if_neg e2]
        exact ih nd.2
theorem del_keys (h : HP) (k q : Key) (hq : q ∈ (h.del k).map Prod.fst) : q ∈ h.map Prod.fst := by
  induction h with
  | nil => simp [HP.del] at hq
  | cons p r ih =>
    obtain ⟨k', o'⟩ := p
    simp only [HP.del] at hq
    by_cases e : k' = k
    · rw [if_pos e] at hq; exact List.mem_cons_of_mem _ hq
    · rw [if_neg e] at hq
      rcases List.mem_cons.1 hq with h | h
      · exact List.mem_cons.2 (.inl h)
      · exact List.mem_cons_of_mem _ (ih h)
theorem del_nd {h : HP} (nd : (h.map Prod.fst).Nodup) (k : Key) : ((h.del k).map Prod.fst).Nodup := by
  induction h with
  | nil => simp [HP.del]
  | cons p r ih =>
    obtain ⟨k', o'⟩ := p
    simp only [List.map_cons, List.nodup_cons] at nd
    simp only [HP.del]
    by_cases e : k' = k
    · rw [if_pos e]; exact nd.2
    · rw [if_neg e]
      simp only [List.map_cons, List.nodup_cons]
      exact ⟨fun hm => nd.1 (del_keys r k k' hm), ih nd.2⟩
set_option maxHeartbeats 1000000 in
theorem str_ok {P : Program} {f : FuncId} {ty e0 : Nat} (hS : StrSaid P f ty e0) (hg : goodFn P f = true) : ∀ args h ck r h' ck', strP ty e0 args h ck = some (r, h', ck') → ∀ R w us, HInv R w h ck (fun _ => False) → ArgsRep R w us args → goodFn P f = true ∧ Calls P f us w (CPost R w h r h' ck' (fun _ => False)) := by
  intro args h ck r h' ck' hr R w us hi ha
  refine ⟨hg, ?_⟩
  unfold strP at hr
  split at hr
  · rename_i k
    obtain ⟨g, n, hμ, rfl⟩ := pt_arg ha
    split at hr
    · rename_i ty' a k2 len hk
      split at hr
      · rename_i e els hk2
        split at hr
        · rename_i bs hb
          by_cases hc : ty' = ty ∧ e = e0 ∧ len = els.length ∧ 0 < len
          · rw [if_pos hc] at hr
            cases hr
            obtain ⟨rfl, rfl, rfl, hpos⟩ := hc
            have hels := u8x_eq hb
            have hlen : els.length = bs.length := by rw [hels]; simp [bytesT]
            obtain ⟨g', n', arr, b1, b2, b3, b4, b5⟩ := hi.ob _ _ hk
            rw [hμ] at b1; cases b1
            have hsz : arr.size = 2 := b3
            have r1 := b5 1 _ rfl
            rcases repV_ow r1 with ⟨g2, tot, A, cap, hvx, hμ2, hl, hcap, hA⟩ | ⟨_, _, _, hl0⟩
            · rcases hi.ob _ _ hk2 with ⟨c1, _⟩ | ⟨g3, tot3, cur, c1, c2, c3, c4, c5, c6, c7, c8, _⟩
              · rw [hμ2] at c1; cases c1
              · rw [hμ2] at c1; cases c1
                obtain rfl : cap = tot := by omega
                have hAe := hA (by omega)
                rw [Nat.zero_mul] at hAe
                subst hAe
                have hne0 : bs.length ≠ 0 := by omega
                have harr : arr = #[arr.getD 0 undef, .slice (some ⟨g2, 0, none⟩) bs.length cap] := by
                  rw [← hlen, ← hvx]
                  rcases arr with ⟨l⟩
                  match l, hsz with
                  | [x, y], _ => rfl
                obtain ⟨mk0, c2h, _⟩ := c2
                have hcell : ∀ (j : Nat) x, bs[j]? = some x → cur.getD j undef = .int .u8 x.toNat := by
                  intro j x hx
                  have := c8 j 0 (.i .u8 x.toNat) (by rw [hels]; simp [at2, bytesT, hx])
                  rw [Nat.mul_one, Nat.add_zero] at this
                  generalize cur.getD j undef = u at this
                  cases this; rfl
                rw [harr] at b2
                refine (hS g g2 _ bs cap cur e mk0 w (by intro h; rw [h] at hne0; exact hne0 rfl) rfl b2 c2h (by omega) c5 (by rw [c3, Nat.mul_one]) hcell).mono ?_
                rintro x w' ⟨rfl, rfl⟩
                obtain ⟨mk, m1, m2, m3, _⟩ := freeze_at w g2 bs.length hne0 c2h
                have hold := freeze_heap w g2 bs.length hne0
                obtain ⟨f1, f2, f3, f4⟩ := freeze_rest w g2 bs.length
                generalize w.drew.freeze ⟨g2, 0, none⟩ bs.length = w' at m1 hold f1 f2 f3 f4
                have hkk : k ≠ k2 := by rintro rfl; rw [hk] at hk2; cases hk2
                have hown2 : Own R h g2 := ⟨k2, _, _, hk2, rfl, hμ2⟩
                have hgg : g ≠ g2 := by
                  rintro rfl
                  exact hkk (hi.sep k2 k _ _ g _ _ hk2 hk rfl hμ2 hμ).symm
                have hget : ∀ q, ((h.del k2).put k k (.bls ty' e bs)).get q = if q = k then some (.bls ty' e bs) else if q = k2 then none else h.get q := by
                  intro q
                  simp only [get_put1, del_get hi.nd]
                  by_cases e1 : q = k
                  · rw [if_pos e1, if_pos e1, if_neg hkk, hk]; rfl
                  · rw [if_neg e1, if_neg e1]
                have hback : ∀ q o, ((h.del k2).put k k (.bls ty' e bs)).get q = some o → q ≠ k2 ∧ ∃ o', h.get q = some o' ∧ live o' = live o ∧ (q ≠ k → o' = o) ∧ (q = k → o = .bls ty' e bs) := by
                  intro q o ho
                  rw [hget] at ho
                  by_cases e1 : q = k
                  · rw [if_pos e1] at ho; cases ho
                    exact ⟨by rw [e1]; exact hkk, .box ty' [a, .ow k2 1 0 els.length], by rw [e1]; exact hk, rfl, fun h => absurd e1 h, fun _ => rfl⟩
                  · rw [if_neg e1] at ho
                    by_cases e2 : q = k2
                    · rw [if_pos e2] at ho; cases ho
                    · rw [if_neg e2] at ho
                      exact ⟨e2, o, ho, rfl, fun _ => rfl, fun h => absurd h e1⟩
                have hne2 : ∀ q o n', q ≠ k2 → h.get q = some o → R.μ q = some (some (g2, n')) → False := fun q o n' hq ho hm => hq (hi.sep k2 q _ _ g2 _ _ hk2 ho rfl hμ2 hm).symm
                have hag : Agree R w (R.withS fun q => q = g2) w' := ⟨fun _ h => .inl h, fun _ h => h, fun _ _ h => h, fun q hq => hold q (fun e => (hi.own g2 hown2).1 (e ▸ hq)), fun q hq => hold q (fun e => (hi.own g2 hown2).2 (e ▸ hq))⟩
                have hown' : ∀ q, Own (R.withS fun q => q = g2) ((h.del k2).put k k (.bls ty' e bs)) q → Own R h q ∧ q ≠ g2 := by
                  rintro q ⟨x, o, n', h1, h2, h3⟩
                  obtain ⟨x1, o', x2, x3, _⟩ := hback x o h1
                  exact ⟨⟨x, o', n', x2, by rw [x3]; exact h2, h3⟩, by rintro rfl; exact hne2 x o' n' x1 x2 h3⟩
                refine ⟨_, R.withS fun q => q = g2, rfl, .t (.s _ _ rfl), ⟨f1, f2, f3, by rw [f4]; exact Nat.le_refl _, fun q _ hq => hold q (fun e => hq (e ▸ hown2)), fun _ h => .inl h, rfl, fun _ _ h => h, ?_, fun q hq => .inr (hown' q hq).1⟩, ⟨?_, ?_, ?_, ?_, ?_, ?_, ?_, gl_keep hi.gl hag⟩⟩
                · rintro q (hq | rfl)
                  · exact .inl hq
                  · exact .inr (.inr hown2)
                · intro q o ho
                  obtain ⟨x1, o', x2, x3, x4, x5⟩ := hback q o ho
                  by_cases e1 : q = k
                  · rw [x5 e1, e1]
                    exact ⟨g, n, _, g2, cap, cur, mk, hμ, (hold g hgg).trans b2, .inr rfl, m1, m2, m3, by omega, by omega, c5, by rw [c3, Nat.mul_one], hcell⟩
                  · have := x4 e1
                    subst this
                    exact (hi.ob q o' x2).mono hag (fun g' n' hm => hold g' (by rintro rfl; exact hne2 q o' n' x1 x2 hm))
                · intro q1 q2 o1 o2 g' n1 n2 h1 h2 h3 h4 h5
                  obtain ⟨_, o1', x2, x3, _⟩ := hback q1 o1 h1
                  obtain ⟨_, o2', y2, _⟩ := hback q2 o2 h2
                  exact hi.sep q1 q2 o1' o2' g' n1 n2 x2 y2 (by rw [x3]; exact h3) h4 h5
                · intro q hq
                  obtain ⟨x1, x2⟩ := hown' q hq
                  exact ⟨fun h => h.elim (hi.own q x1).1 x2, (hi.own q x1).2⟩
                · rintro q (hq | rfl)
                  · rw [f4]; exact hi.sS q hq
                  · rw [f4]; exact (Array.getElem?_eq_some_iff.1 c2h).1
                · intro q hq; rw [f4]; exact hi.sB q hq
                · intro q p hq
                  rcases hi.fr q p hq with h1 | h1
                  · exact .inl (by omega)
                  · exact h1.2.elim
                · exact HP.nodup_put (del_nd hi.nd k2) (HP.mem_of_get (by rw [del_get hi.nd, if_neg hkk]; exact hk)) (.inl rfl)
            · omega
          · rw [if_neg hc] at hr; cases hr
        · cases hr
      · cases hr
    · rename_i ty' e bs hk
      by_cases ht : ty' = ty ∧ e = e0
      · rw [if_pos ht] at hr
        cases hr
        obtain ⟨rfl, rfl⟩ := ht
        obtain ⟨g', n', p, g2, cap, cur, mk, b1, b2, b3, b4, b5, b6, b7, b8, b9, b10, b11⟩ := hi.ob _ _ hk
        rw [hμ] at b1; cases b1
        have hne0 : bs.length ≠ 0 := by omega
        refine (hS g g2 p bs cap cur e mk w (by intro h; rw [h] at hne0; exact hne0 rfl) rfl b2 b4 b8 b9 b10 b11).mono ?_
        rintro x w' ⟨rfl, rfl⟩
        obtain ⟨mk2, m1, m2, m3, m4⟩ := freeze_at w g2 bs.length hne0 b4
        have hold := freeze_heap w g2 bs.length hne0
        obtain ⟨f1, f2, f3, f4⟩ := freeze_rest w g2 bs.length
        generalize w.drew.freeze ⟨g2, 0, none⟩ bs.length = w' at m1 hold f1 f2 f3 f4
        rw [m4 ⟨b5, b6⟩] at m1
        have hall : ∀ q, w'.heap[q]? = w.heap[q]? := fun q => by
          by_cases e : q = g2
          · rw [e, m1, b4]
          · exact hold q e
        have hag : Agree R w R w' := ⟨fun _ h => h, fun _ h => h, fun _ _ h => h, fun q _ => hall q, fun q _ => hall q⟩
        exact ⟨_, R, rfl, .t (.s _ _ rfl), ⟨f1, f2, f3, by rw [f4]; exact Nat.le_refl _, fun q _ _ => hall q, fun _ h => h, rfl, fun _ _ h => h, fun _ h => .inl h, fun _ h => .inr h⟩, ⟨fun q o ho => (hi.ob q o ho).mono hag (fun g' _ _ => hall g'), hi.sep, hi.own, fun q hq => by rw [f4]; exact hi.sS q hq, fun q hq => by rw [f4]; exact hi.sB q hq, fun q p hq => (hi.fr q p hq).elim (fun h1 => .inl (by omega)) (fun h1 => h1.2.elim), hi.nd, gl_keep hi.gl hag⟩⟩
      · rw [if_neg ht] at hr; cases hr
    · cases hr
  · cases hr
end Go.Pev
namespace Go.Pev
open Go Go.Shelf Go.RowKit Go.Proofs
section
variable {P : Program} {ρ : Ren}
theorem ckSaid_of (L : Lays.n240 P ρ) (X : Builder.X72 P ρ) : CkSaid P (ρ.f 240) (ρ.t 72) :=
  ⟨fun b w h => Any.Builder_copyCheck_used L X b w h, fun b w h1 h2 h3 => Any.Builder_copyCheck_fresh L X b w h1 h2 h3⟩
set_option maxHeartbeats 2000000 in
set_option maxRecDepth 100000 in
theorem strSaid_of (L : Lays.n169 P ρ) (X : Builder.Extra P ρ) : StrSaid P (ρ.f 169) (ρ.t 72) (ρ.t 5) := by
  intro b g p l cap cur e fz w h0 he hbk hg hnc hcm hcs hcell
  subst he
  have hl0 : l.length ≠ 0 := by simpa using h0
  have c1 : w.drew.cell? ⟨b, 1, none⟩ = some (.slice (some ⟨g, 0, none⟩) l.length cap) := by
    have : w.drew.heap[b]? = some (.cells #[p, .slice (some ⟨g, 0, none⟩) l.length cap] (ρ.t 72) (0, 0)) := hbk
    rw [Lib.cell_of_heap this]; rfl
  have hSD : (Builtin.unsafeSliceData_ #[(ρ.t 37)] (ρ.t 127) #[.slice (some ⟨g, 0, none⟩) l.length cap]).run P w.drew = .ok (.pointer (some ⟨g, 0, none⟩)) w.drew :=
    Lib.run_unsafeSliceData_row _ _ _ _ _ _ (by omega)
  have hUS : (Builtin.unsafeString_ #[(ρ.t 127), (ρ.t 3)] (ρ.t 9) #[.pointer (some ⟨g, 0, none⟩), .int .i64 l.length]).run P w.drew = .ok (.string ⟨l.toArray⟩) (w.drew.freeze ⟨g, 0, none⟩ l.length) := by
    refine Lib.run_unsafeString_row w.drew (ρ.t 127) (ρ.t 3) (ρ.t 9) (ρ.t 5) L.t127 X.cellsByte g cur.size (by have hg' : w.drew.heap[g]? = some (.cells cur (ρ.t 5) fz) := hg; simp [World.shape?, hg']) l h0 (by omega) (by unfold maxLen at hcm; omega) ?_
    intro j x hx
    have hj := (List.getElem?_eq_some_iff.1 hx).1
    have hg' : w.drew.heap[g]? = some (.cells cur (ρ.t 5) fz) := hg
    have e1 : ((⟨g, 0, none⟩ : Addr).add j) = ⟨g, j, none⟩ := by simp [Addr.add]; omega
    rw [e1, Lib.cell_of_heap hg', Array.getElem?_eq_getElem (by omega)]
    have := hcell j x hx
    rw [Array.getD_eq_getD_getElem?, Array.getElem?_eq_getElem (by omega)] at this
    exact congrArg some this
  have mixed := L.mixed
  have t72 := L.t72; have a72 := L.a72; have z72 := L.z72; have v72 := L.v72; have u72 := run_underlying L.t72
  have t70 := L.t70; have a70 := L.a70; have z70 := L.z70; have v70 := L.v70; have u70 := run_underlying L.t70
  have t37 := L.t37; have a37 := L.a37; have z37 := L.z37; have v37 := L.v37; have u37 := run_underlying L.t37
  have t127 := L.t127; have a127 := L.a127; have z127 := L.z127; have v127 := L.v127; have u127 := run_underlying L.t127
  have t3 := L.t3; have a3 := L.a3; have z3 := L.z3; have v3 := L.v3; have u3 := run_underlying L.t3
  have t9 := L.t9; have a9 := L.a9; have z9 := L.z9; have v9 := L.v9; have u9 := run_underlying L.t9
  have t5 := X.t5; have a5 := X.a5; have z5 := X.z5; have v5 := X.v5; have u5 := run_underlying X.t5
  go_enter L.f169, Body.n169_ntmps ρ
  go_wp2
  go_region_o
  all_goals (go_wp2; go_ret; exact ⟨rfl, rfl⟩)
end
end Go.Pev
namespace Go.Pev
open Go Go.RowKit
theorem us1 {R : Rl} {w : World} {us : Array Value} {x : V} (ha : ArgsRep R w us [x]) : us = #[us.getD 0 undef] := by
  have h1 : us.size = 1 := ha.1.symm ▸ rfl
  apply Array.ext
  · simp [h1]
  · intro i hi1 hi2
    obtain rfl : i = 0 := by omega
    simp [Array.getD, h1]
theorem us2 {R : Rl} {w : World} {us : Array Value} {x y : V} (ha : ArgsRep R w us [x, y]) : us = #[us.getD 0 undef, us.getD 1 undef] := by
  have h1 : us.size = 2 := ha.1.symm ▸ rfl
  apply Array.ext
  · simp [h1]
  · intro i hi1 hi2
    match i, hi1 with
    | 0, _ => simp [Array.getD, h1]
    | 1, _ => simp [Array.getD, h1]
    | i + 2, h => omega
theorem rep_str {S : Nat → Prop} {w : World} {u : Value} {s : List UInt8} (h : RepT S w u (.s s)) : ∃ x : ByteArray, u = .string x ∧ x.data.toList = s := by
  cases h with
  | s x _ h => exact ⟨x, rfl, h⟩
theorem rep_int {S : Nat → Prop} {w : World} {u : Value} {k : IntKind} {n : Int} (h : RepT S w u (.i k n)) : u = .int k n := by
  cases h; rfl
theorem ba_size (x : ByteArray) : x.size = x.data.toList.length := by rw [Array.length_toList]; rfl
def trimP (args : List V) (h : HP) (ck : Nat) : Option (V × HP × Nat) :=
  match args, h with
  | [.t (.s s), .t (.s p)], [] => if s.length ≤ 281474976710656 then some (.t (.s (Lib.trimSuffix s p)), [], ck + 1) else none
  | _, _ => none
def TrimSaid (P : Program) (f : FuncId) : Prop := ∀ (s p : ByteArray) (w : World), s.size ≤ 281474976710656 → Calls P f #[.string s, .string p] w fun e w' => e = .returned (.string ⟨(Lib.trimSuffix s.data.toList p.data.toList).toArray⟩) ∧ w' = w
theorem trim_ok {P : Program} {f : FuncId} (hS : TrimSaid P f) (hg : goodFn P f = true) : ∀ args h ck r h' ck', trimP args h ck = some (r, h', ck') → ∀ R w us, HInv R w h ck (fun _ => False) → ArgsRep R w us args → goodFn P f = true ∧ Calls P f us w (CPost R w h r h' ck' (fun _ => False)) := by
  intro args h ck r h' ck' hr R w us hi ha
  refine ⟨hg, ?_⟩
  unfold trimP at hr
  split at hr
  · split at hr
    · rename_i hc
      cases hr
      obtain ⟨x, e1, rfl⟩ := rep_str (repV_tl (ha.2 0 _ rfl))
      obtain ⟨y, e2, rfl⟩ := rep_str (repV_tl (ha.2 1 _ rfl))
      rw [us2 ha, e1, e2]
      refine (hS x y w (by rw [ba_size]; exact hc)).mono ?_
      rintro e w' ⟨rfl, rfl⟩
      exact ⟨_, R, rfl, .t (.s _ _ rfl), Grow.refl _ _ _, hi.ck _ (by omega) _⟩
    · cases hr
  · cases hr
def itoaP (args : List V) (h : HP) (ck : Nat) : Option (V × HP × Nat) :=
  match args, h with
  | [.t (.i .i64 n)], [] => if -9223372036854775808 ≤ n ∧ n ≤ 9223372036854775807 then some (.t (.s (Lib.itoa n)), [], ck + 1) else none
  | _, _ => none
def ItoaSaid (P : Program) (f : FuncId) : Prop := ∀ (n : Int) (w : World), globOk w → -9223372036854775808 ≤ n → n ≤ 9223372036854775807 → Calls P f #[.int .i64 n] w fun e w' => e = .returned (.string ⟨(Lib.itoa n).toArray⟩) ∧ Below w.heap.size w w'
theorem itoa_ok {P : Program} {f : FuncId} (hS : ItoaSaid P f) (hg : goodFn P f = true) : ∀ args h ck r h' ck', itoaP args h ck = some (r, h', ck') → ∀ R w us, HInv R w h ck (fun _ => False) → ArgsRep R w us args → goodFn P f = true ∧ Calls P f us w (CPost R w h r h' ck' (fun _ => False)) := by
  intro args h ck r h' ck' hr R w us hi ha
  refine ⟨hg, ?_⟩
  unfold itoaP at hr
  split at hr
  · split at hr
    · rename_i hc
      cases hr
      have e1 := rep_int (repV_tl (ha.2 0 _ rfl))
      rw [us1 ha, e1]
      refine (hS _ w hi.gl.2 hc.1 hc.2).mono ?_
      rintro e w' ⟨rfl, hb⟩
      obtain ⟨g1, g2⟩ := below_nil hi (ck' := ck + 1) (by omega) hb
      exact ⟨_, R, rfl, .t (.s _ _ rfl), g1, g2⟩
    · cases hr
  · cases hr
def atoiV (s : List UInt8) : V := match Lib.atoiAll s with
  | .ok v => .tu [.t (.i .i64 v), .t .ni]
  | .range => .tu [.t (.i .i64 (Lib.atoiSat s)), .t .er]
  | _ => .tu [.t (.i .i64 0), .t .er]
def atoiP (args : List V) (h : HP) (ck : Nat) : Option (V × HP × Nat) :=
  match args, h with
  | [.t (.s s)], [] => if s.length ≤ 281474976710656 then some (atoiV s, [], ck + 1) else none
  | _, _ => none
def AtoiSaid (P : Program) (f : FuncId) : Prop := ∀ (s : ByteArray) (w : World), globOk w → s.size ≤ 281474976710656 → Calls P f #[.string s] w fun e w' => Below w.heap.size w w' ∧ match Lib.atoiAll s.data.toList with
  | .ok v => e = .returned (.tuple #[.int .i64 v, .nilIface])
  | .range => ∃ t p, e = .returned (.tuple #[.int .i64 (Lib.atoiSat s.data.toList), .iface t p])
  | _ => ∃ t p, e = .returned (.tuple #[.int .i64 0, .iface t p])
theorem tu2_rep {R : Rl} {w : World} {a b : Value} {x y : V} (h1 : RepV R w a x) (h2 : RepV R w b y) : RepV R w (.tuple #[a, b]) (.tu [x, y]) := by
  refine .tu _ _ rfl fun j v hv => ?_
  match j, hv with
  | 0, hv => cases hv; exact h1
  | 1, hv => cases hv; exact h2
  | j + 2, hv => cases hv
theorem atoi_ok {P : Program} {f : FuncId} (hS : AtoiSaid P f) (hg : goodFn P f = true) : ∀ args h ck r h' ck', atoiP args h ck = some (r, h', ck') → ∀ R w us, HInv R w h ck (fun _ => False) → ArgsRep R w us args → goodFn P f = true ∧ Calls P f us w (CPost R w h r h' ck' (fun _ => False)) := by
  intro args h ck r h' ck' hr R w us hi ha
  refine ⟨hg, ?_⟩
  unfold atoiP at hr
  split at hr
  · split at hr
    · rename_i hc
      cases hr
      obtain ⟨x, e1, rfl⟩ := rep_str (repV_tl (ha.2 0 _ rfl))
      rw [us1 ha, e1]
      refine (hS x w hi.gl.2 (by rw [ba_size]; exact hc)).mono ?_
      rintro e w' ⟨hb, hm⟩
      obtain ⟨g1, g2⟩ := below_nil hi (ck' := ck + 1) (by omega) hb
      unfold atoiV
      cases hx : Lib.atoiAll x.data.toList
      case ok v =>
        rw [hx] at hm; simp only at hm; subst hm
        exact ⟨_, R, rfl, tu2_rep (.t (.i _ _)) (.t .ni), g1, g2⟩
      all_goals
        rw [hx] at hm; simp only at hm
        obtain ⟨t, p, rfl⟩ := hm
        exact ⟨_, R, rfl, tu2_rep (.t (.i _ _)) (.t (.er _ _)), g1, g2⟩
    · cases hr
  · cases hr
def splitP (args : List V) (h : HP) (ck : Nat) : Option (V × HP × Nat) :=
  match args, h with
  | [.t (.s s), .t (.s p)], [] => if s.length < 4294967281 ∧ 1 ≤ p.length then some (.t (.l ((Lib.split s p).map fun x => [.s x])), [], ck + 1) else none
  | _, _ => none
def SplitSaid (P : Program) (f : FuncId) : Prop := ∀ (s p : ByteArray) (w : World), globOk w → s.size < 4294967281 → 1 ≤ p.size → Calls P f #[.string s, .string p] w fun e w' => ∃ (xs : List ByteArray) (ty : TypeId), xs.map (fun x => x.data.toList) = Lib.split s.data.toList p.data.toList ∧
  e = .returned (.slice (some ⟨w.heap.size, 0, none⟩) xs.length xs.length) ∧ w' = w.alloc (.cells (xs.map Value.string).toArray ty)
theorem split_ok {P : Program} {f : FuncId} (hS : SplitSaid P f) (hg : goodFn P f = true) : ∀ args h ck r h' ck', splitP args h ck = some (r, h', ck') → ∀ R w us, HInv R w h ck (fun _ => False) → ArgsRep R w us args → goodFn P f = true ∧ Calls P f us w (CPost R w h r h' ck' (fun _ => False)) := by
  intro args h ck r h' ck' hr R w us hi ha
  refine ⟨hg, ?_⟩
  unfold splitP at hr
  split at hr
  · split at hr
    · rename_i hc
      cases hr
      obtain ⟨x, e1, rfl⟩ := rep_str (repV_tl (ha.2 0 _ rfl))
      obtain ⟨y, e2, rfl⟩ := rep_str (repV_tl (ha.2 1 _ rfl))
      rw [us2 ha, e1, e2]
      refine (hS x y w hi.gl.2 (by rw [ba_size]; exact hc.1) (by rw [ba_size]; exact hc.2)).mono ?_
      rintro e w' ⟨xs, ty, hxs, rfl, rfl⟩
      obtain ⟨g2, i2⟩ := newS_step (w' := w.alloc (.cells (xs.map Value.string).toArray ty)) hi (fun g => g = w.heap.size) rfl rfl rfl (by simp) (fun g hg => heap_alloc_old w _ hg) (by rintro g rfl; simp)
      refine ⟨_, _, rfl, ?_, g2, i2.ck _ (by omega) _⟩
      rw [← hxs, List.map_map]
      have hget : ∀ i, (hi : i < xs.length) → (w.alloc (.cells (xs.map Value.string).toArray ty)).cell? ⟨w.heap.size, i, none⟩ = some (.string xs[i]) := by
        intro i hi
        have := heap_alloc_new w (.cells (xs.map Value.string).toArray ty)
        simp only [World.cell?]
        rw [this]
        simp [hi]
      refine .t (.l _ _ _ _ 1 w.heap.size 0 (fun i j => .string (xs.getD i ByteArray.empty)) (by simp) (Nat.le_refl _) (fun _ => rfl) (fun _ => .inr rfl) (fun c hc => by
        obtain ⟨q, _, rfl⟩ := List.mem_map.1 hc; rfl) (fun i j t ht => ?_) (fun i j t ht => ?_))
      · obtain ⟨c, hc1, hc2⟩ := at2_elim ht
        rw [List.getElem?_map] at hc1
        cases hy : xs[i]? with
        | none => rw [hy] at hc1; cases hc1
        | some q =>
          rw [hy] at hc1
          cases hc1
          have hj := (List.getElem?_eq_some_iff.1 hc2).1
          obtain rfl : j = 0 := by simpa using hj
          have hil := (List.getElem?_eq_some_iff.1 hy).1
          rw [Nat.mul_one, Nat.add_zero, Nat.zero_add, hget i hil]
          simp [List.getD_eq_getElem?_getD, hil]
      · obtain ⟨c, hc1, hc2⟩ := at2_elim ht
        rw [List.getElem?_map] at hc1
        cases hy : xs[i]? with
        | none => rw [hy] at hc1; cases hc1
        | some q =>
          rw [hy] at hc1
          cases hc1
          have hj := (List.getElem?_eq_some_iff.1 hc2).1
          obtain rfl : j = 0 := by simpa using hj
          cases hc2
          have hil := (List.getElem?_eq_some_iff.1 hy).1
          simp only [List.getD_eq_getElem?_getD, hy]
          exact .s _ _ rfl
    · cases hr
  · cases hr
end Go.Pev
namespace Go.Pev
open Go Go.Shelf Go.RowKit Go.Proofs
section
variable {P : Program} {ρ : Ren}
theorem trimSaid_of (L : Lays.n102 P ρ) : TrimSaid P (ρ.f 102) := fun s p w h => Any.strings_TrimSuffix L s p w (by omega)
theorem splitSaid_of (L : Lays.n146 P ρ) (hi9 : (P.info? (ρ.t 9)).map (fun i => (i.zero, i.size, i.bytes)) = some (some (.string ByteArray.empty), 1, 16)) (hG : ∀ w, globOk w → ∃ m, w.cell? ⟨ρ.g 1, 0, none⟩ = some (.int .i64 m)) : SplitSaid P (ρ.f 146) := by
  intro s p w hw h1 h2
  obtain ⟨m, hm⟩ := hG w hw
  refine (Any.strings_Split L hi9 s p m w h1 hm h2).mono ?_
  rintro e w' ⟨rfl, rfl⟩
  have hlen := Lib.splitB_all p h2 0 _ s rfl
  refine ⟨Lib.splitB p 0 (Lib.countB s p) s, ρ.t 9, ?_, by rw [hlen], rfl⟩
  rw [Lib.splitB_data]
  rfl
theorem itoaSaid_of (L : LaysM.n171 P ρ) (hG : ∀ w, globOk w → Lib.TabIs P w "internal/strconv.uint64pow10" .u64 Lib.pow10Tab) : ItoaSaid P (ρ.f 171) := by
  intro n w hw h0 h1
  refine (Any.strconv_Itoa L n h0 h1 w (hG w hw)).mono ?_
  rintro e w' ⟨rfl, k, os, rfl⟩
  refine ⟨rfl, rfl, rfl, rfl, by simp [Sort.grow, World.drewN], fun g hg => ?_⟩
  show ((w.drewN k).heap ++ os)[g]? = _
  exact Array.getElem?_append_left hg
theorem atoiSaid_of (L : LaysC.n172 P ρ) (h15 : ∀ w, globOk w → ∃ t p, w.cell? ⟨ρ.g 15, 0, none⟩ = some (.iface t p)) (h16 : ∀ w, globOk w → ∃ t p, w.cell? ⟨ρ.g 16, 0, none⟩ = some (.iface t p)) : AtoiSaid P (ρ.f 172) := by
  intro s w hw hl
  cases hx : Lib.atoiAll s.data.toList
  case ok v =>
    refine (Any.strconv_Atoi_ok L s (by omega) v hx w).mono ?_
    rintro e w' ⟨rfl, h⟩
    refine ⟨?_, rfl⟩
    rcases h with rfl | ⟨t, rfl⟩
    · exact Below.refl _ _
    · exact ⟨rfl, rfl, rfl, by rw [Lib.bytesWorld_size]; omega, fun j hj => Lib.bytesWorld_at_old _ _ _ _ hj⟩
  case range =>
    obtain ⟨t, p, hv⟩ := h16 w hw
    refine (Any.strconv_Atoi_range L s hl hx _ w hv (.inr ⟨t, p, rfl⟩)).mono ?_
    rintro e w' ⟨N, rfl, _, _, hb⟩
    exact ⟨hb, _, _, rfl⟩
  · obtain ⟨t, p, hv⟩ := h15 w hw
    refine (Any.strconv_Atoi_syntax L s hl hx _ w hv (.inr ⟨t, p, rfl⟩)).mono ?_
    rintro e w' ⟨N, rfl, _, _, hb⟩
    exact ⟨hb, _, _, rfl⟩
end
end Go.Pev
namespace Go.Proofs.YtlfjlpleodlkmaaGreatDoor.Pv
open Go Go.Pev Go.Shelf
def lays189_ren : Go.Shelf.Ren := ⟨fun | 189 => 98 | 125 => 133 | 257 => 132 | 128 => 164 | 129 => 165 | 294 => 155 | 295 => 156 | 296 => 157 | 297 => 158 | 298 => 159 | 299 => 160 | 216 => 161 | 300 => 162 | 301 => 163 | 328 => 179 | 329 => 180 | 330 => 181 | 331 => 182 | 332 => 183 | 215 => 184 | 343 => 196 | n => n, fun | 28 => 31 | 3 => 3 | 46 => 171 | 0 => 0 | 51 => 172 | 53 => 202 | 4 => 4 | 183 => 194 | 182 => 193 | 131 => 89 | 5 => 5 | 9 => 9 | 218 => 209 | 222 => 213 | 228 => 230 | 229 => 186 | n => n, fun | n => n⟩
theorem lays189 : Go.Proofs.Lays.n189 Tryz.prog lays189_ren := {
  mixed := by kernel_rfl
  f125 := Tryz.func133.trans (congrArg some (by kernel_rfl))
  f128 := Tryz.func164.trans (congrArg some (by kernel_rfl))
  f129 := Tryz.func165.trans (congrArg some (by kernel_rfl))
  f189 := Tryz.func98.trans (congrArg some (by kernel_rfl))
  f215 := Tryz.func184.trans (congrArg some (by kernel_rfl))
  f216 := Tryz.func161.trans (congrArg some (by kernel_rfl))
  f257 := Tryz.func132.trans (congrArg some (by kernel_rfl))
  f294 := Tryz.func155.trans (congrArg some (by kernel_rfl))
  f295 := Tryz.func156.trans (congrArg some (by kernel_rfl))
  f296 := Tryz.func157.trans (congrArg some (by kernel_rfl))
  f297 := Tryz.func158.trans (congrArg some (by kernel_rfl))
  f298 := Tryz.func159.trans (congrArg some (by kernel_rfl))
  f299 := Tryz.func160.trans (congrArg some (by kernel_rfl))
  f300 := Tryz.func162.trans (congrArg some (by kernel_rfl))
  f301 := Tryz.func163.trans (congrArg some (by kernel_rfl))
  f328 := Tryz.func179.trans (congrArg some (by kernel_rfl))
  f329 := Tryz.func180.trans (congrArg some (by kernel_rfl))
  f330 := Tryz.func181.trans (congrArg some (by kernel_rfl))
  f331 := Tryz.func182.trans (congrArg some (by kernel_rfl))
  f332 := Tryz.func183.trans (congrArg some (by kernel_rfl))
  f343 := Tryz.func196.trans (congrArg some (by kernel_rfl))
  t0 := Tryz.underlying0
  a0 := Tryz.isAgg0
  z0 := Tryz.sizeOf0
  v0 := Tryz.zeroValue0
  t3 := Tryz.underlying3
  a3 := Tryz.isAgg3
  z3 := Tryz.sizeOf3
  v3 := Tryz.zeroValue3
  t4 := Tryz.underlying4
  a4 := Tryz.isAgg4
  z4 := Tryz.sizeOf4
  v4 := Tryz.zeroValue4
  t5 := Tryz.underlying5
  a5 := Tryz.isAgg5
  z5 := Tryz.sizeOf5
  v5 := Tryz.zeroValue5
  t9 := Tryz.underlying9
  a9 := Tryz.isAgg9
  z9 := Tryz.sizeOf9
  v9 := Tryz.zeroValue9
  t28 := Tryz.underlying31
  a28 := Tryz.isAgg31
  z28 := Tryz.sizeOf31
  v28 := Tryz.zeroValue31
  t46 := Tryz.underlying171
  a46 := Tryz.isAgg171
  z46 := Tryz.sizeOf171
  v46 := Tryz.zeroValue171
  t51 := Tryz.underlying172
  a51 := Tryz.isAgg172
  z51 := Tryz.sizeOf172
  v51 := Tryz.zeroValue172
  t53 := Tryz.underlying202
  a53 := Tryz.isAgg202
  z53 := Tryz.sizeOf202
  v53 := Tryz.zeroValue202
  t131 := Tryz.underlying89
  a131 := Tryz.isAgg89
  z131 := Tryz.sizeOf89
  v131 := Tryz.zeroValue89
  t182 := Tryz.underlying193
  a182 := Tryz.isAgg193
  z182 := Tryz.sizeOf193
  v182 := Tryz.zeroValue193
  t183 := Tryz.underlying194
  a183 := Tryz.isAgg194
  z183 := Tryz.sizeOf194
  v183 := Tryz.zeroValue194
  t218 := Tryz.underlying209
  a218 := Tryz.isAgg209
  z218 := Tryz.sizeOf209
  v218 := Tryz.zeroValue209
  t222 := Tryz.underlying213
  a222 := Tryz.isAgg213
  z222 := Tryz.sizeOf213
  v222 := Tryz.zeroValue213
  t228 := Tryz.underlying230
  a228 := Tryz.isAgg230
  z228 := Tryz.sizeOf230
  v228 := Tryz.zeroValue230
  t229 := Tryz.underlying186
  a229 := Tryz.isAgg186
  z229 := Tryz.sizeOf186
  v229 := Tryz.zeroValue186 }
def lays24_ren : Go.Shelf.Ren := ⟨fun | 24 => 84 | n => n, fun | 24 => 24 | 9 => 9 | 3 => 3 | 4 => 4 | 0 => 0 | n => n, fun | n => n⟩
theorem lays24 : Go.Proofs.Lays2.n24 Tryz.prog lays24_ren := {
  mixed := by kernel_rfl
  f24 := Tryz.func84.trans (congrArg some (by kernel_rfl))
  t0 := Tryz.underlying0
  a0 := Tryz.isAgg0
  z0 := Tryz.sizeOf0
  v0 := Tryz.zeroValue0
  t3 := Tryz.underlying3
  a3 := Tryz.isAgg3
  z3 := Tryz.sizeOf3
  v3 := Tryz.zeroValue3
  t4 := Tryz.underlying4
  a4 := Tryz.isAgg4
  z4 := Tryz.sizeOf4
  v4 := Tryz.zeroValue4
  t9 := Tryz.underlying9
  a9 := Tryz.isAgg9
  z9 := Tryz.sizeOf9
  v9 := Tryz.zeroValue9
  t24 := Tryz.underlying24
  a24 := Tryz.isAgg24
  z24 := Tryz.sizeOf24
  v24 := Tryz.zeroValue24
  i9 := by kernel_rfl }
def lays146_ren : Go.Shelf.Ren := ⟨fun | 146 => 30 | 221 => 58 | 268 => 102 | 138 => 103 | 143 => 104 | 195 => 134 | 197 => 135 | 218 => 136 | 219 => 137 | 260 => 166 | 217 => 167 | 225 => 168 | 224 => 169 | 267 => 170 | 266 => 185 | 314 => 186 | n => n, fun | 9 => 9 | 31 => 24 | 3 => 3 | 4 => 4 | 0 => 0 | 105 => 181 | 21 => 21 | 5 => 5 | 46 => 171 | 119 => 215 | 139 => 218 | 138 => 217 | 146 => 219 | 51 => 172 | n => n, fun | 1 => 0 | 3 => 1 | 4 => 2 | n => n⟩
theorem lays146 : Go.Proofs.Lays.n146 Tryz.prog lays146_ren := {
  mixed := by kernel_rfl
  f138 := Tryz.func103.trans (congrArg some (by kernel_rfl))
  f143 := Tryz.func104.trans (congrArg some (by kernel_rfl))
  f146 := Tryz.func30.trans (congrArg some (by kernel_rfl))
  f195 := Tryz.func134.trans (congrArg some (by kernel_rfl))
  f197 := Tryz.func135.trans (congrArg some (by kernel_rfl))
  f217 := Tryz.func167.trans (congrArg some (by kernel_rfl))
  f218 := Tryz.func136.trans (congrArg some (by kernel_rfl))
  f219 := Tryz.func137.trans (congrArg some (by kernel_rfl))
  f221 := Tryz.func58.trans (congrArg some (by kernel_rfl))
  f224 := Tryz.func169.trans (congrArg some (by kernel_rfl))
  f225 := Tryz.func168.trans (congrArg some (by kernel_rfl))
  f260 := Tryz.func166.trans (congrArg some (by kernel_rfl))
  f266 := Tryz.func185.trans (congrArg some (by kernel_rfl))
  f267 := Tryz.func170.trans (congrArg some (by kernel_rfl))
  f268 := Tryz.func102.trans (congrArg some (by kernel_rfl))
  f314 := Tryz.func186.trans (congrArg some (by kernel_rfl))
  t0 := Tryz.underlying0
  a0 := Tryz.isAgg0
  z0 := Tryz.sizeOf0
  v0 := Tryz.zeroValue0
  t3 := Tryz.underlying3
  a3 := Tryz.isAgg3
  z3 := Tryz.sizeOf3
  v3 := Tryz.zeroValue3
  t4 := Tryz.underlying4
  a4 := Tryz.isAgg4
  z4 := Tryz.sizeOf4
  v4 := Tryz.zeroValue4
  t5 := Tryz.underlying5
  a5 := Tryz.isAgg5
  z5 := Tryz.sizeOf5
  v5 := Tryz.zeroValue5
  t9 := Tryz.underlying9
  a9 := Tryz.isAgg9
  z9 := Tryz.sizeOf9
  v9 := Tryz.zeroValue9
  t21 := Tryz.underlying21
  a21 := Tryz.isAgg21
  z21 := Tryz.sizeOf21
  v21 := Tryz.zeroValue21
  t31 := Tryz.underlying24
  a31 := Tryz.isAgg24
  z31 := Tryz.sizeOf24
  v31 := Tryz.zeroValue24
  t46 := Tryz.underlying171
  a46 := Tryz.isAgg171
  z46 := Tryz.sizeOf171
  v46 := Tryz.zeroValue171
  t51 := Tryz.underlying172
  a51 := Tryz.isAgg172
  z51 := Tryz.sizeOf172
  v51 := Tryz.zeroValue172
  t105 := Tryz.underlying181
  a105 := Tryz.isAgg181
  z105 := Tryz.sizeOf181
  v105 := Tryz.zeroValue181
  t119 := Tryz.underlying215
  a119 := Tryz.isAgg215
  z119 := Tryz.sizeOf215
  t138 := Tryz.underlying217
  a138 := Tryz.isAgg217
  z138 := Tryz.sizeOf217
  v138 := Tryz.zeroValue217
  t139 := Tryz.underlying218
  a139 := Tryz.isAgg218
  z139 := Tryz.sizeOf218
  v139 := Tryz.zeroValue218
  t146 := Tryz.underlying219
  a146 := Tryz.isAgg219
  z146 := Tryz.sizeOf219
  v146 := Tryz.zeroValue219
  g1 := by kernel_rfl
  g3 := by kernel_rfl
  g4 := by kernel_rfl }
def lays102_ren : Go.Shelf.Ren := ⟨fun | 102 => 31 | 209 => 59 | 207 => 105 | n => n, fun | 9 => 9 | 4 => 4 | 3 => 3 | n => n, fun | n => n⟩
theorem lays102 : Go.Proofs.Lays.n102 Tryz.prog lays102_ren := {
  mixed := by kernel_rfl
  f102 := Tryz.func31.trans (congrArg some (by kernel_rfl))
  f207 := Tryz.func105.trans (congrArg some (by kernel_rfl))
  f209 := Tryz.func59.trans (congrArg some (by kernel_rfl))
  t3 := Tryz.underlying3
  a3 := Tryz.isAgg3
  z3 := Tryz.sizeOf3
  v3 := Tryz.zeroValue3
  t4 := Tryz.underlying4
  a4 := Tryz.isAgg4
  z4 := Tryz.sizeOf4
  v4 := Tryz.zeroValue4
  t9 := Tryz.underlying9
  a9 := Tryz.isAgg9
  z9 := Tryz.sizeOf9
  v9 := Tryz.zeroValue9 }
def lays172_ren : Go.Shelf.Ren := ⟨fun | 172 => 138 | 244 => 171 | 245 => 172 | 247 => 187 | 279 => 188 | 280 => 189 | 281 => 190 | 282 => 191 | 287 => 197 | 316 => 198 | 171 => 63 | 205 => 199 | 321 => 202 | 322 => 203 | 243 => 108 | 246 => 139 | 283 => 173 | 284 => 174 | 285 => 175 | 286 => 176 | 129 => 165 | 317 => 192 | 318 => 193 | 319 => 194 | 320 => 195 | 337 => 200 | 338 => 201 | n => n, fun | 9 => 9 | 3 => 3 | 75 => 66 | 76 => 67 | 4 => 4 | 5 => 5 | 167 => 221 | 37 => 43 | 0 => 0 | 85 => 222 | 2 => 2 | 168 => 224 | 53 => 202 | 175 => 232 | 46 => 171 | 210 => 235 | 127 => 109 | 145 => 240 | 143 => 238 | 21 => 21 | 171 => 204 | 173 => 206 | 212 => 228 | 51 => 172 | 20 => 20 | 213 => 229 | 232 => 241 | 233 => 242 | 80 => 69 | n => n, fun | 15 => 4 | 16 => 5 | 17 => 3 | 18 => 6 | 19 => 7 | n => n⟩
theorem lays172 : Go.Proofs.LaysC.n172 Tryz.prog lays172_ren := {
  mixed := by kernel_rfl
  f129 := Tryz.func165.trans (congrArg some (by kernel_rfl))
  f171 := Tryz.func63.trans (congrArg some (by kernel_rfl))
  f172 := Tryz.func138.trans (congrArg some (by kernel_rfl))
  f205 := Tryz.func199.trans (congrArg some (by kernel_rfl))
  f243 := Tryz.func108.trans (congrArg some (by kernel_rfl))
  f244 := Tryz.func171.trans (congrArg some (by kernel_rfl))
  f245 := Tryz.func172.trans (congrArg some (by kernel_rfl))
  f246 := Tryz.func139.trans (congrArg some (by kernel_rfl))
  f247 := Tryz.func187.trans (congrArg some (by kernel_rfl))
  f279 := Tryz.func188.trans (congrArg some (by kernel_rfl))
  f280 := Tryz.func189.trans (congrArg some (by kernel_rfl))
  f281 := Tryz.func190.trans (congrArg some (by kernel_rfl))
  f282 := Tryz.func191.trans (congrArg some (by kernel_rfl))
  f283 := Tryz.func173.trans (congrArg some (by kernel_rfl))
  f284 := Tryz.func174.trans (congrArg some (by kernel_rfl))
  f285 := Tryz.func175.trans (congrArg some (by kernel_rfl))
  f286 := Tryz.func176.trans (congrArg some (by kernel_rfl))
  f287 := Tryz.func197.trans (congrArg some (by kernel_rfl))
  f316 := Tryz.func198.trans (congrArg some (by kernel_rfl))
  f317 := Tryz.func192.trans (congrArg some (by kernel_rfl))
  f318 := Tryz.func193.trans (congrArg some (by kernel_rfl))
  f319 := Tryz.func194.trans (congrArg some (by kernel_rfl))
  f320 := Tryz.func195.trans (congrArg some (by kernel_rfl))
  f321 := Tryz.func202.trans (congrArg some (by kernel_rfl))
  f322 := Tryz.func203.trans (congrArg some (by kernel_rfl))
  f337 := Tryz.func200.trans (congrArg some (by kernel_rfl))
  f338 := Tryz.func201.trans (congrArg some (by kernel_rfl))
  t0 := Tryz.underlying0
  a0 := Tryz.isAgg0
  z0 := Tryz.sizeOf0
  v0 := Tryz.zeroValue0
  t2 := Tryz.underlying2
  a2 := Tryz.isAgg2
  z2 := Tryz.sizeOf2
  v2 := Tryz.zeroValue2
  t3 := Tryz.underlying3
  a3 := Tryz.isAgg3
  z3 := Tryz.sizeOf3
  v3 := Tryz.zeroValue3
  t4 := Tryz.underlying4
  a4 := Tryz.isAgg4
  z4 := Tryz.sizeOf4
  v4 := Tryz.zeroValue4
  t5 := Tryz.underlying5
  a5 := Tryz.isAgg5
  z5 := Tryz.sizeOf5
  v5 := Tryz.zeroValue5
  t9 := Tryz.underlying9
  a9 := Tryz.isAgg9
  z9 := Tryz.sizeOf9
  v9 := Tryz.zeroValue9
  t20 := Tryz.underlying20
  a20 := Tryz.isAgg20
  z20 := Tryz.sizeOf20
  v20 := Tryz.zeroValue20
  t21 := Tryz.underlying21
  a21 := Tryz.isAgg21
  z21 := Tryz.sizeOf21
  v21 := Tryz.zeroValue21
  t37 := Tryz.underlying43
  a37 := Tryz.isAgg43
  z37 := Tryz.sizeOf43
  v37 := Tryz.zeroValue43
  t46 := Tryz.underlying171
  a46 := Tryz.isAgg171
  z46 := Tryz.sizeOf171
  v46 := Tryz.zeroValue171
  t51 := Tryz.underlying172
  a51 := Tryz.isAgg172
  z51 := Tryz.sizeOf172
  v51 := Tryz.zeroValue172
  t53 := Tryz.underlying202
  a53 := Tryz.isAgg202
  z53 := Tryz.sizeOf202
  v53 := Tryz.zeroValue202
  t75 := Tryz.underlying66
  a75 := Tryz.isAgg66
  z75 := Tryz.sizeOf66
  v75 := Tryz.zeroValue66
  t76 := Tryz.underlying67
  a76 := Tryz.isAgg67
  z76 := Tryz.sizeOf67
  v76 := Tryz.zeroValue67
  t85 := Tryz.underlying222
  a85 := Tryz.isAgg222
  z85 := Tryz.sizeOf222
  v85 := Tryz.zeroValue222
  t127 := Tryz.underlying109
  a127 := Tryz.isAgg109
  z127 := Tryz.sizeOf109
  v127 := Tryz.zeroValue109
  t143 := Tryz.underlying238
  a143 := Tryz.isAgg238
  z143 := Tryz.sizeOf238
  v143 := Tryz.zeroValue238
  t145 := Tryz.underlying240
  a145 := Tryz.isAgg240
  z145 := Tryz.sizeOf240
  v145 := Tryz.zeroValue240
  t167 := Tryz.underlying221
  a167 := Tryz.isAgg221
  z167 := Tryz.sizeOf221
  v167 := Tryz.zeroValue221
  t168 := Tryz.underlying224
  a168 := Tryz.isAgg224
  z168 := Tryz.sizeOf224
  v168 := Tryz.zeroValue224
  t171 := Tryz.underlying204
  a171 := Tryz.isAgg204
  z171 := Tryz.sizeOf204
  v171 := Tryz.zeroValue204
  t173 := Tryz.underlying206
  a173 := Tryz.isAgg206
  z173 := Tryz.sizeOf206
  v173 := Tryz.zeroValue206
  t175 := Tryz.underlying232
  a175 := Tryz.isAgg232
  z175 := Tryz.sizeOf232
  v175 := Tryz.zeroValue232
  t210 := Tryz.underlying235
  a210 := Tryz.isAgg235
  z210 := Tryz.sizeOf235
  v210 := Tryz.zeroValue235
  t212 := Tryz.underlying228
  a212 := Tryz.isAgg228
  z212 := Tryz.sizeOf228
  v212 := Tryz.zeroValue228
  t213 := Tryz.underlying229
  a213 := Tryz.isAgg229
  z213 := Tryz.sizeOf229
  t232 := Tryz.underlying241
  a232 := Tryz.isAgg241
  z232 := Tryz.sizeOf241
  v232 := Tryz.zeroValue241
  t233 := Tryz.underlying242
  a233 := Tryz.isAgg242
  z233 := Tryz.sizeOf242
  v233 := Tryz.zeroValue242
  g15 := by kernel_rfl
  g16 := by kernel_rfl
  g17 := by kernel_rfl
  g18 := by kernel_rfl
  g19 := by kernel_rfl
  t80 := Tryz.underlying69
  a80 := Tryz.isAgg69
  z80 := Tryz.sizeOf69
  v80 := Tryz.zeroValue69
  i0 := by kernel_rfl
  i2 := by kernel_rfl
  i3 := by kernel_rfl
  i4 := by kernel_rfl
  i5 := by kernel_rfl
  i9 := by kernel_rfl
  i20 := by kernel_rfl
  i21 := by kernel_rfl
  i37 := by kernel_rfl
  i46 := by kernel_rfl
  i51 := by kernel_rfl
  i53 := by kernel_rfl
  i75 := by kernel_rfl
  i76 := by kernel_rfl
  i80 := by kernel_rfl
  i85 := by kernel_rfl
  i127 := by kernel_rfl
  i143 := by kernel_rfl
  i145 := by kernel_rfl
  i167 := by kernel_rfl
  i168 := by kernel_rfl
  i171 := by kernel_rfl
  i173 := by kernel_rfl
  i175 := by kernel_rfl
  i210 := by kernel_rfl
  i212 := by kernel_rfl
  i232 := by kernel_rfl
  i233 := by kernel_rfl
  m15 := by kernel_rfl
  m16 := by kernel_rfl
  m17 := by kernel_rfl
  m18 := by kernel_rfl
  m19 := by kernel_rfl
  c0 := by kernel_rfl
  c2 := by kernel_rfl
  c3 := by kernel_rfl
  c4 := by kernel_rfl
  c5 := by kernel_rfl
  c9 := by kernel_rfl
  c20 := by kernel_rfl
  c21 := by kernel_rfl
  c37 := by kernel_rfl
  c46 := by kernel_rfl
  c51 := by kernel_rfl
  c53 := by kernel_rfl
  c75 := by kernel_rfl
  c76 := by kernel_rfl
  c80 := by kernel_rfl
  c85 := by kernel_rfl
  c127 := by kernel_rfl
  c143 := by kernel_rfl
  c145 := by kernel_rfl
  c167 := by kernel_rfl
  c168 := by kernel_rfl
  c171 := by kernel_rfl
  c173 := by kernel_rfl
  c175 := by kernel_rfl
  c210 := by kernel_rfl
  c212 := by kernel_rfl
  c213 := by kernel_rfl
  c232 := by kernel_rfl
  c233 := by kernel_rfl }
def lays171_ren : Go.Shelf.Ren := ⟨fun | 171 => 63 | 243 => 108 | 246 => 139 | 283 => 173 | 284 => 174 | 285 => 175 | 286 => 176 | 129 => 165 | 317 => 192 | 318 => 193 | 319 => 194 | 320 => 195 | 337 => 200 | 338 => 201 | n => n, fun | 3 => 3 | 9 => 9 | 2 => 2 | 4 => 4 | 171 => 204 | 0 => 0 | 53 => 202 | 37 => 43 | 5 => 5 | 173 => 206 | 212 => 228 | 51 => 172 | 20 => 20 | 213 => 229 | 46 => 171 | 232 => 241 | 233 => 242 | n => n, fun | 17 => 3 | 18 => 6 | 19 => 7 | n => n⟩
theorem lays171 : Go.Proofs.LaysM.n171 Tryz.prog lays171_ren := {
  mixed := by kernel_rfl
  f129 := Tryz.func165.trans (congrArg some (by kernel_rfl))
  f171 := Tryz.func63.trans (congrArg some (by kernel_rfl))
  f243 := Tryz.func108.trans (congrArg some (by kernel_rfl))
  f246 := Tryz.func139.trans (congrArg some (by kernel_rfl))
  f283 := Tryz.func173.trans (congrArg some (by kernel_rfl))
  f284 := Tryz.func174.trans (congrArg some (by kernel_rfl))
  f285 := Tryz.func175.trans (congrArg some (by kernel_rfl))
  f286 := Tryz.func176.trans (congrArg some (by kernel_rfl))
  f317 := Tryz.func192.trans (congrArg some (by kernel_rfl))
  f318 := Tryz.func193.trans (congrArg some (by kernel_rfl))
  f319 := Tryz.func194.trans (congrArg some (by kernel_rfl))
  f320 := Tryz.func195.trans (congrArg some (by kernel_rfl))
  f337 := Tryz.func200.trans (congrArg some (by kernel_rfl))
  f338 := Tryz.func201.trans (congrArg some (by kernel_rfl))
  t0 := Tryz.underlying0
  a0 := Tryz.isAgg0
  z0 := Tryz.sizeOf0
  v0 := Tryz.zeroValue0
  t2 := Tryz.underlying2
  a2 := Tryz.isAgg2
  z2 := Tryz.sizeOf2
  v2 := Tryz.zeroValue2
  t3 := Tryz.underlying3
  a3 := Tryz.isAgg3
  z3 := Tryz.sizeOf3
  v3 := Tryz.zeroValue3
  t4 := Tryz.underlying4
  a4 := Tryz.isAgg4
  z4 := Tryz.sizeOf4
  v4 := Tryz.zeroValue4
  t5 := Tryz.underlying5
  a5 := Tryz.isAgg5
  z5 := Tryz.sizeOf5
  v5 := Tryz.zeroValue5
  t9 := Tryz.underlying9
  a9 := Tryz.isAgg9
  z9 := Tryz.sizeOf9
  v9 := Tryz.zeroValue9
  t20 := Tryz.underlying20
  a20 := Tryz.isAgg20
  z20 := Tryz.sizeOf20
  v20 := Tryz.zeroValue20
  t37 := Tryz.underlying43
  a37 := Tryz.isAgg43
  z37 := Tryz.sizeOf43
  v37 := Tryz.zeroValue43
  t46 := Tryz.underlying171
  a46 := Tryz.isAgg171
  z46 := Tryz.sizeOf171
  v46 := Tryz.zeroValue171
  t51 := Tryz.underlying172
  a51 := Tryz.isAgg172
  z51 := Tryz.sizeOf172
  v51 := Tryz.zeroValue172
  t53 := Tryz.underlying202
  a53 := Tryz.isAgg202
  z53 := Tryz.sizeOf202
  v53 := Tryz.zeroValue202
  t171 := Tryz.underlying204
  a171 := Tryz.isAgg204
  z171 := Tryz.sizeOf204
  v171 := Tryz.zeroValue204
  t173 := Tryz.underlying206
  a173 := Tryz.isAgg206
  z173 := Tryz.sizeOf206
  v173 := Tryz.zeroValue206
  t212 := Tryz.underlying228
  a212 := Tryz.isAgg228
  z212 := Tryz.sizeOf228
  v212 := Tryz.zeroValue228
  t213 := Tryz.underlying229
  a213 := Tryz.isAgg229
  z213 := Tryz.sizeOf229
  t232 := Tryz.underlying241
  a232 := Tryz.isAgg241
  z232 := Tryz.sizeOf241
  v232 := Tryz.zeroValue241
  t233 := Tryz.underlying242
  a233 := Tryz.isAgg242
  z233 := Tryz.sizeOf242
  v233 := Tryz.zeroValue242
  g17 := by kernel_rfl
  g18 := by kernel_rfl
  g19 := by kernel_rfl
  i0 := by kernel_rfl
  i2 := by kernel_rfl
  i3 := by kernel_rfl
  i4 := by kernel_rfl
  i5 := by kernel_rfl
  i9 := by kernel_rfl
  i20 := by kernel_rfl
  i37 := by kernel_rfl
  i46 := by kernel_rfl
  i51 := by kernel_rfl
  i53 := by kernel_rfl
  i171 := by kernel_rfl
  i173 := by kernel_rfl
  i212 := by kernel_rfl
  i232 := by kernel_rfl
  i233 := by kernel_rfl
  m17 := by kernel_rfl
  m18 := by kernel_rfl
  m19 := by kernel_rfl }
theorem sortSaid : SortSaid Go.Proofs.Tryz.prog 98 := fun blk off cap zs w h1 h2 h3 => Go.Proofs.Any.slices_Sort_int lays189 blk off cap zs w h1 h2 h3
theorem delSaid : DelSaid Go.Proofs.Tryz.prog 84 := fun blk off cap i j zs w h1 h2 h3 h4 h5 => Go.Proofs.Any.slices_Delete_string lays24 blk off cap i j zs w h1 h2 h3 h4 h5
def laysB_ren : Go.Shelf.Ren := ⟨fun | 169 => 34 | 240 => 60 | 276 => 106 | n => n, fun | 70 => 60 | 9 => 9 | 0 => 0 | 72 => 62 | 37 => 43 | 127 => 109 | 3 => 3 | 5 => 5 | 4 => 4 | 20 => 20 | 164 => 152 | n => n, fun | n => n⟩
theorem laysB169 : Go.Proofs.Lays.n169 Tryz.prog laysB_ren := {
  mixed := by kernel_rfl
  f169 := Tryz.func34.trans (congrArg some (by kernel_rfl))
  t0 := Tryz.underlying0
  a0 := Tryz.isAgg0
  z0 := Tryz.sizeOf0
  v0 := Tryz.zeroValue0
  t3 := Tryz.underlying3
  a3 := Tryz.isAgg3
  z3 := Tryz.sizeOf3
  v3 := Tryz.zeroValue3
  t9 := Tryz.underlying9
  a9 := Tryz.isAgg9
  z9 := Tryz.sizeOf9
  v9 := Tryz.zeroValue9
  t37 := Tryz.underlying43
  a37 := Tryz.isAgg43
  z37 := Tryz.sizeOf43
  v37 := Tryz.zeroValue43
  t70 := Tryz.underlying60
  a70 := Tryz.isAgg60
  z70 := Tryz.sizeOf60
  v70 := Tryz.zeroValue60
  t72 := Tryz.underlying62
  a72 := Tryz.isAgg62
  z72 := Tryz.sizeOf62
  v72 := Tryz.zeroValue62
  t127 := Tryz.underlying109
  a127 := Tryz.isAgg109
  z127 := Tryz.sizeOf109
  v127 := Tryz.zeroValue109 }
theorem laysB240 : Go.Proofs.Lays.n240 Tryz.prog laysB_ren := {
  mixed := by kernel_rfl
  f240 := Tryz.func60.trans (congrArg some (by kernel_rfl))
  f276 := Tryz.func106.trans (congrArg some (by kernel_rfl))
  t0 := Tryz.underlying0
  a0 := Tryz.isAgg0
  z0 := Tryz.sizeOf0
  v0 := Tryz.zeroValue0
  t4 := Tryz.underlying4
  a4 := Tryz.isAgg4
  z4 := Tryz.sizeOf4
  v4 := Tryz.zeroValue4
  t9 := Tryz.underlying9
  a9 := Tryz.isAgg9
  z9 := Tryz.sizeOf9
  v9 := Tryz.zeroValue9
  t20 := Tryz.underlying20
  a20 := Tryz.isAgg20
  z20 := Tryz.sizeOf20
  v20 := Tryz.zeroValue20
  t70 := Tryz.underlying60
  a70 := Tryz.isAgg60
  z70 := Tryz.sizeOf60
  v70 := Tryz.zeroValue60
  t72 := Tryz.underlying62
  a72 := Tryz.isAgg62
  z72 := Tryz.sizeOf62
  v72 := Tryz.zeroValue62
  t164 := Tryz.underlying152
  a164 := Tryz.isAgg152
  z164 := Tryz.sizeOf152
  v164 := Tryz.zeroValue152 }
theorem joinX : Go.Proofs.Builder.Extra Tryz.prog laysB_ren := {
  sizeBuilder := by kernel_rfl
  liesBuilder := by kernel_rfl
  t5 := Tryz.underlying5
  a5 := Tryz.isAgg5
  z5 := Tryz.sizeOf5
  v5 := Tryz.zeroValue5
  infoByte := by kernel_rfl
  cellsByte := by kernel_rfl
  sizeByte := by kernel_rfl
  neB5 := by decide }
theorem ckSaid : CkSaid Go.Proofs.Tryz.prog 60 62 := ckSaid_of laysB240 joinX.toX72
theorem strSaid : StrSaid Go.Proofs.Tryz.prog 34 62 5 := strSaid_of laysB169 joinX
theorem trimSaid : TrimSaid Go.Proofs.Tryz.prog 31 := trimSaid_of lays102
theorem splitSaid : SplitSaid Go.Proofs.Tryz.prog 30 := splitSaid_of lays146 (by kernel_rfl) (fun w h => h.1)
theorem pow10At : Go.Proofs.Tryz.prog.globalNamed "internal/strconv.uint64pow10" = some 3 := by kernel_rfl
theorem itoaSaid : ItoaSaid Go.Proofs.Tryz.prog 63 := itoaSaid_of lays171 (fun w h => by
  obtain ⟨a, b, e⟩ := h.2.1
  unfold Lib.TabIs World.var?
  rw [pow10At]
  simp only [Option.bind_some, e])
theorem atoiSaid : AtoiSaid Go.Proofs.Tryz.prog 138 := atoiSaid_of lays172 (fun w h => h.2.2.1) (fun w h => h.2.2.2)
end Go.Proofs.YtlfjlpleodlkmaaGreatDoor.Pv
