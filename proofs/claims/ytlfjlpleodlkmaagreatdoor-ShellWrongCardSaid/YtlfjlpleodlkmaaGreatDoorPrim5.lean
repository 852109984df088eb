/- The contracts of (*strings.Builder).copyCheck and String, in the pure evaluator's words. -/
import Derived.Test.YtlfjlpleodlkmaaGreatDoorPevC
import Derived.Lib.UnsafeStr
set_option linter.unusedVariables false
set_option linter.unusedSimpArgs false
namespace Go.Pev
open Go Go.RowKit

theorem cell_of_heap0 {w : World} {g : Nat} {arr : Array Value} {ty : TypeId} {fz : Nat × Nat} (h : w.heap[g]? = some (.cells arr ty fz)) {j : Nat} (hj : j < arr.size) : w.cell? ⟨g, j, none⟩ = some (arr.getD j undef) := by
  rw [Array.getD_eq_getD_getElem?, Array.getElem?_eq_getElem hj]
  simp [World.cell?, h, hj]

/-! ### copyCheck -/
def ckP (ty0 : Nat) (args : List V) (h : HP) (ck : Nat) : Option (V × HP × Nat) :=
  match args with
  | [.pt k 2 0 0] => match h.get k with
    | some (.box ty [.t .np, x]) => if ty = ty0 then some (.tu [], h.put k k (.box ty [.pt k 2 0 0, x]), ck + 1) else none
    | some (.box ty [.pt k2 2 0 0, x]) => if ty = ty0 ∧ k2 = k then some (.tu [], h, ck + 1) else none
    | _ => none
  | _ => none
def CkSaid (P : Program) (f : FuncId) (ty : Nat) : Prop :=
  (∀ (b : Nat) (w : World), w.cell? ⟨b, 0, none⟩ = some (.pointer (some ⟨b, 0, none⟩)) → Calls P f #[.pointer (some ⟨b, 0, none⟩)] w fun e w' => e = .returned (.tuple #[]) ∧ w' = w) ∧
  (∀ (b : Nat) (w : World), w.cell? ⟨b, 0, none⟩ = some (.pointer none) → w.shape? b = some (ty, 2) → w.frozen? ⟨b, 0, none⟩ = false → Calls P f #[.pointer (some ⟨b, 0, none⟩)] w fun e w' => e = .returned (.tuple #[]) ∧ w' = w.setCell ⟨b, 0, none⟩ (.pointer (some ⟨b, 0, none⟩)))
theorem pt_arg {R : Rl} {w : World} {us : Array Value} {k : Key} (ha : ArgsRep R w us [.pt k 2 0 0]) : ∃ g n, R.μ k = some (some (g, n)) ∧ us = #[.pointer (some ⟨g, 0, none⟩)] := by
  have h0 := ha.2 0 _ rfl
  have h1 : us.size = 1 := ha.1.symm ▸ rfl
  have hus : us = #[us.getD 0 undef] := by
    apply Array.ext
    · simp [h1]
    · intro i hi1 hi2
      obtain rfl : i = 0 := by omega
      simp [Array.getD, h1]
  rw [hus]
  generalize us.getD 0 undef = u at h0 ⊢
  cases h0 with
  | pt k sz i j g n hμ => exact ⟨g, n, hμ, rfl⟩
theorem ck_ok {P : Program} {f : FuncId} {ty : Nat} (hS : CkSaid P f ty) (hg : goodFn P f = true) : ∀ args h ck r h' ck', ckP ty args h ck = some (r, h', ck') → ∀ R w us, HInv R w h ck (fun _ => False) → ArgsRep R w us args → goodFn P f = true ∧ Calls P f us w (CPost R w h r h' ck' (fun _ => False)) := by
  intro args h ck r h' ck' hr R w us hi ha
  refine ⟨hg, ?_⟩
  unfold ckP at hr
  split at hr
  · rename_i k
    obtain ⟨g, n, hμ, rfl⟩ := pt_arg ha
    split at hr
    · rename_i ty' x hk
      by_cases ht : ty' = ty
      · rw [if_pos ht] at hr
        cases hr
        subst ht
        obtain ⟨g', n', arr, b1, b2, b3, b4, b5⟩ := hi.ob _ _ hk
        rw [hμ] at b1; cases b1
        have hsz : arr.size = 2 := b3
        have h0 : arr.getD 0 undef = .pointer none := by
          have := repV_tl (b5 0 _ rfl)
          generalize arr.getD 0 undef = u at this
          cases this; rfl
        have hc : w.cell? ⟨g, 0, none⟩ = some (.pointer none) := by
          rw [← h0]; exact cell_of_heap0 b2 (by omega)
        refine (hS.2 g w hc (by simp [World.shape?, b2, hsz]) (by simp [World.frozen?, b2])).mono ?_
        rintro e w' ⟨rfl, rfl⟩
        obtain ⟨s1, s2⟩ := put_step (me := 0) (w' := w.setCell ⟨g, 0, none⟩ (.pointer (some ⟨g, 0, none⟩))) hi k k (.box ty' [.t .np, x]) (.box ty' [.pt k 2 0 0, x]) hk rfl (some (g, n)) (.inl ⟨rfl, hμ⟩) rfl rfl rfl (by simp [World.setCell])
          (fun q hq hne => by
            simp only [World.setCell, Array.getElem?_modify]
            rw [if_neg (fun e => hne n (by rw [← e]; exact hμ))]) (fun g' n2 h => .inr ⟨n, by cases h; exact hμ⟩) rfl
          (fun hag => ⟨g, n, arr.setIfInBounds 0 (.pointer (some ⟨g, 0, none⟩)), updμ_same _ _ _, by simp [World.setCell, Array.getElem?_modify, b2], by simp [hsz], fun j hj => by
              rw [Array.getD_eq_getD_getElem?, Array.getElem?_setIfInBounds]
              by_cases e : 0 = j
              · subst e; rw [if_pos rfl, if_pos (by omega)]; rfl
              · rw [if_neg e, ← Array.getD_eq_getD_getElem?]; exact b4 j (by simpa using hj), fun j v hv => by
              rw [Array.getD_eq_getD_getElem?, Array.getElem?_setIfInBounds]
              match j, hv with
              | 0, hv =>
                rw [if_pos rfl, if_pos (by omega)]
                cases hv
                have := RepV.pt (R := { R with μ := updμ R.μ k (some (g, n)) }) (w := w.setCell ⟨g, 0, none⟩ (.pointer (some ⟨g, 0, none⟩))) k 2 0 0 g n (updμ_same _ _ _)
                exact this
              | 1, hv =>
                rw [if_neg (by omega), ← Array.getD_eq_getD_getElem?]
                exact (b5 1 v hv).mono hag
              | j + 2, hv => cases hv⟩)
        exact ⟨_, _, rfl, .tu _ _ rfl (by intro j v h; cases h), s1, s2.ck _ (by omega) _⟩
      · rw [if_neg ht] at hr; cases hr
    · rename_i ty' k2 x hk
      by_cases ht : ty' = ty ∧ k2 = k
      · rw [if_pos ht] at hr
        cases hr
        obtain ⟨rfl, rfl⟩ := ht
        obtain ⟨g', n', arr, b1, b2, b3, b4, b5⟩ := hi.ob _ _ hk
        rw [hμ] at b1; cases b1
        have hsz : arr.size = 2 := b3
        have h0 : arr.getD 0 undef = .pointer (some ⟨g, 0, none⟩) := by
          have := b5 0 _ rfl
          generalize arr.getD 0 undef = u at this
          cases this with
          | pt k sz i j g2 n2 hμ2 => rw [hμ] at hμ2; cases hμ2; rfl
        have hc : w.cell? ⟨g, 0, none⟩ = some (.pointer (some ⟨g, 0, none⟩)) := by
          rw [← h0]; exact cell_of_heap0 b2 (by omega)
        refine (hS.1 g w hc).mono ?_
        rintro e w' ⟨rfl, rfl⟩
        exact ⟨_, R, rfl, .tu _ _ rfl (by intro j v h; cases h), Grow.refl _ _ _, hi.ck _ (by omega) _⟩
      · rw [if_neg ht] at hr; cases hr
    · cases hr
  · cases hr

/-! ### String -/
/-- A row's bytes, each one below 256. -/
def u8x : List (List T) → Option (List UInt8)
  | [] => some []
  | [.i .u8 n] :: r => if 0 ≤ n ∧ n ≤ 255 then (u8x r).map (UInt8.ofNat n.toNat :: ·) else none
  | _ => none
theorem u8x_eq : ∀ {els : List (List T)} {bs : List UInt8}, u8x els = some bs → els = bytesT bs
  | [], bs, h => by cases h; rfl
  | [.i .u8 n] :: r, bs, h => by
    simp only [u8x] at h
    split at h
    · rename_i hn
      obtain ⟨ys, h1, rfl⟩ := Option.map_eq_some_iff.1 h
      rw [u8x_eq h1]
      have e : ((UInt8.ofNat n.toNat).toNat : Int) = n := by
        rw [UInt8.toNat_ofNat', Nat.mod_eq_of_lt (by omega)]; omega
      unfold bytesT
      simp only [List.map_cons, e]
    · cases h
theorem u8x_bytes : ∀ bs : List UInt8, u8x (bytesT bs) = some bs
  | [] => rfl
  | b :: r => by
    have h : 0 ≤ (b.toNat : Int) ∧ (b.toNat : Int) ≤ 255 := by have := b.toNat_lt; omega
    have ih := u8x_bytes r
    unfold bytesT at ih ⊢
    simp only [List.map_cons, u8x, if_pos h, ih, Option.map_some, Int.toNat_natCast, UInt8.ofNat_toNat]
def strP (ty0 e0 : Nat) (args : List V) (h : HP) (ck : Nat) : Option (V × HP × Nat) :=
  match args with
  | [.pt k 2 0 0] => match h.get k with
    | some (.box ty [a, .ow k2 1 0 len]) => match h.get k2 with
      | some (.row e 1 els false) => match u8x els with
        | some bs => if ty = ty0 ∧ e = e0 ∧ len = els.length ∧ 0 < len then some (.t (.s bs), (h.del k2).put k k (.bls ty e bs), ck + 1) else none
        | none => none
      | _ => none
    | some (.bls ty e bs) => if ty = ty0 ∧ e = e0 then some (.t (.s bs), h, ck + 1) else none
    | _ => none
  | _ => none
def StrSaid (P : Program) (f : FuncId) (ty e0 : Nat) : Prop :=
  ∀ (b g : Nat) (p : Value) (l : List UInt8) (cap : Nat) (cur : Array Value) (e : TypeId) (fz : Nat × Nat) (w : World), l ≠ [] → e = e0 → w.heap[b]? = some (.cells #[p, .slice (some ⟨g, 0, none⟩) l.length cap] ty (0, 0)) → w.heap[g]? = some (.cells cur e fz) → l.length ≤ cap → cap ≤ maxLen → cur.size = cap → (∀ (j : Nat) x, l[j]? = some x → cur.getD j undef = .int .u8 x.toNat) →
    Calls P f #[.pointer (some ⟨b, 0, none⟩)] w fun e w' => e = .returned (.string ⟨l.toArray⟩) ∧ w' = w.drew.freeze ⟨g, 0, none⟩ l.length
theorem freeze_heap (w : World) (g n : Nat) (hn : n ≠ 0) (q : Nat) (hq : q ≠ g) : (w.drew.freeze ⟨g, 0, none⟩ n).heap[q]? = w.heap[q]? := by
  unfold World.freeze
  rw [if_neg hn]
  simp only [Array.getElem?_modify]
  rw [if_neg (Ne.symm hq)]; rfl
theorem freeze_rest (w : World) (g n : Nat) : (w.drew.freeze ⟨g, 0, none⟩ n).os = w.os ∧ (w.drew.freeze ⟨g, 0, none⟩ n).tape = w.tape ∧ (w.drew.freeze ⟨g, 0, none⟩ n).output = w.output ∧ (w.drew.freeze ⟨g, 0, none⟩ n).heap.size = w.heap.size := by
  unfold World.freeze
  split
  · exact ⟨rfl, rfl, rfl, rfl⟩
  · exact ⟨rfl, rfl, rfl, by rw [Array.size_modify]; rfl⟩
theorem freeze_at (w : World) (g n : Nat) (hn : n ≠ 0) {cur : Array Value} {e : TypeId} {fz : Nat × Nat} (h : w.heap[g]? = some (.cells cur e fz)) : ∃ mk : Nat × Nat, (w.drew.freeze ⟨g, 0, none⟩ n).heap[g]? = some (.cells cur e mk) ∧ mk.1 = 0 ∧ n ≤ mk.2 ∧ (fz.1 = 0 ∧ n ≤ fz.2 → mk = fz) := by
  obtain ⟨lo, hi⟩ := fz
  unfold World.freeze
  rw [if_neg hn]
  have h' : w.drew.heap[g]? = some (.cells cur e (lo, hi)) := h
  simp only [Array.getElem?_modify, h', if_true, Option.map_some]
  refine ⟨_, rfl, ?_⟩
  by_cases c : lo = hi
  · simp only [c, beq_self_eq_true, if_true]
    refine ⟨trivial, by omega, fun ⟨a, b⟩ => by omega⟩
  · have c' : (lo == hi) = false := by simpa using c
    simp only [c', Bool.false_eq_true, if_false]
    refine ⟨by omega, by omega, fun ⟨a, b⟩ => ?_⟩
    have e1 : min lo 0 = lo := by omega
    have e2 : max hi (0 + n) = hi := by omega
    rw [e1, e2]

theorem del_get {h : HP} (nd : (h.map Prod.fst).Nodup) (k q : Key) : (h.del k).get q = if q = k then none else h.get q := by
  induction h with
  | nil => simp [HP.del, HP.get]
  | cons p r ih =>
    obtain ⟨k', o'⟩ := p
    simp only [List.map_cons, List.nodup_cons] at nd
    simp only [HP.del]
    by_cases e : k' = k
    · subst e
      rw [if_pos rfl]
      simp only [HP.get]
      by_cases e2 : q = k'
      · subst e2
        rw [if_pos rfl]; exact HP.get_none nd.1
      · rw [if_neg e2, if_neg (Ne.symm e2)]
    · rw [if_neg e]
      simp only [HP.get]
      by_cases e2 : k' = q
      · subst e2
        rw [if_pos rfl, if_neg e, if_pos rfl]
      · rw [if_neg e2, if_neg e2]
        exact ih nd.2
theorem del_keys (h : HP) (k q : Key) (hq : q ∈ (h.del k).map Prod.fst) : q ∈ h.map Prod.fst := by
  induction h with
  | nil => simp [HP.del] at hq
  | cons p r ih =>
    obtain ⟨k', o'⟩ := p
    simp only [HP.del] at hq
    by_cases e : k' = k
    · rw [if_pos e] at hq; exact List.mem_cons_of_mem _ hq
    · rw [if_neg e] at hq
      rcases List.mem_cons.1 hq with h | h
      · exact List.mem_cons.2 (.inl h)
      · exact List.mem_cons_of_mem _ (ih h)
theorem del_nd {h : HP} (nd : (h.map Prod.fst).Nodup) (k : Key) : ((h.del k).map Prod.fst).Nodup := by
  induction h with
  | nil => simp [HP.del]
  | cons p r ih =>
    obtain ⟨k', o'⟩ := p
    simp only [List.map_cons, List.nodup_cons] at nd
    simp only [HP.del]
    by_cases e : k' = k
    · rw [if_pos e]; exact nd.2
    · rw [if_neg e]
      simp only [List.map_cons, List.nodup_cons]
      exact ⟨fun hm => nd.1 (del_keys r k k' hm), ih nd.2⟩
set_option maxHeartbeats 1000000 in
theorem str_ok {P : Program} {f : FuncId} {ty e0 : Nat} (hS : StrSaid P f ty e0) (hg : goodFn P f = true) : ∀ args h ck r h' ck', strP ty e0 args h ck = some (r, h', ck') → ∀ R w us, HInv R w h ck (fun _ => False) → ArgsRep R w us args → goodFn P f = true ∧ Calls P f us w (CPost R w h r h' ck' (fun _ => False)) := by
  intro args h ck r h' ck' hr R w us hi ha
  refine ⟨hg, ?_⟩
  unfold strP at hr
  split at hr
  · rename_i k
    obtain ⟨g, n, hμ, rfl⟩ := pt_arg ha
    split at hr
    · rename_i ty' a k2 len hk
      split at hr
      · rename_i e els hk2
        split at hr
        · rename_i bs hb
          by_cases hc : ty' = ty ∧ e = e0 ∧ len = els.length ∧ 0 < len
          · rw [if_pos hc] at hr
            cases hr
            obtain ⟨rfl, rfl, rfl, hpos⟩ := hc
            have hels := u8x_eq hb
            have hlen : els.length = bs.length := by rw [hels]; simp [bytesT]
            obtain ⟨g', n', arr, b1, b2, b3, b4, b5⟩ := hi.ob _ _ hk
            rw [hμ] at b1; cases b1
            have hsz : arr.size = 2 := b3
            have r1 := b5 1 _ rfl
            rcases repV_ow r1 with ⟨g2, tot, A, cap, hvx, hμ2, hl, hcap, hA⟩ | ⟨_, _, _, hl0⟩
            · rcases hi.ob _ _ hk2 with ⟨c1, _⟩ | ⟨g3, tot3, cur, c1, c2, c3, c4, c5, c6, c7, c8, _⟩
              · rw [hμ2] at c1; cases c1
              · rw [hμ2] at c1; cases c1
                obtain rfl : cap = tot := by omega
                have hAe := hA (by omega)
                rw [Nat.zero_mul] at hAe
                subst hAe
                have hne0 : bs.length ≠ 0 := by omega
                have harr : arr = #[arr.getD 0 undef, .slice (some ⟨g2, 0, none⟩) bs.length cap] := by
                  rw [← hlen, ← hvx]
                  rcases arr with ⟨l⟩
                  match l, hsz with
                  | [x, y], _ => rfl
                obtain ⟨mk0, c2h, _⟩ := c2
                have hcell : ∀ (j : Nat) x, bs[j]? = some x → cur.getD j undef = .int .u8 x.toNat := by
                  intro j x hx
                  have := c8 j 0 (.i .u8 x.toNat) (by rw [hels]; simp [at2, bytesT, hx])
                  rw [Nat.mul_one, Nat.add_zero] at this
                  generalize cur.getD j undef = u at this
                  cases this; rfl
                rw [harr] at b2
                refine (hS g g2 _ bs cap cur e mk0 w (by intro h; rw [h] at hne0; exact hne0 rfl) rfl b2 c2h (by omega) c5 (by rw [c3, Nat.mul_one]) hcell).mono ?_
                rintro x w' ⟨rfl, rfl⟩
                obtain ⟨mk, m1, m2, m3, _⟩ := freeze_at w g2 bs.length hne0 c2h
                have hold := freeze_heap w g2 bs.length hne0
                obtain ⟨f1, f2, f3, f4⟩ := freeze_rest w g2 bs.length
                generalize w.drew.freeze ⟨g2, 0, none⟩ bs.length = w' at m1 hold f1 f2 f3 f4
                have hkk : k ≠ k2 := by rintro rfl; rw [hk] at hk2; cases hk2
                have hown2 : Own R h g2 := ⟨k2, _, _, hk2, rfl, hμ2⟩
                have hgg : g ≠ g2 := by
                  rintro rfl
                  exact hkk (hi.sep k2 k _ _ g _ _ hk2 hk rfl hμ2 hμ).symm
                have hget : ∀ q, ((h.del k2).put k k (.bls ty' e bs)).get q = if q = k then some (.bls ty' e bs) else if q = k2 then none else h.get q := by
                  intro q
                  simp only [get_put1, del_get hi.nd]
                  by_cases e1 : q = k
                  · rw [if_pos e1, if_pos e1, if_neg hkk, hk]; rfl
                  · rw [if_neg e1, if_neg e1]
                have hback : ∀ q o, ((h.del k2).put k k (.bls ty' e bs)).get q = some o → q ≠ k2 ∧ ∃ o', h.get q = some o' ∧ live o' = live o ∧ (q ≠ k → o' = o) ∧ (q = k → o = .bls ty' e bs) := by
                  intro q o ho
                  rw [hget] at ho
                  by_cases e1 : q = k
                  · rw [if_pos e1] at ho; cases ho
                    exact ⟨by rw [e1]; exact hkk, .box ty' [a, .ow k2 1 0 els.length], by rw [e1]; exact hk, rfl, fun h => absurd e1 h, fun _ => rfl⟩
                  · rw [if_neg e1] at ho
                    by_cases e2 : q = k2
                    · rw [if_pos e2] at ho; cases ho
                    · rw [if_neg e2] at ho
                      exact ⟨e2, o, ho, rfl, fun _ => rfl, fun h => absurd h e1⟩
                have hne2 : ∀ q o n', q ≠ k2 → h.get q = some o → R.μ q = some (some (g2, n')) → False := fun q o n' hq ho hm => hq (hi.sep k2 q _ _ g2 _ _ hk2 ho rfl hμ2 hm).symm
                have hag : Agree R w (R.withS fun q => q = g2) w' := ⟨fun _ h => .inl h, fun _ h => h, fun _ _ h => h, fun q hq => hold q (fun e => (hi.own g2 hown2).1 (e ▸ hq)), fun q hq => hold q (fun e => (hi.own g2 hown2).2 (e ▸ hq))⟩
                have hown' : ∀ q, Own (R.withS fun q => q = g2) ((h.del k2).put k k (.bls ty' e bs)) q → Own R h q ∧ q ≠ g2 := by
                  rintro q ⟨x, o, n', h1, h2, h3⟩
                  obtain ⟨x1, o', x2, x3, _⟩ := hback x o h1
                  exact ⟨⟨x, o', n', x2, by rw [x3]; exact h2, h3⟩, by rintro rfl; exact hne2 x o' n' x1 x2 h3⟩
                refine ⟨_, R.withS fun q => q = g2, rfl, .t (.s _ _ rfl), ⟨f1, f2, f3, by rw [f4]; exact Nat.le_refl _, fun q _ hq => hold q (fun e => hq (e ▸ hown2)), fun _ h => .inl h, rfl, fun _ _ h => h, ?_, fun q hq => .inr (hown' q hq).1⟩, ⟨?_, ?_, ?_, ?_, ?_, ?_, ?_, gl_keep hi.gl hag⟩⟩
                · rintro q (hq | rfl)
                  · exact .inl hq
                  · exact .inr (.inr hown2)
                · intro q o ho
                  obtain ⟨x1, o', x2, x3, x4, x5⟩ := hback q o ho
                  by_cases e1 : q = k
                  · rw [x5 e1, e1]
                    exact ⟨g, n, _, g2, cap, cur, mk, hμ, (hold g hgg).trans b2, .inr rfl, m1, m2, m3, by omega, by omega, c5, by rw [c3, Nat.mul_one], hcell⟩
                  · have := x4 e1
                    subst this
                    exact (hi.ob q o' x2).mono hag (fun g' n' hm => hold g' (by rintro rfl; exact hne2 q o' n' x1 x2 hm))
                · intro q1 q2 o1 o2 g' n1 n2 h1 h2 h3 h4 h5
                  obtain ⟨_, o1', x2, x3, _⟩ := hback q1 o1 h1
                  obtain ⟨_, o2', y2, _⟩ := hback q2 o2 h2
                  exact hi.sep q1 q2 o1' o2' g' n1 n2 x2 y2 (by rw [x3]; exact h3) h4 h5
                · intro q hq
                  obtain ⟨x1, x2⟩ := hown' q hq
                  exact ⟨fun h => h.elim (hi.own q x1).1 x2, (hi.own q x1).2⟩
                · rintro q (hq | rfl)
                  · rw [f4]; exact hi.sS q hq
                  · rw [f4]; exact (Array.getElem?_eq_some_iff.1 c2h).1
                · intro q hq; rw [f4]; exact hi.sB q hq
                · intro q p hq
                  rcases hi.fr q p hq with h1 | h1
                  · exact .inl (by omega)
                  · exact h1.2.elim
                · exact HP.nodup_put (del_nd hi.nd k2) (HP.mem_of_get (by rw [del_get hi.nd, if_neg hkk]; exact hk)) (.inl rfl)
            · omega
          · rw [if_neg hc] at hr; cases hr
        · cases hr
      · cases hr
    · rename_i ty' e bs hk
      by_cases ht : ty' = ty ∧ e = e0
      · rw [if_pos ht] at hr
        cases hr
        obtain ⟨rfl, rfl⟩ := ht
        obtain ⟨g', n', p, g2, cap, cur, mk, b1, b2, b3, b4, b5, b6, b7, b8, b9, b10, b11⟩ := hi.ob _ _ hk
        rw [hμ] at b1; cases b1
        have hne0 : bs.length ≠ 0 := by omega
        refine (hS g g2 p bs cap cur e mk w (by intro h; rw [h] at hne0; exact hne0 rfl) rfl b2 b4 b8 b9 b10 b11).mono ?_
        rintro x w' ⟨rfl, rfl⟩
        obtain ⟨mk2, m1, m2, m3, m4⟩ := freeze_at w g2 bs.length hne0 b4
        have hold := freeze_heap w g2 bs.length hne0
        obtain ⟨f1, f2, f3, f4⟩ := freeze_rest w g2 bs.length
        generalize w.drew.freeze ⟨g2, 0, none⟩ bs.length = w' at m1 hold f1 f2 f3 f4
        rw [m4 ⟨b5, b6⟩] at m1
        have hall : ∀ q, w'.heap[q]? = w.heap[q]? := fun q => by
          by_cases e : q = g2
          · rw [e, m1, b4]
          · exact hold q e
        have hag : Agree R w R w' := ⟨fun _ h => h, fun _ h => h, fun _ _ h => h, fun q _ => hall q, fun q _ => hall q⟩
        exact ⟨_, R, rfl, .t (.s _ _ rfl), ⟨f1, f2, f3, by rw [f4]; exact Nat.le_refl _, fun q _ _ => hall q, fun _ h => h, rfl, fun _ _ h => h, fun _ h => .inl h, fun _ h => .inr h⟩, ⟨fun q o ho => (hi.ob q o ho).mono hag (fun g' _ _ => hall g'), hi.sep, hi.own, fun q hq => by rw [f4]; exact hi.sS q hq, fun q hq => by rw [f4]; exact hi.sB q hq, fun q p hq => (hi.fr q p hq).elim (fun h1 => .inl (by omega)) (fun h1 => h1.2.elim), hi.nd, gl_keep hi.gl hag⟩⟩
      · rw [if_neg ht] at hr; cases hr
    · cases hr
  · cases hr
end Go.Pev
