/- The machine's operations against the pure evaluator's: structs and arrays that are built; bytes to a string. -/
import Derived.Test.YthkehbdljckbdaaOps7
import Derived.Test.YthkehbdljckbdaaOps9
set_option linter.unusedVariables false
set_option linter.unusedSimpArgs false
namespace Go.Pev
open Go Go.RowKit

def Pls (place : Nat → Option (Nat × Nat)) : List (Nat × Operand) → List (Nat × Nat × Operand) → Prop
  | [], [] => True
  | (i, x) :: L, (o, n, y) :: pl => place i = some (o, n) ∧ y = x ∧ Pls place L pl
  | _, _ => False

theorem placeS_pls (pls : List (Nat × Nat)) : ∀ (L : List (Nat × Operand)) (pl : List (Nat × Nat × Operand)), placeS pls L = some pl → Pls (fun i => pls.toArray[i]?) L pl
  | [], pl, h => by simp [placeS] at h; subst h; trivial
  | (i, x) :: L, pl, h => by
    simp only [placeS] at h
    cases h1 : pls[i]? with
    | none => simp [h1] at h
    | some p =>
      cases h2 : placeS pls L with
      | none => simp [h1, h2] at h
      | some ys =>
        simp [h1, h2] at h
        subst h
        exact ⟨by simp [h1], rfl, placeS_pls pls L ys h2⟩
theorem placeA_pls (n : Nat) : ∀ (L : List (Nat × Operand)), Pls (fun i => some (i * n, n)) L (placeA n L)
  | [] => trivial
  | (i, x) :: L => ⟨rfl, rfl, placeA_pls n L⟩

section
variable {P : Program} {o : Oper} {a : Act} {R : Rl} {w : World} {hp : HP} {dn : Nat → Prop} {me ck d : Nat} {e : Env}

/-- The cells so far. -/
def CellsRep (R : Rl) (w : World) (C : Array Value) (zs : List V) : Prop := C.size = zs.length ∧ (∀ j, j < C.size → (C.getD j undef).oneCell' = true) ∧ ∀ j v, zs[j]? = some v → RepV R w (C.getD j undef) v

theorem fill_rep (he : EnvRep R w a e) (place : Nat → Option (Nat × Nat)) : ∀ (L : List (Nat × Operand)) (pl : List (Nat × Nat × Operand)) (pl' : List (Nat × Nat × Opd)) (C : Array Value) (zs r : List V), Pls place L pl → placesOf P pl = some pl' → CellsRep R w C zs → buildV zs e pl' = some r →
    ∃ C', Instr.fill place C (L.map fun p => (p.1, a.eval p.2)) = some C' ∧ CellsRep R w C' r
  | [], [], pl', C, zs, r, _, h, hc, hr => by
    simp [placesOf] at h
    subst h
    simp [buildV] at hr
    subst hr
    exact ⟨C, rfl, hc⟩
  | [], _ :: _, pl', C, zs, r, hp, h, hc, hr => by simp [Pls] at hp
  | _ :: _, [], pl', C, zs, r, hp, h, hc, hr => by simp [Pls] at hp
  | (i, x) :: L, (of, n, y) :: pl, pl', C, zs, r, hp, h, hc, hr => by
    obtain ⟨hp1, rfl, hp3⟩ := hp
    simp only [placesOf] at h
    cases h1 : compOpd y with
    | none => simp [h1] at h
    | some y' =>
      cases h2 : placesOf P pl with
      | none => simp [h1, h2] at h
      | some ys =>
        simp [h1, h2] at h
        subst h
        simp only [buildV] at hr
        cases h3 : cells (y'.ev e) with
        | none => simp [h3] at hr
        | some cs =>
          simp only [h3] at hr
          by_cases hl : cs.length = n ∧ of + n ≤ zs.length
          · rw [if_pos hl] at hr
            obtain ⟨rfl, hle⟩ := hl
            obtain ⟨c1, c2, c3⟩ := cells_rep (opd_rep he h1) h3
            obtain ⟨z1, z2, z3⟩ := hc
            obtain ⟨g1, g2⟩ := Great.foldl_set of (a.eval y).cells.toList 0 C
            have hlt : (a.eval y).cells.toList.length = cs.length := by simpa using c1
            have hget : ∀ k, (((a.eval y).cells.toList.zipIdx 0).foldl (fun cs (x : Value × Nat) => cs.setIfInBounds (of + x.2) x.1) C).getD k undef = if of ≤ k ∧ k < of + cs.length then (a.eval y).cells.getD (k - of) undef else C.getD k undef := by
              intro k
              rw [Array.getD_eq_getD_getElem?, g2 k, hlt]
              by_cases hk : of ≤ k ∧ k < of + cs.length
              · rw [if_pos (by omega), if_pos hk]
                rw [Nat.add_zero, ← arr_getD, List.getD_eq_getElem?_getD]
              · rw [if_neg (by omega), if_neg hk, Array.getD_eq_getD_getElem?]
            obtain ⟨C', f1, f2⟩ := fill_rep he place L pl ys (((a.eval y).cells.toList.zipIdx 0).foldl (fun cs (x : Value × Nat) => cs.setIfInBounds (of + x.2) x.1) C) (over zs of cs) r hp3 h2
              ⟨by rw [g1, over_length, z1], fun j hj => by
                rw [g1] at hj
                rw [hget]
                by_cases hk : of ≤ j ∧ j < of + cs.length
                · rw [if_pos hk]; exact c2 _ (by omega)
                · rw [if_neg hk]; exact z2 j hj, fun j v hv => by
                rw [over_get _ _ _ _ hle] at hv
                rw [hget]
                by_cases hk : of ≤ j ∧ j < of + cs.length
                · rw [if_pos hk] at hv ⊢; exact c3 _ _ hv
                · rw [if_neg hk] at hv ⊢; exact z3 _ _ hv⟩ hr
            refine ⟨C', ?_, f2⟩
            simp only [List.map_cons]
            unfold Instr.fill
            simp only [hp1]
            rw [if_neg (by simp [c1]; omega), ← f1]
            congr 1
            rw [← Array.foldl_toList, Array.toList_zipIdx]
          · rw [if_neg hl] at hr; cases hr

theorem build_out (hi : HInv R w hp ck dn) (he : EnvRep R w a e) {t : TypeId} {ps : Array (Nat × Operand)} (ho : o.op = .build t ps) {z : Value} (hz : zeroOf P t = some z) {zs : List V} (hzs : constCs z.cells.toList = some zs) {pl : List (Nat × Nat × Operand)} {pl' : List (Nat × Nat × Opd)}
    (hk : (∃ fs fo, P.underlying t = some (.struct fs) ∧ fieldsOf P fs = some fo ∧ placeS fo ps.toList = some pl) ∨ (∃ len el n, P.underlying t = some (.array len el) ∧ szOf P el = some n ∧ placeA n ps.toList = pl)) (hpl : placesOf P pl = some pl') {r : List V} (hr : buildV zs e pl' = some r) :
    Out P o a R w hp dn me (.ag r) hp ck := by
  obtain ⟨hl, hrep⟩ := constCs_rep (R := R) (w := w) _ _ hzs
  have hc0 : CellsRep R w z.cells zs := by
    have hl' : z.cells.size = zs.length := by simpa using hl
    refine ⟨hl', fun j hj => ?_, fun j x hx => ?_⟩
    · have := (hrep j _ (List.getElem?_eq_getElem (by omega))).2
      rwa [arr_getD] at this
    · have := (hrep j x hx).1
      rwa [arr_getD] at this
  have hinfo : ∃ it, P.info? t = some it ∧ it.zero = some z := by
    unfold zeroOf at hz
    cases hit : P.info? t with
    | none => simp [hit] at hz
    | some it => simp [hit] at hz; exact ⟨it, rfl, hz⟩
  obtain ⟨it, hit, hiz⟩ := hinfo
  have hb : ∃ C', P.built t (ps.map fun p => (p.1, a.eval p.2)).toList = some C' ∧ CellsRep R w C' r := by
    rcases hk with ⟨fs, fo, ht, hfo, hps⟩ | ⟨len, el, n, ht, hn, rfl⟩
    · obtain ⟨C', f1, f2⟩ := fill_rep (P := P) he (fun i => fo.toArray[i]?) ps.toList pl pl' z.cells zs r (placeS_pls fo _ _ hps) hpl hc0 hr
      refine ⟨C', ?_, f2⟩
      unfold fieldsOf at hfo
      unfold Program.built
      simp only [hit, ht, hiz, hfo, Array.toList_map]
      exact f1
    · obtain ⟨C', f1, f2⟩ := fill_rep (P := P) he (fun i => some (i * n, n)) ps.toList _ pl' z.cells zs r (placeA_pls n _) hpl hc0 hr
      refine ⟨C', ?_, f2⟩
      have hie : ∃ ie, P.info? el = some ie ∧ ie.size = n := by
        unfold szOf at hn
        cases hie : P.info? el with
        | none => simp [hie] at hn
        | some ie => simp [hie] at hn; exact ⟨ie, rfl, hn⟩
      obtain ⟨ie, hie, rfl⟩ := hie
      unfold Program.built
      simp only [hit, ht, hiz, hie, Array.toList_map]
      exact f1
  obtain ⟨C', hb, hcr⟩ := hb
  have hrun := run_build (P := P) w t (ps.map fun p => (p.1, a.eval p.2)) C' hb
  refine Out.pure hi (.agg C') ?_ (.ag C' r hcr.1 hcr.2.1 hcr.2.2)
  simp only [execOp, ho]
  rw [Sem.run_bind, hrun]
  rfl

theorem u8s_get : ∀ (xs : List (List T)) (r : List UInt8), u8s xs = some r → ∃ ns : List Int, r = ns.map (fun n => UInt8.ofNat n.toNat) ∧ ns.length = xs.length ∧ ∀ (i : Nat) (n : Int), ns[i]? = some n → at2 xs i 0 = some (.i .u8 n)
  | [], r, h => by simp [u8s] at h; subst h; exact ⟨[], rfl, rfl, by simp⟩
  | c :: xs, r, h => by
    unfold u8s at h
    split at h
    · rename_i heq; cases heq
    · rename_i n xs' heq
      cases heq
      cases h1 : u8s xs with
      | none => simp [h1] at h
      | some x =>
        simp [h1] at h
        subst h
        obtain ⟨ns, e1, e2, e3⟩ := u8s_get xs x h1
        refine ⟨n :: ns, by simp [e1], by simp [e2], fun i m hm => ?_⟩
        cases i with
        | zero => simp at hm; subst hm; simp [at2]
        | succ i => have := e3 i m (by simpa using hm); simpa [at2] using this
    · cases h

theorem push_toList (ns : List Int) (s : ByteArray) : (ns.foldl (fun r n => r.push (UInt8.ofNat n.toNat)) s).data.toList = s.data.toList ++ ns.map (fun n => UInt8.ofNat n.toNat) := by
  induction ns generalizing s with
  | nil => simp
  | cons n ns ih =>
    simp only [List.foldl_cons, ih, List.map_cons]
    simp [ByteArray.push]

theorem cvbs_out (hi : HInv R w hp ck dn) (he : EnvRep R w a e) {s dt el : TypeId} {x : Operand} {x' : Opd} (ho : o.op = .convert s dt x) (hs : P.underlying s = some (.slice el)) (hel : P.underlying el = some (.int .u8)) (hd : P.underlying dt = some .string) (hx : compOpd x = some x') {xs : List (List T)} (hxs : elsOf hp 1 (x'.ev e) = some xs) {r : List UInt8} (hr : u8s xs = some r) :
    Out P o a R w hp dn me (.t (.s r)) hp ck := by
  obtain ⟨A, c, news, hv, hc, hsz, n1, n2, n3, n4, n5⟩ := els_rep hi (opd_rep he hx) (by omega) hxs
  obtain ⟨ns, e1, e2, e3⟩ := u8s_get xs r hr
  have hnews : news = ns.map (Value.int .u8) := by
    apply List.ext_getElem?
    intro i
    rw [List.getElem?_map]
    cases hn : ns[i]? with
    | none =>
      have := List.getElem?_eq_none_iff.1 hn
      rw [List.getElem?_eq_none (by omega)]
      rfl
    | some n =>
      have hlt := (List.getElem?_eq_some_iff.1 hn).1
      have := n5 i 0 _ (e3 i n hn)
      rw [Nat.mul_one, Nat.add_zero] at this
      have h2 : news.getD i undef = .int .u8 n := by generalize news.getD i undef = u at this; cases this; rfl
      rw [List.getD_eq_getElem?_getD, List.getElem?_eq_getElem (by omega)] at h2
      rw [List.getElem?_eq_getElem (by omega)]
      simpa using h2
  have hconv : (execOp a.eval o).run P w = ((do let v ← Conv.bytesToString (a.eval x); pure (Next.value v) : Sem Next)).run P w := by
    simp only [execOp, ho]
    rw [hv, Sem.run_bind, run_convert_bytes_string w s dt el A _ c hs hel hd, Sem.run_bind]
  cases A with
  | none =>
    have h0 : xs.length = 0 := by
      rcases Nat.eq_zero_or_pos xs.length with h | h
      · exact h
      · obtain ⟨ad, h⟩ := n3 h; cases h
    have hns : ns = [] := List.eq_nil_of_length_eq_zero (by omega)
    subst hns
    subst e1
    refine Out.pure hi (.string .empty) ?_ (.t (.s _ _ rfl))
    rw [hconv, hv]
    simp [Conv.bytesToString]
  | some ad =>
    have hload : (loadCells ad xs.length).run P w = .ok (ns.map (Value.int .u8)).toArray w := by
      have := run_loadCells_list (P := P) w ad news (n2 ad rfl)
      rw [n1, Nat.mul_one, hnews] at this
      exact this
    refine Out.pure hi (.string (ns.foldl (fun r n => r.push (UInt8.ofNat n.toNat)) ByteArray.empty)) ?_ (.t (.s _ _ ?_))
    · rw [hconv, hv, Sem.run_bind, run_bytesToString w ad xs.length c ns hload]
      rfl
    · rw [push_toList, e1]; rfl
end
end Go.Pev
