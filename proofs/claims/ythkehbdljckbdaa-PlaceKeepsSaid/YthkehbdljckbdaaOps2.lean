/- The machine's operations against the pure evaluator's: addresses, elements, strings, loads; nothing of the heap turns. -/
import Derived.Test.YthkehbdljckbdaaOps
import Derived.Laws.Slices
import Derived.Laws.Cells
set_option linter.unusedVariables false
set_option linter.unusedSimpArgs false
namespace Go.Pev
open Go Go.RowKit

theorem addr_add (g o j : Nat) : (⟨g, o, none⟩ : Addr).add j = ⟨g, o + j, none⟩ := by unfold Addr.add; split <;> simp_all

theorem run_szOf {P : Program} {t : TypeId} {n : Nat} (h : szOf P t = some n) (w : World) : (sizeOf t).run P w = .ok n w := by
  unfold szOf at h
  cases hi : P.info? t with
  | none => simp [hi] at h
  | some i => simp [hi] at h; subst h; simp [sizeOf, typeInfo, hi]
theorem run_aggOf {P : Program} {t : TypeId} {b : Bool} (h : aggOf P t = some b) (w : World) : (isAgg t).run P w = .ok b w := by
  unfold aggOf at h
  cases hi : P.underlying t with
  | none => simp [hi] at h
  | some d =>
    simp [hi] at h
    subst h
    unfold isAgg
    rw [Sem.run_bind, run_underlying hi]
    cases d <;> rfl
theorem run_zeroOf {P : Program} {t : TypeId} {z : Value} (h : zeroOf P t = some z) (w : World) : (zeroValue t).run P w = .ok z w := by
  unfold zeroOf at h
  cases hi : P.info? t with
  | none => simp [hi] at h
  | some i => simp [hi] at h; simp [zeroValue, typeInfo, hi, h]
theorem run_bytesOf {P : Program} {t : TypeId} {n : Nat} (h : bytesOf P t = some n) : ∃ i, P.info? t = some i ∧ i.bytes = n := by
  unfold bytesOf at h
  cases hi : P.info? t with
  | none => simp [hi] at h
  | some i => simp [hi] at h; exact ⟨i, rfl, h⟩

/-- What lies at an address. -/
def Reads (R : Rl) (w : World) (g o : Nat) (cs : List V) : Prop := ∀ j v, cs[j]? = some v → ∃ u, w.cell? ⟨g, o + j, none⟩ = some u ∧ RepV R w u v ∧ u.oneCell' = true

theorem Reads.drop {R w g o cs} (h : Reads R w g o cs) (n : Nat) : Reads R w g (o + n) (cs.drop n) := by
  intro j v hv
  rw [List.getElem?_drop] at hv
  have := h (n + j) v hv
  rwa [← Nat.add_assoc] at this

theorem oneCell_repT {S : Nat → Prop} {w : World} {u : Value} {t : T} (h : RepT S w u t) : u.oneCell' = true := by cases h <;> rfl

theorem reads_trees {R : Rl} {w : World} {g o : Nat} {cs : List T} {f : Nat → Value} (hcell : ∀ j t, cs[j]? = some t → w.cell? ⟨g, o + j, none⟩ = some (f j)) (hrep : ∀ j t, cs[j]? = some t → RepT R.S w (f j) t) : Reads R w g o (cs.map .t) := by
  intro j v hv
  rw [List.getElem?_map] at hv
  cases h : cs[j]? with
  | none => simp [h] at hv
  | some t =>
    simp [h] at hv
    subst hv
    exact ⟨f j, hcell j t h, .t (hrep j t h), oneCell_repT (hrep j t h)⟩

theorem load_run {P : Program} {R : Rl} {w : World} {g o : Nat} {cs : List V} (h : Reads R w g o cs) {t : TypeId} {agg : Bool} {n : Nat} (ha : aggOf P t = some agg) (hn : szOf P t = some n) {r : V} (hr : loadOf agg n cs = some r) :
    ∃ z, (loadVar t ⟨g, o, none⟩).run P w = .ok z w ∧ RepV R w z r := by
  unfold loadOf at hr
  cases agg with
  | true =>
    simp only [if_true] at hr
    by_cases hl : (cs.take n).length = n
    · rw [if_pos hl] at hr
      cases hr
      have hle : n ≤ cs.length := by simp at hl; omega
      have hf : ∀ j, j < n → ∃ u, w.cell? ⟨g, o + j, none⟩ = some u ∧ RepV R w u (cs.getD j .un) ∧ u.oneCell' = true := by
        intro j hj
        have h1 : cs[j]? = some (cs.getD j .un) := by rw [List.getD_eq_getElem?_getD, List.getElem?_eq_getElem (by omega)]; rfl
        exact h j _ h1
      have hf2 : ∃ f : Nat → Value, ∀ j, j < n → w.cell? ⟨g, o + j, none⟩ = some (f j) ∧ RepV R w (f j) (cs.getD j .un) ∧ (f j).oneCell' = true := by
        refine ⟨fun j => (w.cell? ⟨g, o + j, none⟩).getD undef, fun j hj => ?_⟩
        obtain ⟨u, h1, h2, h3⟩ := hf j hj
        refine ⟨?_, ?_, ?_⟩ <;> simp only [h1, Option.getD_some] <;> assumption
      obtain ⟨f, hf⟩ := hf2
      have hrun := run_loadCells (P := P) w ⟨g, o, none⟩ n f (fun j hj => by rw [addr_add]; exact (hf j hj).1)
      refine ⟨.agg ((List.range n).map f).toArray, ?_, ?_⟩
      · simp [loadVar, run_aggOf ha, run_szOf hn, hrun]
      · refine .ag _ _ (by simp; omega) (fun j hj => ?_) (fun j v hv => ?_)
        · simp at hj
          simp [hj]
          exact (hf j hj).2.2
        · rw [List.getElem?_take] at hv
          by_cases hj : j < n
          · rw [if_pos hj] at hv
            simp [hj]
            have := (hf j hj).2.1
            rw [List.getD_eq_getElem?_getD, hv] at this
            exact this
          · rw [if_neg hj] at hv
            cases hv
    · rw [if_neg hl] at hr
      cases hr
  | false =>
    simp only [Bool.false_eq_true, if_false] at hr
    cases cs with
    | nil => simp at hr
    | cons v r' =>
      simp at hr
      subst hr
      obtain ⟨u, h1, h2, _⟩ := h 0 v rfl
      refine ⟨u, ?_, h2⟩
      rw [Nat.add_zero] at h1
      simp [loadVar, run_aggOf ha, h1]

theorem getD_of_getElem? {arr : Array Value} {j : Nat} (hj : j < arr.size) : arr[j]? = some (arr.getD j undef) := by
  rw [Array.getD_eq_getD_getElem?, Array.getElem?_eq_getElem hj]; rfl

theorem RowAt.cell {w : World} {g : Nat} {arr : Array Value} {ty : TypeId} (h : RowAt w g arr ty) {j : Nat} : w.cell? ⟨g, j, none⟩ = arr[j]? := by
  obtain ⟨mk, h1, _⟩ := h
  exact cell_of_row w g j arr ty mk h1
theorem box_reads {R : Rl} {w : World} {k : Key} {ty : Nat} {cs : List V} (h : ObRel R w k (.box ty cs)) : ∃ g n, R.μ k = some (some (g, n)) ∧ Reads R w g 0 cs := by
  obtain ⟨g, n, arr, h1, h2, h3, h4, h5⟩ := h
  refine ⟨g, n, h1, fun j v hv => ?_⟩
  have hj : j < arr.size := by rw [h3]; exact (List.getElem?_eq_some_iff.1 hv).1
  refine ⟨arr.getD j undef, ?_, h5 j v hv, h4 j hj⟩
  rw [Nat.zero_add, cell_of_row w g j arr ty (0, 0) h2]
  exact getD_of_getElem? hj

theorem at2_some {xs : List (List T)} {i j : Nat} {c : List T} {t : T} (h1 : xs[i]? = some c) (h2 : c[j]? = some t) : at2 xs i j = some t := by simp [at2, h1, h2]
theorem at2_elim {xs : List (List T)} {i j : Nat} {t : T} (h : at2 xs i j = some t) : ∃ c, xs[i]? = some c ∧ c[j]? = some t := by
  unfold at2 at h
  cases h1 : xs[i]? with
  | none => simp [h1] at h
  | some c => simp [h1] at h; exact ⟨c, rfl, h⟩
theorem mul_lt {i n j sz : Nat} (hi : i < n) (hj : j < sz) : i * sz + j < n * sz := by
  have : (i + 1) * sz ≤ n * sz := Nat.mul_le_mul_right _ hi
  rw [Nat.add_mul] at this
  omega

theorem row_reads {R : Rl} {w : World} {k : Key} {ty sz : Nat} {els : List (List T)} {fz : Bool} (h : ObRel R w k (.row ty sz els fz)) {i : Nat} {c : List T} (hc : els[i]? = some c) : ∃ g n, R.μ k = some (some (g, n)) ∧ Reads R w g (i * sz) (c.map .t) := by
  have hi := (List.getElem?_eq_some_iff.1 hc).1
  rcases h with ⟨_, h⟩ | ⟨g, tot, arr, h1, h2, h3, h4, h5, h6, h7, h8, h9⟩
  · subst h; simp at hi
  · refine ⟨g, tot, h1, ?_⟩
    have hsz := h6 c (List.mem_of_getElem? hc)
    refine reads_trees (f := fun j => arr.getD (i * sz + j) undef) (fun j t ht => ?_) (fun j t ht => h8 i j t (at2_some hc ht))
    have hj := (List.getElem?_eq_some_iff.1 ht).1
    rw [h2.cell]
    refine getD_of_getElem? ?_
    rw [h3]
    exact mul_lt (by omega) (by omega)

theorem load_rep {P : Program} {R : Rl} {w : World} {hp : HP} {ck : Nat} {dn : Nat → Prop} (hi : HInv R w hp ck dn) {u : Value} {x : V} (hx : RepV R w u x) {t : TypeId} {agg : Bool} {n : Nat} (ha : aggOf P t = some agg) (hn : szOf P t = some n) {r : V} (hr : load hp agg n x = some r) :
    ∃ z, (Instr.loadAt t u).run P w = .ok z w ∧ RepV R w z r := by
  unfold load at hr
  split at hr
  · rename_i k sz i j
    cases hx with
    | pt _ _ _ _ g n' hμ =>
      split at hr
      · rename_i ty cs hk
        by_cases hi0 : i = 0
        · rw [if_pos hi0] at hr
          subst hi0
          obtain ⟨g', n2, h1, h2⟩ := box_reads (hi.ob _ _ hk)
          rw [h1] at hμ
          cases hμ
          obtain ⟨z, h3, h4⟩ := load_run (h2.drop j) ha hn hr
          refine ⟨z, ?_, h4⟩
          simpa [Instr.loadAt, Instr.sureAddr] using h3
        · rw [if_neg hi0] at hr
          cases hr
      · rename_i ty sz' els fz hk
        by_cases hs : sz' = sz
        · rw [if_pos hs] at hr
          subst hs
          split at hr
          · rename_i c hc
            obtain ⟨g', n2, h1, h2⟩ := row_reads (hi.ob _ _ hk) hc
            rw [h1] at hμ
            cases hμ
            rw [List.map_drop] at hr
            obtain ⟨z, h3, h4⟩ := load_run (h2.drop j) ha hn hr
            exact ⟨z, by simpa [Instr.loadAt, Instr.sureAddr] using h3, h4⟩
          · cases hr
        · rw [if_neg hs] at hr
          cases hr
      · cases hr
  · rename_i cs
    cases hx with
    | pr g o _ f hB hcell hrep =>
      obtain ⟨z, h3, h4⟩ := load_run (reads_trees hcell hrep) ha hn hr
      exact ⟨z, by simpa [Instr.loadAt, Instr.sureAddr] using h3, h4⟩
  · cases hr

theorem repT_l {S : Nat → Prop} {w : World} {v : Value} {xs : List (List T)} (h : RepT S w v (.l xs)) (sz : Nat) (hsz : ∀ c ∈ xs, c.length = sz) :
    ∃ (A : Option Addr) (c g o : Nat) (f : Nat → Nat → Value), v = .slice A xs.length c ∧ xs.length ≤ c ∧ (0 < xs.length → A = some ⟨g, o, none⟩) ∧ (0 < xs.length → S g) ∧ (∀ i j t, at2 xs i j = some t → w.cell? ⟨g, o + (i * sz + j), none⟩ = some (f i j)) ∧ (∀ i j t, at2 xs i j = some t → RepT S w (f i j) t) := by
  cases h with
  | l A n c _ sz' g o f hl hc hA hS hsz' hcell hrep =>
    subst hl
    refine ⟨A, c, g, o, f, rfl, hc, hA, hS, fun i j t ht => ?_, hrep⟩
    obtain ⟨cc, h1, h2⟩ := at2_elim ht
    have hm := List.mem_of_getElem? h1
    have : sz' = sz := (hsz' cc hm).symm.trans (hsz cc hm)
    subst this
    exact hcell i j t ht

theorem repT_l0 {S : Nat → Prop} {w : World} {v : Value} {xs : List (List T)} (h : RepT S w v (.l xs)) :
    ∃ (A : Option Addr) (c sz g o : Nat) (f : Nat → Nat → Value), v = .slice A xs.length c ∧ xs.length ≤ c ∧ (∀ c ∈ xs, c.length = sz) ∧ (0 < xs.length → A = some ⟨g, o, none⟩) ∧ (0 < xs.length → S g) ∧ (∀ i j t, at2 xs i j = some t → w.cell? ⟨g, o + (i * sz + j), none⟩ = some (f i j)) ∧ (∀ i j t, at2 xs i j = some t → RepT S w (f i j) t) := by
  cases h with
  | l A n c _ sz' g o f hl hc hA hS hsz' hcell hrep =>
    subst hl
    exact ⟨A, c, sz', g, o, f, rfl, hc, hsz', hA, hS, hcell, hrep⟩
theorem repV_tl {R : Rl} {w : World} {v : Value} {x : T} (h : RepV R w v (.t x)) : RepT R.S w v x := by cases h; assumption

theorem repV_ow {R : Rl} {w : World} {v : Value} {k : Key} {sz off len : Nat} (h : RepV R w v (.ow k sz off len)) :
    (∃ g tot A cap, v = .slice A len cap ∧ R.μ k = some (some (g, tot)) ∧ len ≤ cap ∧ off + cap = tot ∧ (0 < cap → A = some ⟨g, off * sz, none⟩)) ∨ (v = .slice none 0 0 ∧ R.μ k = some none ∧ off = 0 ∧ len = 0) := by
  cases h with
  | ow _ _ _ _ g tot A cap hμ hl hc hA => exact .inl ⟨g, tot, A, cap, rfl, hμ, hl, hc, hA⟩
  | owv _ _ hμ => exact .inr ⟨rfl, hμ, rfl, rfl⟩

section
variable {P : Program} {o : Oper} {a : Act} {R : Rl} {w : World} {hp : HP} {dn : Nat → Prop} {me ck : Nat} {e : Env}

theorem load_out (hi : HInv R w hp ck dn) (he : EnvRep R w a e) {t : TypeId} {x : Operand} {x' : Opd} (ho : o.op = .load t x) {agg : Bool} {n : Nat} (ha : aggOf P t = some agg) (hn : szOf P t = some n) (hx : compOpd x = some x') {r : V} (hr : load hp agg n (x'.ev e) = some r) :
    Out P o a R w hp dn me r hp ck := by
  obtain ⟨z, h1, h2⟩ := load_rep hi (opd_rep he hx) ha hn hr
  exact Out.pure hi z (by simp only [execOp, ho]; rw [Sem.run_bind, h1]; rfl) h2

theorem nchk_out (hi : HInv R w hp ck dn) (he : EnvRep R w a e) {x : Operand} {x' : Opd} (ho : o.op = .nilCheck x) (hx : compOpd x = some x') {r : V} (hr : (∃ k sz i j, x'.ev e = .pt k sz i j ∧ r = .pt k sz i j) ∨ (∃ cs, x'.ev e = .pr cs ∧ r = .pr cs)) :
    Out P o a R w hp dn me r hp ck := by
  have rx := opd_rep he hx
  refine Out.pure hi (a.eval x) ?_ ?_
  · rcases hr with ⟨k, sz, i, j, h1, rfl⟩ | ⟨cs, h1, rfl⟩
    · rw [h1] at rx
      cases hv : a.eval x <;> rw [hv] at rx <;> cases rx
      simp [execOp, ho, hv]
    · rw [h1] at rx
      cases hv : a.eval x <;> rw [hv] at rx <;> cases rx
      simp [execOp, ho, hv]
  · rcases hr with ⟨k, sz, i, j, h1, rfl⟩ | ⟨cs, h1, rfl⟩ <;> rw [← h1] <;> exact rx

theorem un_out (hi : HInv R w hp ck dn) (he : EnvRep R w a e) {op : UnOp} {t : TypeId} {x : Operand} {x' : Opd} (ho : o.op = .unOp op t x) (hx : compOpd x = some x') {r : V} (hr : un op (x'.ev e) = some r) :
    Out P o a R w hp dn me r hp ck := by
  have rx := opd_rep he hx
  unfold un at hr
  split at hr
  · rename_i k n h1
    rw [h1] at rx
    cases op with
    | neg =>
      cases hr
      exact Out.pure hi (.int k (k.wrap (0 - n))) (by simp [execOp, ho, repV_i rx, Op.unary, Op.intArith]) (.t (.i _ _))
    | xor =>
      cases hr
      exact Out.pure hi _ (by simp only [execOp, ho, repV_i rx, Op.unary, Op.intBits]; rfl) (.t (.i _ _))
    | not => cases hr
    | plus => cases hr
  · rename_i b h1
    rw [h1] at rx
    cases op <;> simp at hr
    subst hr
    exact Out.pure hi (.bool (!b)) (by simp [execOp, ho, repV_b rx, Op.unary]) (.t (.b _))
  · cases hr

theorem cvi_out (hi : HInv R w hp ck dn) (he : EnvRep R w a e) {s d : TypeId} {k : IntKind} {q : IntKind} {x : Operand} {x' : Opd} (ho : o.op = .convert s d x) (hs : P.underlying s = some (.int q)) (hd : P.underlying d = some (.int k)) (hx : compOpd x = some x') {r : V} (hr : cvi k (x'.ev e) = some r) :
    Out P o a R w hp dn me r hp ck := by
  have rx := opd_rep he hx
  unfold cvi at hr
  split at hr
  · rename_i k' n h1
    rw [h1] at rx
    cases hr
    exact Out.pure hi (.int k (k.wrap n)) (by simp [execOp, ho, repV_i rx, convert, run_underlying hs, run_underlying hd, Conv.intToInt]) (.t (.i _ _))
  · cases hr

theorem cvs_out (hi : HInv R w hp ck dn) (he : EnvRep R w a e) {s d : TypeId} {x : Operand} {x' : Opd} (ho : o.op = .convert s d x) (hs : P.underlying s = some .string) (hd : P.underlying d = some .string) (hx : compOpd x = some x') {y : List UInt8} (hr : x'.ev e = .t (.s y)) :
    Out P o a R w hp dn me (.t (.s y)) hp ck := by
  have rx := opd_rep he hx
  rw [hr] at rx
  obtain ⟨z, h1, h2⟩ := repV_s rx
  exact Out.pure hi (.string z) (by simp [execOp, ho, h1, convert, run_underlying hs, run_underlying hd]) (.t (.s _ _ h2))

theorem mkfn_out (hi : HInv R w hp ck dn) (he : EnvRep R w a e) {f : FuncId} {first caps : Array Operand} {caps' : List Opd} (ho : o.op = .makeFunc (.func f) first caps) (hf : first.size = 0) (hc : compOpds caps.toList = some caps') :
    Out P o a R w hp dn me (.fn f (caps'.map (·.ev e))) hp ck := by
  have hf' : first = #[] := Array.eq_empty_of_size_eq_zero hf
  obtain ⟨h1, h2⟩ := opds_rep he _ _ hc
  refine Out.pure hi (.func (.func f) #[] (caps.map a.eval)) (by simp [execOp, ho, hf', Instr.makeFunc]) (.fn f _ _ (by simpa using h1) (fun j v hv => ?_))
  have := h2 j v hv
  rw [← Array.toList_map, arr_getD] at this
  exact this

theorem ext_out (hi : HInv R w hp ck dn) (he : EnvRep R w a e) {n : Nat} {x : Operand} {x' : Opd} (ho : o.op = .extract x n) (hx : compOpd x = some x') {r : V} (hr : ext n (x'.ev e) = some r) :
    Out P o a R w hp dn me r hp ck := by
  have rx := opd_rep he hx
  unfold ext at hr
  split at hr
  · rename_i vs h1
    rw [h1] at rx
    cases hv : a.eval x <;> rw [hv] at rx <;> cases rx
    rename_i arr hn h
    have hj : n < arr.size := by rw [hn]; exact (List.getElem?_eq_some_iff.1 hr).1
    refine Out.pure hi (arr.getD n undef) ?_ (h n r hr)
    simp only [execOp, ho, hv, Instr.extract]
    rw [getD_of_getElem? hj]
    rfl
  · cases hr

theorem fld_out (hi : HInv R w hp ck dn) (he : EnvRep R w a e) {t : TypeId} {f : Nat} {x : Operand} {x' : Opd} (ho : o.op = .field t x f) {fs : Array Field} {fd : Field} (ht : P.underlying t = some (.struct fs)) (hf : fs[f]? = some fd) {agg : Bool} {n : Nat} (ha : aggOf P fd.type = some agg) (hn : szOf P fd.type = some n)
    (hx : compOpd x = some x') {r : V} (hr : fld agg fd.offset n (x'.ev e) = some r) : Out P o a R w hp dn me r hp ck := by
  have rx := opd_rep he hx
  unfold fld at hr
  split at hr
  · rename_i cs h1
    rw [h1] at rx
    cases hv : a.eval x <;> rw [hv] at rx <;> cases rx
    rename_i arr h1 hl h
    unfold loadOf at hr
    cases agg with
    | true =>
      simp only [if_true] at hr
      by_cases hlen : ((cs.drop fd.offset).take n).length = n
      · rw [if_pos hlen] at hr
        cases hr
        have hle : n = 0 ∨ fd.offset + n ≤ cs.length := by simp at hlen; omega
        have hsize : (arr.extract fd.offset (fd.offset + n)).size = n := by rw [Array.size_extract]; omega
        have hget : ∀ j, j < n → (arr.extract fd.offset (fd.offset + n)).getD j undef = arr.getD (fd.offset + j) undef := by
          intro j hj
          rw [Array.getD_eq_getD_getElem?, Array.getD_eq_getD_getElem?, Array.getElem?_extract, if_pos (by omega)]
        refine Out.pure hi (.agg (arr.extract fd.offset (fd.offset + n))) ?_ (.ag _ _ (by rw [hsize, hlen]) (fun j hj => ?_) (fun j v hv => ?_))
        · simp [execOp, ho, hv, Instr.field, run_underlying ht, hf, asAgg, part, run_aggOf ha, run_szOf hn]
        · rw [hsize] at hj
          rw [hget j hj]
          exact h1 _ (by omega)
        · rw [List.getElem?_take] at hv
          by_cases hj : j < n
          · rw [if_pos hj, List.getElem?_drop] at hv
            rw [hget j hj]
            exact h _ _ hv
          · rw [if_neg hj] at hv
            cases hv
      · rw [if_neg hlen] at hr
        cases hr
    | false =>
      simp only [Bool.false_eq_true, if_false] at hr
      cases hd : cs.drop fd.offset with
      | nil => rw [hd] at hr; simp at hr
      | cons v r' =>
        rw [hd] at hr
        simp at hr
        subst hr
        have hg : cs[fd.offset]? = some v := by
          have := congrArg (·[0]?) hd
          simpa using this
        have hj : fd.offset < arr.size := by rw [hl]; exact (List.getElem?_eq_some_iff.1 hg).1
        refine Out.pure hi (arr.getD fd.offset undef) ?_ (h _ _ hg)
        have hg' := getD_of_getElem? hj
        generalize arr.getD fd.offset undef = z at hg' ⊢
        simp [execOp, ho, hv, Instr.field, run_underlying ht, hf, asAgg, part, run_aggOf ha, hg']
  · cases hr

theorem fad_out (hi : HInv R w hp ck dn) (he : EnvRep R w a e) {t : TypeId} {f : Nat} {x : Operand} {x' : Opd} (ho : o.op = .fieldAddr t x f) {fs : Array Field} {fd : Field} (ht : P.underlying t = some (.struct fs)) (hf : fs[f]? = some fd) {n : Nat} (hn : szOf P fd.type = some n) (hn0 : 0 < n)
    (hx : compOpd x = some x') {r : V} (hr : fad fd.offset (x'.ev e) = some r) : Out P o a R w hp dn me r hp ck := by
  have rx := opd_rep he hx
  have hrun : ∀ g q : Nat, a.eval x = .pointer (some ⟨g, q, none⟩) → (execOp a.eval o).run P w = .ok (.value (.pointer (some ⟨g, q + fd.offset, none⟩))) w := by
    intro g q hv
    have hne : ¬ n = 0 := by omega
    simp [execOp, ho, hv, Instr.fieldAt, run_underlying ht, hf, Instr.sureAddr, fieldPlace, run_szOf hn, hne, addr_add]
  unfold fad at hr
  split at hr
  · rename_i k sz i j h1
    cases hr
    rw [h1] at rx
    cases hv : a.eval x <;> rw [hv] at rx <;> cases rx
    rename_i g n' hμ
    refine Out.pure hi _ (hrun g _ hv) ?_
    rw [Nat.add_assoc]
    exact .pt k sz i (j + fd.offset) g n' hμ
  · rename_i cs h1
    cases hr
    rw [h1] at rx
    cases hv : a.eval x <;> rw [hv] at rx <;> cases rx
    rename_i g q f' hB hcell hrep
    refine Out.pure hi _ (hrun g _ hv) ?_
    refine .pr g (q + fd.offset) _ (fun j => f' (fd.offset + j)) (fun h => hB (by rintro rfl; simp at h)) (fun j t ht => ?_) (fun j t ht => ?_)
    · rw [List.getElem?_drop] at ht
      have := hcell _ _ ht
      rwa [← Nat.add_assoc] at this
    · rw [List.getElem?_drop] at ht
      exact hrep _ _ ht
  · cases hr

theorem ixS_out (hi : HInv R w hp ck dn) (he : EnvRep R w a e) {t el : TypeId} {x y : Operand} {x' y' : Opd} (ho : o.op = .indexAddr t x y) (ht : P.underlying t = some (.slice el)) {n : Nat} (hn : szOf P el = some n) (hn0 : 0 < n)
    (hx : compOpd x = some x') (hy : compOpd y = some y') {r : V} (hr : ixS n (x'.ev e) (y'.ev e) = some r) : Out P o a R w hp dn me r hp ck := by
  have rx := opd_rep he hx
  have ry := opd_rep he hy
  unfold ixS at hr
  split at hr
  · cases hr
  · rename_i m hm
    obtain ⟨k, hy'⟩ := repV_isInt ry hm
    by_cases h0 : 0 ≤ m
    · rw [if_pos h0] at hr
      have hrun : ∀ (g q len cap : Nat), a.eval x = .slice (some ⟨g, q, none⟩) len cap → m < (len : Int) → (execOp a.eval o).run P w = .ok (.value (.pointer (some ⟨g, q + m.toNat * n, none⟩))) w := by
        intro g q len cap hv hlt
        simp [execOp, ho, hv, hy', Instr.indexAt, asIntOf, run_underlying ht, h0, hlt, run_szOf hn, addr_add]
      split at hr
      · rename_i k' sz' off len h1
        by_cases hc : sz' = n ∧ m < (len : Int)
        · rw [if_pos hc] at hr
          cases hr
          obtain ⟨rfl, hlt⟩ := hc
          rw [h1] at rx
          rcases repV_ow rx with ⟨g, tot, A, cap, hv, hμ, hl, hcap, hA⟩ | ⟨_, _, _, h⟩
          · rw [hA (by omega)] at hv
            refine Out.pure hi _ (hrun _ _ _ _ hv hlt) ?_
            have := RepV.pt (R := R) (w := w) k' sz' (off + m.toNat) 0 g tot hμ
            rw [Nat.add_zero, Nat.add_mul] at this
            exact this
          · omega
        · rw [if_neg hc] at hr
          cases hr
      · rename_i xs h1
        split at hr
        · rename_i c hc
          by_cases hs : c.length = n
          · rw [if_pos hs] at hr
            cases hr
            rw [h1] at rx
            have hmem := List.mem_of_getElem? hc
            have hlt := (List.getElem?_eq_some_iff.1 hc).1
            obtain ⟨A, cap, sz, g, q, f, hv, hcap, hsz, hA, hS, hcell, hrep⟩ := repT_l0 (repV_tl rx)
            have : sz = n := (hsz c hmem).symm.trans hs
            subst this
            rw [hA (by omega)] at hv
            refine Out.pure hi _ (hrun _ _ _ _ hv (by omega)) ?_
            refine .pr g _ c (fun j => f m.toNat j) (fun _ => .inl (hS (by omega))) (fun j t ht => ?_) (fun j t ht => hrep _ _ _ (at2_some hc ht))
            have := hcell _ _ _ (at2_some hc ht)
            rwa [← Nat.add_assoc] at this
          · rw [if_neg hs] at hr
            cases hr
        · cases hr
      · cases hr
    · rw [if_neg h0] at hr
      cases hr

theorem ixA_out (hi : HInv R w hp ck dn) (he : EnvRep R w a e) {t el : TypeId} {len : Nat} {x y : Operand} {x' y' : Opd} (ho : o.op = .indexAddr t x y) (ht : P.underlying t = some (.array len el)) {n : Nat} (hn : szOf P el = some n) (hn0 : 0 < n)
    (hx : compOpd x = some x') (hy : compOpd y = some y') {r : V} (hr : ixA len n (x'.ev e) (y'.ev e) = some r) : Out P o a R w hp dn me r hp ck := by
  have rx := opd_rep he hx
  have ry := opd_rep he hy
  unfold ixA at hr
  split at hr
  · cases hr
  · rename_i m hm
    obtain ⟨k, hy'⟩ := repV_isInt ry hm
    by_cases h0 : 0 ≤ m ∧ m < (len : Int)
    · rw [if_pos h0] at hr
      have hrun : ∀ (g q : Nat), a.eval x = .pointer (some ⟨g, q, none⟩) → (execOp a.eval o).run P w = .ok (.value (.pointer (some ⟨g, q + m.toNat * n, none⟩))) w := by
        intro g q hv
        simp [execOp, ho, hv, hy', Instr.indexAt, asIntOf, run_underlying ht, h0, run_szOf hn, addr_add, Instr.sureAddr]
      split at hr
      · rename_i k' sz' i' j h1
        cases hr
        rw [h1] at rx
        cases hv : a.eval x <;> rw [hv] at rx <;> cases rx
        rename_i g n' hμ
        refine Out.pure hi _ (hrun g _ hv) ?_
        rw [Nat.add_assoc]
        exact .pt k' sz' i' _ g n' hμ
      · rename_i cs h1
        cases hr
        rw [h1] at rx
        cases hv : a.eval x <;> rw [hv] at rx <;> cases rx
        rename_i g q f' hB hcell hrep
        refine Out.pure hi _ (hrun g _ hv) ?_
        refine .pr g _ _ (fun j => f' (m.toNat * n + j)) (fun h => hB (by rintro rfl; simp at h)) (fun j t ht => ?_) (fun j t ht => ?_)
        · rw [List.getElem?_drop] at ht
          have := hcell _ _ ht
          rwa [← Nat.add_assoc] at this
        · rw [List.getElem?_drop] at ht
          exact hrep _ _ ht
      · cases hr
    · rw [if_neg h0] at hr
      cases hr

theorem bytes_get (x : ByteArray) (i : Nat) : x[i]? = x.data.toList[i]? := by
  by_cases h : i < x.size
  · rw [getElem?_pos x i h, List.getElem?_eq_getElem (by rw [Array.length_toList]; exact h)]
    simp; rfl
  · rw [getElem?_neg x i h, List.getElem?_eq_none (by rw [Array.length_toList]; exact Nat.le_of_not_lt h)]

theorem ixs_out (hi : HInv R w hp ck dn) (he : EnvRep R w a e) {t : TypeId} {x y : Operand} {x' y' : Opd} (ho : o.op = .index t x y) (ht : P.underlying t = some .string)
    (hx : compOpd x = some x') (hy : compOpd y = some y') {r : V} (hr : ixs (x'.ev e) (y'.ev e) = some r) : Out P o a R w hp dn me r hp ck := by
  have rx := opd_rep he hx
  have ry := opd_rep he hy
  unfold ixs at hr
  split at hr
  · rename_i s n h1 hm
    obtain ⟨k, hy'⟩ := repV_isInt ry hm
    rw [h1] at rx
    obtain ⟨z, hz1, hz2⟩ := repV_s rx
    by_cases h0 : 0 ≤ n
    · rw [if_pos h0] at hr
      split at hr
      · rename_i b hb
        cases hr
        refine Out.pure hi (.int .u8 b.toNat) ?_ (.t (.i _ _))
        have : z[n.toNat]? = some b := by rw [bytes_get, hz2]; exact hb
        simp [execOp, ho, hy', hz1, Instr.index, asIntOf, run_underlying ht, h0, this]
      · cases hr
    · rw [if_neg h0] at hr
      cases hr
  · cases hr

theorem ixV_out (hi : HInv R w hp ck dn) (he : EnvRep R w a e) {t el : TypeId} {len : Nat} {x y : Operand} {x' y' : Opd} (ho : o.op = .index t x y) (ht : P.underlying t = some (.array len el)) {agg : Bool} {n : Nat} (ha : aggOf P el = some agg) (hn : szOf P el = some n)
    (hx : compOpd x = some x') (hy : compOpd y = some y') {r : V} (hr : ixV agg len n (x'.ev e) (y'.ev e) = some r) : Out P o a R w hp dn me r hp ck := by
  have rx := opd_rep he hx
  have ry := opd_rep he hy
  unfold ixV at hr
  split at hr
  · cases hr
  · rename_i m hm
    obtain ⟨k, hy'⟩ := repV_isInt ry hm
    by_cases h0 : 0 ≤ m ∧ m < (len : Int)
    · rw [if_pos h0] at hr
      split at hr
      · rename_i cs h1
        rw [h1] at rx
        cases hv : a.eval x <;> rw [hv] at rx <;> cases rx
        rename_i arr h1 hl h
        generalize hq : m.toNat * n = q at hr
        unfold loadOf at hr
        cases agg with
        | true =>
          simp only [if_true] at hr
          by_cases hlen : ((cs.drop q).take n).length = n
          · rw [if_pos hlen] at hr
            cases hr
            have hle : n = 0 ∨ q + n ≤ cs.length := by simp at hlen; omega
            have hsize : (arr.extract q (q + n)).size = n := by rw [Array.size_extract]; omega
            have hget : ∀ j, j < n → (arr.extract q (q + n)).getD j undef = arr.getD (q + j) undef := by
              intro j hj
              rw [Array.getD_eq_getD_getElem?, Array.getD_eq_getD_getElem?, Array.getElem?_extract, if_pos (by omega)]
            refine Out.pure hi (.agg (arr.extract q (q + n))) ?_ (.ag _ _ (by rw [hsize, hlen]) (fun j hj => ?_) (fun j v hv => ?_))
            · simp [execOp, ho, hv, hy', Instr.index, asIntOf, run_underlying ht, h0, part, run_aggOf ha, run_szOf hn, hq]
            · rw [hsize] at hj
              rw [hget j hj]
              exact h1 _ (by omega)
            · rw [List.getElem?_take] at hv
              by_cases hj : j < n
              · rw [if_pos hj, List.getElem?_drop] at hv
                rw [hget j hj]
                exact h _ _ hv
              · rw [if_neg hj] at hv
                cases hv
          · rw [if_neg hlen] at hr
            cases hr
        | false =>
          simp only [Bool.false_eq_true, if_false] at hr
          cases hd : cs.drop q with
          | nil => rw [hd] at hr; simp at hr
          | cons v r' =>
            rw [hd] at hr
            simp at hr
            subst hr
            have hg : cs[q]? = some v := by
              have := congrArg (·[0]?) hd
              simpa using this
            have hj : q < arr.size := by rw [hl]; exact (List.getElem?_eq_some_iff.1 hg).1
            refine Out.pure hi (arr.getD q undef) ?_ (h _ _ hg)
            have hg' := getD_of_getElem? hj
            generalize arr.getD q undef = z at hg' ⊢
            simp [execOp, ho, hv, hy', Instr.index, asIntOf, run_underlying ht, h0, part, run_aggOf ha, run_szOf hn, hq, hg']
      · cases hr
    · rw [if_neg h0] at hr
      cases hr
end
end Go.Pev
