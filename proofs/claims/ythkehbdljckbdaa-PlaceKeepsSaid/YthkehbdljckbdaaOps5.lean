/- The machine's operations against the pure evaluator's: literals, stores, make, append. -/
import Derived.Test.YthkehbdljckbdaaOps4
set_option linter.unusedVariables false
set_option linter.unusedSimpArgs false
namespace Go.Pev
open Go Go.RowKit

/-- Blocks that are new may be counted among those that nobody writes into. -/
theorem newS_step {R : Rl} {w w' : World} {hp : HP} {ck : Nat} {dn : Nat → Prop} (hi : HInv R w hp ck dn) (Q : Nat → Prop) (hos : w'.os = w.os) (htp : w'.tape = w.tape) (hout : w'.output = w.output) (hsz : w.heap.size ≤ w'.heap.size) (hold : ∀ g, g < w.heap.size → w'.heap[g]? = w.heap[g]?)
    (hQ : ∀ g, Q g → w.heap.size ≤ g ∧ g < w'.heap.size) : Grow R w hp (R.withS Q) w' hp ∧ HInv (R.withS Q) w' hp ck dn := by
  have ha : Agree R w (R.withS Q) w' := ⟨fun _ h => .inl h, fun _ h => h, fun _ _ h => h, fun g hg => hold g (hi.sS g hg), fun g hg => hold g (hi.sB g hg)⟩
  refine ⟨⟨hos, htp, hout, hsz, fun g hg _ => hold g hg, fun _ h => .inl h, rfl, fun _ _ h => h, fun g hg => hg.imp id fun h => .inl (hQ g h).1, fun _ h => .inr h⟩, ?_⟩
  constructor
  · exact fun k o ho => (hi.ob k o ho).mono ha (fun g n hm => hold g ((hi.ob k o ho).lt hm))
  · exact hi.sep
  · intro g hg
    refine ⟨?_, (hi.own g hg).2⟩
    rintro (h | h)
    · exact (hi.own g hg).1 h
    · obtain ⟨k, o, n, h1, h2, h3⟩ := hg
      have := (hi.ob k o h1).lt h3
      have := (hQ g h).1
      omega
  · rintro g (h | h)
    · exact Nat.lt_of_lt_of_le (hi.sS g h) hsz
    · exact (hQ g h).2
  · exact fun g hg => Nat.lt_of_lt_of_le (hi.sB g hg) hsz
  · exact hi.fr
  · exact hi.nd

section
variable {P : Program} {o : Oper} {a : Act} {R : Rl} {w : World} {hp : HP} {dn : Nat → Prop} {me ck d : Nat} {e : Env}

theorem bslT_out (hi : HInv R w hp ck dn) (he : EnvRep R w a e) {t el : TypeId} {len n : Nat} {ps : Array (Nat × Operand)} (ho : o.op = .buildSlice t len ps) (ht : P.underlying t = some (.slice el)) (hn : szOf P el = some n) {z : Value} (hz : zeroOf P el = some z) {xs : List Opd} (hx : compOpds (ps.toList.map (·.2)) = some xs)
    (hps : ps.toList.map (·.1) = List.range len) (hsm : len * n ≤ 16777216) (hn0 : 0 < n) (hzs : z.cells.size = n) {rows : List (List T)} (hr : rowsOf hp e n xs = some rows) :
    Out P o a R w hp dn me (.t (.l rows)) (freezeAll hp (keysOfs hp e xs)) ck := by
  obtain ⟨R1, m1, m2, m3, g1, i1⟩ := freezeAll_step (keysOfs hp e xs) hi
  obtain ⟨arr, h1, h2, h3, h4, h5, h6⟩ := lit_run (P := P) hi he ho ht hn hz hx hps hsm hn0 hzs (S' := R1.S) (fun g hg => (m3 g).2 (.inl hg)) hr (fun g hg => (m3 g).2 (.inr hg))
  obtain ⟨g2, i2⟩ := newS_step (w' := w.alloc (.cells arr el)) i1 (fun g => g = w.heap.size) rfl rfl rfl (by simp) (fun g hg => heap_alloc_old w _ g hg) (by rintro g rfl; simp)
  refine Out.of _ _ _ (.inl h1) (.t (.l _ _ _ _ n w.heap.size 0 (fun i j => arr.getD (i * n + j) undef) rfl (Nat.le_refl _) (fun _ => rfl) (fun _ => Or.inr rfl) h3 (fun i j t ht => ?_) (fun i j t ht => (h5 i j t ht).mono (fun g hg => Or.inl hg) (fun g hg => heap_alloc_old w _ g (i1.sS g hg))))) (g1.trans g2) (i2.plus me)
  obtain ⟨c, hc1, hc2⟩ := at2_elim ht
  have hi1 := (List.getElem?_eq_some_iff.1 hc1).1
  have hj1 := (List.getElem?_eq_some_iff.1 hc2).1
  have hcs := h3 c (List.mem_of_getElem? hc1)
  rw [Nat.zero_add, cell_of_row (w.alloc _) _ _ arr el (0, 0) (heap_alloc_new w _)]
  refine getD_of_getElem? ?_
  rw [h2]
  exact mul_lt (by omega) (by omega)

theorem row_new (hi : HInv R w hp ck dn) (hd : ¬ dn me) (ty sz : Nat) {arr : Array Value} {els : List (List T)} {cap : Nat} (h2 : arr.size = cap * sz) (hcap : els.length ≤ cap) (hm : cap ≤ maxLen) (h3 : ∀ c ∈ els, c.length = sz) (h4 : ∀ j, j < arr.size → (arr.getD j undef).oneCell' = true) (h5 : ∀ i j t, at2 els i j = some t → RepT R.S w (arr.getD (i * sz + j) undef) t)
    {w1 : World} (hos : w1.os = w.os) (htp : w1.tape = w.tape) (hout : w1.output = w.output) (hh : w1.heap = (w.alloc (.cells arr ty)).heap) :
    ∃ R', RepV R' w1 (.slice (some ⟨w.heap.size, 0, none⟩) els.length cap) (.ow ⟨d, ck, me⟩ sz 0 els.length) ∧ Grow R w hp R' w1 ((⟨d, ck, me⟩, .row ty sz els false) :: hp) ∧ HInv R' w1 ((⟨d, ck, me⟩, .row ty sz els false) :: hp) ck (plus dn me) := by
  have hold : ∀ g, g < w.heap.size → w1.heap[g]? = w.heap[g]? := fun g hg => by rw [hh]; exact heap_alloc_old w _ g hg
  have hnew : w1.heap[w.heap.size]? = some (.cells arr ty (0, 0)) := by rw [hh]; exact heap_alloc_new w _
  obtain ⟨g1, g2⟩ := alloc_step (w' := w1) hi hd ⟨d, ck, me⟩ ⟨rfl, rfl⟩ (some (w.heap.size, cap)) (.row ty sz els false) hos htp hout (by rw [hh]; simp) hold (by intro g n h; cases h; exact Nat.le_refl _)
    (fun ha => .inr ⟨w.heap.size, cap, arr, updμ_same _ _ _, RowAt.of hnew, h2, hcap, hm, h3, h4, fun i j t ht => (h5 i j t ht).mono ha.S ha.hS, by simp⟩)
  exact ⟨_, .ow _ _ _ _ w.heap.size cap _ cap (updμ_same _ _ _) hcap (by omega) (fun _ => by rw [Nat.zero_mul]), g1, g2⟩

theorem bslO_out (hi : HInv R w hp ck dn) (hd : ¬ dn me) (he : EnvRep R w a e) {t el : TypeId} {len n : Nat} {ps : Array (Nat × Operand)} (ho : o.op = .buildSlice t len ps) (ht : P.underlying t = some (.slice el)) (hn : szOf P el = some n) {z : Value} (hz : zeroOf P el = some z) {xs : List Opd} (hx : compOpds (ps.toList.map (·.2)) = some xs)
    (hps : ps.toList.map (·.1) = List.range len) (hsm : len * n ≤ 16777216) (hn0 : 0 < n) (hzs : z.cells.size = n) {rows : List (List T)} (hr : rowsOf hp e n xs = some rows) :
    Out P o a R w hp dn me (.ow ⟨d, ck, me⟩ n 0 rows.length) ((⟨d, ck, me⟩, .row el n rows false) :: freezeAll hp (keysOfs hp e xs)) ck := by
  obtain ⟨R1, m1, m2, m3, g1, i1⟩ := freezeAll_step (keysOfs hp e xs) hi
  obtain ⟨arr, h1, h2, h3, h4, h5, h6⟩ := lit_run (P := P) hi he ho ht hn hz hx hps hsm hn0 hzs (S' := R1.S) (fun g hg => (m3 g).2 (.inl hg)) hr (fun g hg => (m3 g).2 (.inr hg))
  obtain ⟨R', r1, r2, r3⟩ := row_new (d := d) i1 hd el n h2 (Nat.le_refl _) (by simp only [maxLen]; omega) h3 h4 h5 (w1 := w.alloc (.cells arr el)) rfl rfl rfl rfl
  exact Out.of _ _ R' (.inl h1) r1 (g1.trans r2) r3

/-! ### make -/
theorem toTcs_get : ∀ (cs : List V) (ts : List T), toTcs cs = some ts → ts.length = cs.length ∧ ∀ (j : Nat) (t : T), ts[j]? = some t → ∃ v, cs[j]? = some v ∧ toTc v = some t
  | [], ts, h => by simp [toTcs] at h; subst h; simp
  | c :: r, ts, h => by
    simp only [toTcs] at h
    cases h1 : toTc c with
    | none => simp [h1] at h
    | some x =>
      cases h2 : toTcs r with
      | none => simp [h1, h2] at h
      | some ys =>
        simp [h1, h2] at h
        subst h
        obtain ⟨hl, hr⟩ := toTcs_get r ys h2
        refine ⟨by simp [hl], fun j t hj => ?_⟩
        cases j with
        | zero => simp at hj; subst hj; exact ⟨c, by simp, h1⟩
        | succ j => simp at hj; obtain ⟨v, e1, e2⟩ := hr j t hj; exact ⟨v, by simpa using e1, e2⟩
theorem toTc_rep {u : Value} {v : V} (h : RepV R w u v) {t : T} (ht : toTc v = some t) : RepT R.S w u t := by
  unfold toTc at ht
  split at ht
  · cases ht; exact repV_tl h
  · cases ht
    have : u = .slice none 0 0 := by cases h; rfl
    subst this
    exact .l none 0 0 [] 0 0 0 (fun _ _ => undef) rfl (Nat.le_refl _) (by omega) (by omega) (by simp) (by intro i j t h; simp [at2] at h) (by intro i j t h; simp [at2] at h)
  · cases ht

theorem zero_cells (z : Array Value) (n sz : Nat) (hz : z.size = sz) (hsz : 0 < sz) (i j : Nat) (hi : i < n) (hj : j < sz) : ((Array.range (n * sz)).map (z[· % z.size]!)).getD (i * sz + j) undef = z.getD j undef := by
  have hlt : i * sz + j < n * sz := mul_lt hi hj
  rw [Array.getD_eq_getD_getElem?, Array.getD_eq_getD_getElem?]
  simp only [Array.getElem?_map]
  rw [Array.getElem?_eq_getElem (show i * sz + j < (Array.range (n * sz)).size by simpa using hlt)]
  simp only [Array.getElem_range, Option.map_some, Option.getD_some]
  have e2 : (i * sz + j) % z.size = j := by rw [hz, Nat.mul_comm, Nat.mul_add_mod]; exact Nat.mod_eq_of_lt hj
  rw [e2, getElem!_pos z j (by omega), Array.getElem?_eq_getElem (show j < z.size by omega)]
  rfl

theorem mks_out (hi : HInv R w hp ck dn) (hd : ¬ dn me) (he : EnvRep R w a e) {t el : TypeId} {l c : Operand} {l' c' : Opd} (ho : o.op = .makeSlice t l c) (ht : P.underlying t = some (.slice el)) {n bytes : Nat} (hn : szOf P el = some n) (hb : bytesOf P el = some bytes) {z : Value} (hz : zeroOf P el = some z) {zs : List V} (hzs : constCs z.cells.toList = some zs) {ts : List T} (hts : toTcs zs = some ts) (hn0 : 0 < n)
    (hl : compOpd l = some l') (hc : compOpd c = some c') {m : Int} (hm1 : isInt (l'.ev e) = some m) (hm2 : isInt (c'.ev e) = some m) (h0 : 0 ≤ m) (hbig : m * bytes ≤ 140737488355328) (hb0 : 0 < bytes) (hzl : ts.length = n) :
    Out P o a R w hp dn me (.ow ⟨d, ck, me⟩ n 0 m.toNat) ((⟨d, ck, me⟩, .row el n (List.replicate m.toNat ts) false) :: hp) ck := by
  obtain ⟨k1, e1⟩ := repV_isInt (opd_rep he hl) hm1
  obtain ⟨k2, e2⟩ := repV_isInt (opd_rep he hc) hm2
  obtain ⟨t1, t2⟩ := toTcs_get zs ts hts
  obtain ⟨c1, c2⟩ := constCs_rep (R := R) (w := w) _ _ hzs
  have hzn : z.cells.size = n := by have : z.cells.size = zs.length := by simpa using c1
                                    omega
  obtain ⟨ie, hie, hiby⟩ := run_bytesOf hb
  have hmle : m ≤ 140737488355328 := by
    have : m * 1 ≤ m * bytes := Int.mul_le_mul_of_nonneg_left (by omega) h0
    omega
  have hwrap : IntKind.i64.wrap m = m := IntWalk.i64_in _ (by omega)
  have hbb : (bytes : Int) * m ≤ 281474976710656 := by rw [Int.mul_comm]; omega
  generalize harr : (Array.range (m.toNat * n)).map (z.cells[· % z.cells.size]!) = arr
  have hsize : arr.size = m.toNat * n := by rw [← harr]; simp
  have hrun : (execOp a.eval o).run P w = .ok (.value (.slice (some ⟨w.heap.size, 0, none⟩) m.toNat m.toNat)) (w.alloc (.cells arr el)) := by
    have hty : (typeInfo el).run P w = .ok ie w := by simp [typeInfo, hie]
    have hn1 : ¬ (m < 0) := by omega
    have hn2 : ¬ ((bytes : Int) * m > 281474976710656) := by omega
    have hn3 : ¬ (281474976710656 < (bytes : Int) * m) := by omega
    simp only [execOp, ho, Instr.makeSlice, e1, e2, Sem.run_bind, run_underlying ht, Result.andThen_ok, asInt, asIntOf, Sem.run_pure, hty, hwrap, hiby]
    by_cases hz0 : m.toNat * n = 0
    · have : arr = #[] := Array.eq_empty_of_size_eq_zero (by omega)
      simp [hn1, hn3, run_szOf hn, hz0, newRow, this]
      congr 2
      exact Array.eq_empty_of_size_eq_zero (by simp)
    · simp [hn1, hn3, run_szOf hn, hz0, newRow, run_zeroOf hz, ← harr]
  have hlen : (List.replicate m.toNat ts).length = m.toNat := by simp
  have hgz : ∀ i j, i < m.toNat → j < n → arr.getD (i * n + j) undef = z.cells.getD j undef := by
    intro i j hi' hj
    rw [← harr]
    exact zero_cells z.cells m.toNat n hzn hn0 i j hi' hj
  have h4 : ∀ j, j < arr.size → (arr.getD j undef).oneCell' = true := by
    intro j hj
    have hd' : j / n < m.toNat := (Nat.div_lt_iff_lt_mul hn0).2 (by omega)
    have hm' : j % n < n := Nat.mod_lt _ hn0
    have ej : j = j / n * n + j % n := by rw [Nat.mul_comm]; exact (Nat.div_add_mod j n).symm
    rw [ej, hgz _ _ hd' hm']
    have := (c2 (j % n) _ (List.getElem?_eq_getElem (by omega))).2
    rwa [arr_getD] at this
  have h5 : ∀ i j t, at2 (List.replicate m.toNat ts) i j = some t → RepT R.S w (arr.getD (i * n + j) undef) t := by
    intro i j t ht
    obtain ⟨c, hc1, hc2⟩ := at2_elim ht
    have hi1 := (List.getElem?_eq_some_iff.1 hc1).1
    have hcc : c = ts := List.eq_of_mem_replicate (List.mem_of_getElem? hc1)
    subst hcc
    have hj1 := (List.getElem?_eq_some_iff.1 hc2).1
    rw [hlen] at hi1
    rw [hgz i j hi1 (by omega)]
    obtain ⟨v, v1, v2⟩ := t2 j t hc2
    have := (c2 j v v1).1
    rw [arr_getD] at this
    exact toTc_rep this v2
  obtain ⟨R', r1, r2, r3⟩ := row_new (d := d) hi hd el n (els := List.replicate m.toNat ts) hsize (by simp) (by simp only [maxLen]; omega) (fun c hc => by rw [List.eq_of_mem_replicate hc, hzl]) h4 h5 (w1 := w.alloc (.cells arr el)) rfl rfl rfl rfl
  rw [hlen] at r1
  exact Out.of _ _ R' (.inl hrun) r1 r2 r3
end
end Go.Pev
