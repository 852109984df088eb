/- What this law leans on, of the framework and of the functions (by claimset.py). -/
import Derived.Test.YtlfjlpleodlkmaaGreatDoorEn1
import Derived.Laws.AppendOwn
import Derived.Laws.BytesString
import Derived.Laws.Tables
import Derived.Lib.FrozenHead
import Derived.Laws.IdiomStrings
import Derived.MapKept
set_option linter.unusedVariables false
set_option linter.unusedSimpArgs false
namespace Go.Pev
open Go Go.RowKit
section
theorem newS_step {R : Rl} {w w' : World} {hp : HP} {ck : Nat} {dn : Nat → Prop} (hi : HInv R w hp ck dn) (Q : Nat → Prop) (hos : w'.os = w.os) (htp : w'.tape = w.tape) (hout : w'.output = w.output) (hsz : w.heap.size ≤ w'.heap.size) (hold : ∀ g, g < w.heap.size → w'.heap[g]? = w.heap[g]?)
    (hQ : ∀ g, Q g → w.heap.size ≤ g ∧ g < w'.heap.size) : Grow R w hp (R.withS Q) w' hp ∧ HInv (R.withS Q) w' hp ck dn := by
  have ha : Agree R w (R.withS Q) w' := ⟨fun _ h => .inl h, fun _ h => h, fun _ _ h => h, fun g hg => hold g (hi.sS g hg), fun g hg => hold g (hi.sB g hg)⟩
  refine ⟨⟨hos, htp, hout, hsz, fun g hg _ => hold g hg, fun _ h => .inl h, rfl, fun _ _ h => h, fun g hg => hg.imp id fun h => .inl (hQ g h).1, fun _ h => .inr h⟩, ?_⟩
  constructor
  · exact fun k o ho => (hi.ob k o ho).mono ha (fun g n hm => hold g ((hi.ob k o ho).lt hm))
  · exact hi.sep
  · intro g hg
    refine ⟨?_, (hi.own g hg).2⟩
    rintro (h | h)
    · exact (hi.own g hg).1 h
    · obtain ⟨k, o, n, h1, h2, h3⟩ := hg
      have := (hi.ob k o h1).lt h3
      have := (hQ g h).1
      omega
  · rintro g (h | h)
    · exact Nat.lt_of_lt_of_le (hi.sS g h) hsz
    · exact (hQ g h).2
  · exact fun g hg => Nat.lt_of_lt_of_le (hi.sB g hg) hsz
  · exact hi.fr
  · exact hi.nd
  · exact gl_keep hi.gl ha
section
variable {P : Program} {o : Oper} {a : Act} {R : Rl} {w : World} {hp : HP} {dn : Nat → Prop} {me ck d : Nat} {e : Env}
theorem bslT_out (hi : HInv R w hp ck dn) (he : EnvRep R w a e) {t el : TypeId} {len n : Nat} {ps : Array (Nat × Operand)} (ho : o.op = .buildSlice t len ps) (ht : P.underlying t = some (.slice el)) (hn : szOf P el = some n) {z : Value} (hz : zeroOf P el = some z) {xs : List Opd} (hx : compOpds (ps.toList.map (·.2)) = some xs)
    (hps : ps.toList.map (·.1) = List.range len) (hsm : len * n ≤ 16777216) (hn0 : 0 < n) (hzs : z.cells.size = n) {rows : List (List T)} (hr : rowsOf hp e n xs = some rows) :
    Out P o a R w hp dn me (.t (.l rows)) (freezeAll hp (keysOfs hp e xs)) ck := by
  obtain ⟨R1, m1, m2, m3, g1, i1⟩ := freezeAll_step (keysOfs hp e xs) hi
  obtain ⟨arr, h1, h2, h3, h4, h5, h6⟩ := lit_run (P := P) hi he ho ht hn hz hx hps hsm hn0 hzs (S' := R1.S) (fun g hg => (m3 g).2 (.inl hg)) hr (fun g hg => (m3 g).2 (.inr hg))
  obtain ⟨g2, i2⟩ := newS_step (w' := w.alloc (.cells arr el)) i1 (fun g => g = w.heap.size) rfl rfl rfl (by simp) (fun g hg => heap_alloc_old w _ g hg) (by rintro g rfl; simp)
  refine Out.of _ _ _ (.inl h1) (.t (.l _ _ _ _ n w.heap.size 0 (fun i j => arr.getD (i * n + j) undef) rfl (Nat.le_refl _) (fun _ => rfl) (fun _ => Or.inr rfl) h3 (fun i j t ht => ?_) (fun i j t ht => (h5 i j t ht).mono (fun g hg => Or.inl hg) (fun g hg => heap_alloc_old w _ g (i1.sS g hg))))) (g1.trans g2) (i2.plus me)
  obtain ⟨c, hc1, hc2⟩ := at2_elim ht
  have hi1 := (List.getElem?_eq_some_iff.1 hc1).1
  have hj1 := (List.getElem?_eq_some_iff.1 hc2).1
  have hcs := h3 c (List.mem_of_getElem? hc1)
  rw [Nat.zero_add, cell_of_row (w.alloc _) _ _ arr el (0, 0) (heap_alloc_new w _)]
  refine getD_of_getElem? ?_
  rw [h2]
  exact mul_lt (by omega) (by omega)
theorem row_new (hi : HInv R w hp ck dn) (hd : ¬ dn me) (ty sz : Nat) {arr : Array Value} {els : List (List T)} {cap : Nat} (h2 : arr.size = cap * sz) (hcap : els.length ≤ cap) (hm : cap ≤ maxLen) (h3 : ∀ c ∈ els, c.length = sz) (h4 : ∀ j, j < arr.size → (arr.getD j undef).oneCell' = true) (h5 : ∀ i j t, at2 els i j = some t → RepT R.S w (arr.getD (i * sz + j) undef) t)
    {w1 : World} (hos : w1.os = w.os) (htp : w1.tape = w.tape) (hout : w1.output = w.output) (hh : w1.heap = (w.alloc (.cells arr ty)).heap) :
    ∃ R', RepV R' w1 (.slice (some ⟨w.heap.size, 0, none⟩) els.length cap) (.ow ⟨d, ck, me⟩ sz 0 els.length) ∧ Grow R w hp R' w1 ((⟨d, ck, me⟩, .row ty sz els false) :: hp) ∧ HInv R' w1 ((⟨d, ck, me⟩, .row ty sz els false) :: hp) ck (plus dn me) := by
  have hold : ∀ g, g < w.heap.size → w1.heap[g]? = w.heap[g]? := fun g hg => by rw [hh]; exact heap_alloc_old w _ g hg
  have hnew : w1.heap[w.heap.size]? = some (.cells arr ty (0, 0)) := by rw [hh]; exact heap_alloc_new w _
  obtain ⟨g1, g2⟩ := alloc_step (w' := w1) hi hd ⟨d, ck, me⟩ ⟨rfl, rfl⟩ (some (w.heap.size, cap)) (.row ty sz els false) hos htp hout (by rw [hh]; simp) hold (by intro g n h; cases h; exact Nat.le_refl _)
    (fun ha => .inr ⟨w.heap.size, cap, arr, updμ_same _ _ _, RowAt.of hnew, h2, hcap, hm, h3, h4, fun i j t ht => (h5 i j t ht).mono ha.S ha.hS, by simp⟩)
  exact ⟨_, .ow _ _ _ _ w.heap.size cap _ cap (updμ_same _ _ _) hcap (by omega) (fun _ => by rw [Nat.zero_mul]), g1, g2⟩
theorem bslO_out (hi : HInv R w hp ck dn) (hd : ¬ dn me) (he : EnvRep R w a e) {t el : TypeId} {len n : Nat} {ps : Array (Nat × Operand)} (ho : o.op = .buildSlice t len ps) (ht : P.underlying t = some (.slice el)) (hn : szOf P el = some n) {z : Value} (hz : zeroOf P el = some z) {xs : List Opd} (hx : compOpds (ps.toList.map (·.2)) = some xs)
    (hps : ps.toList.map (·.1) = List.range len) (hsm : len * n ≤ 16777216) (hn0 : 0 < n) (hzs : z.cells.size = n) {rows : List (List T)} (hr : rowsOf hp e n xs = some rows) :
    Out P o a R w hp dn me (.ow ⟨d, ck, me⟩ n 0 rows.length) ((⟨d, ck, me⟩, .row el n rows false) :: freezeAll hp (keysOfs hp e xs)) ck := by
  obtain ⟨R1, m1, m2, m3, g1, i1⟩ := freezeAll_step (keysOfs hp e xs) hi
  obtain ⟨arr, h1, h2, h3, h4, h5, h6⟩ := lit_run (P := P) hi he ho ht hn hz hx hps hsm hn0 hzs (S' := R1.S) (fun g hg => (m3 g).2 (.inl hg)) hr (fun g hg => (m3 g).2 (.inr hg))
  obtain ⟨R', r1, r2, r3⟩ := row_new (d := d) i1 hd el n h2 (Nat.le_refl _) (by simp only [maxLen]; omega) h3 h4 h5 (w1 := w.alloc (.cells arr el)) rfl rfl rfl rfl
  exact Out.of _ _ R' (.inl h1) r1 (g1.trans r2) r3
theorem toTcs_get : ∀ (cs : List V) (ts : List T), toTcs cs = some ts → ts.length = cs.length ∧ ∀ (j : Nat) (t : T), ts[j]? = some t → ∃ v, cs[j]? = some v ∧ toTc v = some t
  | [], ts, h => by simp [toTcs] at h; subst h; simp
  | c :: r, ts, h => by
    simp only [toTcs] at h
    cases h1 : toTc c with
    | none => simp [h1] at h
    | some x =>
      cases h2 : toTcs r with
      | none => simp [h1, h2] at h
      | some ys =>
        simp [h1, h2] at h
        subst h
        obtain ⟨hl, hr⟩ := toTcs_get r ys h2
        refine ⟨by simp [hl], fun j t hj => ?_⟩
        cases j with
        | zero => simp at hj; subst hj; exact ⟨c, by simp, h1⟩
        | succ j => simp at hj; obtain ⟨v, e1, e2⟩ := hr j t hj; exact ⟨v, by simpa using e1, e2⟩
theorem toTc_rep {u : Value} {v : V} (h : RepV R w u v) {t : T} (ht : toTc v = some t) : RepT R.S w u t := by
  unfold toTc at ht
  split at ht
  · cases ht; exact repV_tl h
  · cases ht
    have : u = .slice none 0 0 := by cases h; rfl
    subst this
    exact .l none 0 0 [] 0 0 0 (fun _ _ => undef) rfl (Nat.le_refl _) (by omega) (by omega) (by simp) (by intro i j t h; simp [at2] at h) (by intro i j t h; simp [at2] at h)
  · cases ht
theorem zero_cells (z : Array Value) (n sz : Nat) (hz : z.size = sz) (hsz : 0 < sz) (i j : Nat) (hi : i < n) (hj : j < sz) : ((Array.range (n * sz)).map (z[· % z.size]!)).getD (i * sz + j) undef = z.getD j undef := by
  have hlt : i * sz + j < n * sz := mul_lt hi hj
  rw [Array.getD_eq_getD_getElem?, Array.getD_eq_getD_getElem?]
  simp only [Array.getElem?_map]
  rw [Array.getElem?_eq_getElem (show i * sz + j < (Array.range (n * sz)).size by simpa using hlt)]
  simp only [Array.getElem_range, Option.map_some, Option.getD_some]
  have e2 : (i * sz + j) % z.size = j := by rw [hz, Nat.mul_comm, Nat.mul_add_mod]; exact Nat.mod_eq_of_lt hj
  rw [e2, getElem!_pos z j (by omega), Array.getElem?_eq_getElem (show j < z.size by omega)]
  rfl
theorem mks_out (hi : HInv R w hp ck dn) (hd : ¬ dn me) (he : EnvRep R w a e) {t el : TypeId} {l c : Operand} {l' c' : Opd} (ho : o.op = .makeSlice t l c) (ht : P.underlying t = some (.slice el)) {n bytes : Nat} (hn : szOf P el = some n) (hb : bytesOf P el = some bytes) {z : Value} (hz : zeroOf P el = some z) {zs : List V} (hzs : constCs z.cells.toList = some zs) {ts : List T} (hts : toTcs zs = some ts) (hn0 : 0 < n)
    (hl : compOpd l = some l') (hc : compOpd c = some c') {m : Int} (hm1 : isInt (l'.ev e) = some m) (hm2 : isInt (c'.ev e) = some m) (h0 : 0 ≤ m) (hbig : m * bytes ≤ 140737488355328) (hb0 : 0 < bytes) (hzl : ts.length = n) :
    Out P o a R w hp dn me (.ow ⟨d, ck, me⟩ n 0 m.toNat) ((⟨d, ck, me⟩, .row el n (List.replicate m.toNat ts) false) :: hp) ck := by
  obtain ⟨k1, e1⟩ := repV_isInt (opd_rep he hl) hm1
  obtain ⟨k2, e2⟩ := repV_isInt (opd_rep he hc) hm2
  obtain ⟨t1, t2⟩ := toTcs_get zs ts hts
  obtain ⟨c1, c2⟩ := constCs_rep (R := R) (w := w) _ _ hzs
  have hzn : z.cells.size = n := by have : z.cells.size = zs.length := by simpa using c1
                                    omega
  obtain ⟨ie, hie, hiby⟩ := run_bytesOf hb
  have hmle : m ≤ 140737488355328 := by
    have : m * 1 ≤ m * bytes := Int.mul_le_mul_of_nonneg_left (by omega) h0
    omega
  have hwrap : IntKind.i64.wrap m = m := IntWalk.i64_in _ (by omega)
  have hbb : (bytes : Int) * m ≤ 281474976710656 := by rw [Int.mul_comm]; omega
  generalize harr : (Array.range (m.toNat * n)).map (z.cells[· % z.cells.size]!) = arr
  have hsize : arr.size = m.toNat * n := by rw [← harr]; simp
  have hrun : (execOp a.eval o).run P w = .ok (.value (.slice (some ⟨w.heap.size, 0, none⟩) m.toNat m.toNat)) (w.alloc (.cells arr el)) := by
    have hty : (typeInfo el).run P w = .ok ie w := by simp [typeInfo, hie]
    have hn1 : ¬ (m < 0) := by omega
    have hn2 : ¬ ((bytes : Int) * m > 281474976710656) := by omega
    have hn3 : ¬ (281474976710656 < (bytes : Int) * m) := by omega
    simp only [execOp, ho, Instr.makeSlice, e1, e2, Sem.run_bind, run_underlying ht, Result.andThen_ok, asInt, asIntOf, Sem.run_pure, hty, hwrap, hiby]
    by_cases hz0 : m.toNat * n = 0
    · have : arr = #[] := Array.eq_empty_of_size_eq_zero (by omega)
      simp [hn1, hn3, run_szOf hn, hz0, newRow, this]
      congr 2
      exact Array.eq_empty_of_size_eq_zero (by simp)
    · simp [hn1, hn3, run_szOf hn, hz0, newRow, run_zeroOf hz, ← harr]
  have hlen : (List.replicate m.toNat ts).length = m.toNat := by simp
  have hgz : ∀ i j, i < m.toNat → j < n → arr.getD (i * n + j) undef = z.cells.getD j undef := by
    intro i j hi' hj
    rw [← harr]
    exact zero_cells z.cells m.toNat n hzn hn0 i j hi' hj
  have h4 : ∀ j, j < arr.size → (arr.getD j undef).oneCell' = true := by
    intro j hj
    have hd' : j / n < m.toNat := (Nat.div_lt_iff_lt_mul hn0).2 (by omega)
    have hm' : j % n < n := Nat.mod_lt _ hn0
    have ej : j = j / n * n + j % n := by rw [Nat.mul_comm]; exact (Nat.div_add_mod j n).symm
    rw [ej, hgz _ _ hd' hm']
    have := (c2 (j % n) _ (List.getElem?_eq_getElem (by omega))).2
    rwa [arr_getD] at this
  have h5 : ∀ i j t, at2 (List.replicate m.toNat ts) i j = some t → RepT R.S w (arr.getD (i * n + j) undef) t := by
    intro i j t ht
    obtain ⟨c, hc1, hc2⟩ := at2_elim ht
    have hi1 := (List.getElem?_eq_some_iff.1 hc1).1
    have hcc : c = ts := List.eq_of_mem_replicate (List.mem_of_getElem? hc1)
    subst hcc
    have hj1 := (List.getElem?_eq_some_iff.1 hc2).1
    rw [hlen] at hi1
    rw [hgz i j hi1 (by omega)]
    obtain ⟨v, v1, v2⟩ := t2 j t hc2
    have := (c2 j v v1).1
    rw [arr_getD] at this
    exact toTc_rep this v2
  obtain ⟨R', r1, r2, r3⟩ := row_new (d := d) hi hd el n (els := List.replicate m.toNat ts) hsize (by simp) (by simp only [maxLen]; omega) (fun c hc => by rw [List.eq_of_mem_replicate hc, hzl]) h4 h5 (w1 := w.alloc (.cells arr el)) rfl rfl rfl rfl
  rw [hlen] at r1
  exact Out.of _ _ R' (.inl hrun) r1 r2 r3
end
end
section
theorem vkeys_sub {hp : HP} {v : V} {cs : List V} (h5 : cells v = some cs) {k : Key} (hk : k ∈ cs.flatMap vkeys) : k ∈ keysOf hp v := by
  obtain ⟨u, hv1, hv2⟩ := List.mem_flatMap.1 hk
  cases v with
  | ow k' s' o' l' =>
    simp [cells] at h5
    subst h5
    simp at hv1
    subst hv1
    simpa [vkeys, keysOf] using hv2
  | ag cs' =>
    simp [cells] at h5
    subst h5
    refine List.mem_flatMap.2 ⟨u, hv1, ?_⟩
    cases u <;> simp [vkeys] at hv2 <;> simpa [keysOf1] using hv2
  | t _ => simp [cells] at h5; subst h5; simp at hv1; subst hv1; simp [vkeys] at hv2
  | nl => simp [cells] at h5; subst h5; simp at hv1; subst hv1; simp [vkeys] at hv2
  | mp _ => simp [cells] at h5; subst h5; simp at hv1; subst hv1; simp [vkeys] at hv2
  | nn => simp [cells] at h5; subst h5; simp at hv1; subst hv1; simp [vkeys] at hv2
  | nz => simp [cells] at h5; subst h5; simp at hv1; subst hv1; simp [vkeys] at hv2
  | pt _ _ _ _ => simp [cells] at h5; subst h5; simp at hv1; subst hv1; simp [vkeys] at hv2
  | pr _ => simp [cells] at h5; subst h5; simp at hv1; subst hv1; simp [vkeys] at hv2
  | fn _ _ => simp [cells] at h5; subst h5; simp at hv1; subst hv1; simp [vkeys] at hv2
  | tu _ => simp [cells] at h5
  | ud => simp [cells] at h5
  | un => simp [cells] at h5
theorem splice_get (cur vs : List Value) (q j : Nat) (h : q + vs.length ≤ cur.length) : (cur.take q ++ vs ++ cur.drop (q + vs.length)).toArray.getD j undef = if q ≤ j ∧ j < q + vs.length then vs.getD (j - q) undef else cur.getD j undef := by
  rw [Array.getD_eq_getD_getElem?, List.getElem?_toArray, List.getD_eq_getElem?_getD, List.getD_eq_getElem?_getD, List.append_assoc, List.getElem?_append, List.getElem?_append]
  have hl : (cur.take q).length = q := by simp; omega
  rw [hl]
  by_cases h1 : j < q
  · rw [if_pos h1, if_neg (by omega), List.getElem?_take, if_pos h1]
  · rw [if_neg h1]
    by_cases h2 : j - q < vs.length
    · rw [if_pos h2, if_pos (by omega)]
    · rw [if_neg h2, if_neg (by omega), List.getElem?_drop, show q + vs.length + (j - q - vs.length) = j by omega]
theorem splice_size (cur vs : List Value) (q : Nat) (h : q + vs.length ≤ cur.length) : (cur.take q ++ vs ++ cur.drop (q + vs.length)).toArray.size = cur.length := by
  simp; omega
theorem setRow_hold (w : World) (g : Nat) (cs : Array Value) (q : Nat) (h : q ≠ g) : (w.setRow g cs).heap[q]? = w.heap[q]? := setRow_other w g q cs h
theorem RowAt.set {w : World} {g : Nat} {arr A : Array Value} {ty : TypeId} (h : RowAt w g arr ty) (hs : A.size = arr.size) : RowAt (w.setRow g A) g A ty := by
  obtain ⟨mk, h1, h2⟩ := h
  exact ⟨mk, setRow_heap w g arr A ty mk h1, fun j hj => h2 j (by omega)⟩
theorem run_storeCells_row (P : Program) (g o : Nat) (t : TypeId) : ∀ (vs : List Value) (i : Nat) (cur : Array Value) (w : World), RowAt w g cur t → o + i + vs.length ≤ cur.size → (∀ v ∈ vs, v.oneCell' = true) →
    (storeCells ⟨g, o, none⟩ vs i).run P w = .ok () (w.setRow g (cur.toList.take (o + i) ++ vs ++ cur.toList.drop (o + i + vs.length)).toArray)
  | [], i, cur, w, hg, _, _ => by
    obtain ⟨mk, h1, _⟩ := hg
    simp only [storeCells, List.append_nil, List.length_nil, Nat.add_zero, List.take_append_drop, Array.toArray_toList]
    rw [setRow_self w g cur t mk h1]
    rfl
  | v :: rest, i, cur, w, hg, hl, h1 => by
    have hi : o + i < cur.size := by simp at hl; omega
    have hadd : (⟨g, o, none⟩ : Addr).add i = ⟨g, o + i, none⟩ := by unfold Addr.add; split <;> simp_all
    have hcell : w.cell? ⟨g, o + i, none⟩ = some cur[o + i] := by rw [hg.cell]; simp [hi]
    have hfro : w.frozen? ⟨g, o + i, none⟩ = false := by
      obtain ⟨mk, hm1, hm2⟩ := hg
      have := hm2 (o + i) hi
      simp only [World.frozen?, hm1]
      simp; omega
    have hst : (Go.store ((⟨g, o, none⟩ : Addr).add i) v).run P w = .ok () (w.setRow g (cur.setIfInBounds (o + i) v)) := by
      rw [hadd, run_store P w _ v _ (h1 v (by simp)), hcell]
      obtain ⟨mk, hm1, _⟩ := hg
      simp [hfro, setCell_eq_setRow w g (o + i) cur t mk v hm1]
    have ih := run_storeCells_row P g o t rest (i + 1) (cur.setIfInBounds (o + i) v) (w.setRow g (cur.setIfInBounds (o + i) v)) (hg.set (by simp)) (by simp at hl ⊢; omega) (fun x hx => h1 x (by simp [hx]))
    simp only [storeCells, Sem.run_bind, hst, Result.andThen_ok, ih, setRow_setRow]
    congr 3
    have e := list_seg_step cur.toList (o + i) v rest (by simp at hl ⊢; omega)
    simpa [Array.toList_setIfInBounds, Nat.add_assoc] using e
section
variable {P : Program} {o : Oper} {a : Act} {R : Rl} {w : World} {hp : HP} {dn : Nat → Prop} {me ck d : Nat} {e : Env}
theorem store_run {t : TypeId} {n g q : Nat} (hn : szOf P t = some n) {v : Value} (hv : v.cells.size = n) {cur : Array Value} {ty : TypeId} (hg : RowAt w g cur ty) (hq : q + n ≤ cur.size) (h1 : ∀ j, j < v.cells.size → (v.cells.getD j undef).oneCell' = true) :
    ∃ A : Array Value, A.size = cur.size ∧ (∀ j, A.getD j undef = if q ≤ j ∧ j < q + n then v.cells.getD (j - q) undef else cur.getD j undef) ∧ (Instr.storeAt t (.pointer (some ⟨g, q, none⟩)) v).run P w = .ok () (w.setRow g A) := by
  have hlen : v.cells.toList.length = n := by simpa using hv
  have h := run_storeCells_row P g q ty v.cells.toList 0 cur w hg (by omega) (fun u hu => by
    obtain ⟨j, hj, rfl⟩ := List.getElem_of_mem hu
    have := h1 j (by simpa using hj)
    rwa [Array.getD_eq_getD_getElem?, Array.getElem?_eq_getElem (by simpa using hj), Option.getD_some] at this)
  simp only [Nat.add_zero] at h
  have hcur : q + v.cells.toList.length ≤ cur.toList.length := by rw [hlen, Array.length_toList]; exact hq
  refine ⟨_, (splice_size _ _ _ hcur).trans (Array.length_toList), fun j => ?_, ?_⟩
  · rw [splice_get _ _ _ _ hcur, hlen, arr_getD, arr_getD]
  · simp only [Instr.storeAt, Instr.sureAddr, storeVar, Sem.run_bind, Sem.run_pure, Result.andThen_ok, run_szOf hn]
    rw [if_neg (by simp [hv])]
    simpa using h
theorem store_out (hi : HInv R w hp ck dn) (hd : ¬ dn me) (he : EnvRep R w a e) {t : TypeId} {n : Nat} {x y : Operand} {x' y' : Opd} (ho : o.op = .store t x y) (hn : szOf P t = some n) (hx : compOpd x = some x') (hy : compOpd y = some y') {hp' : HP} (hr : store hp n (y'.ev e) (x'.ev e) = some hp') :
    Out P o a R w hp dn me .un hp' ck := by
  have rx := opd_rep he hx
  have ry := opd_rep he hy
  have hdone : ∀ w', (Instr.storeAt t (a.eval x) (a.eval y)).run P w = .ok () w' → (execOp a.eval o).run P w = .ok .skip w' := by
    intro w' h
    simp only [execOp, ho]
    rw [Sem.run_bind, h]
    rfl
  unfold store at hr
  split at hr
  · rename_i k sz i j h1
    rw [h1] at rx
    cases hv : a.eval x <;> rw [hv] at rx <;> cases rx
    rename_i g n' hμ
    rw [hv] at hdone
    split at hr
    · rename_i ty cs hk
      split at hr
      · rename_i vs hvs
        by_cases hc : i = 0 ∧ vs.length = n ∧ j + n ≤ cs.length
        · rw [if_pos hc] at hr
          cases hr
          obtain ⟨rfl, rfl, hle⟩ := hc
          obtain ⟨c1, c2, c3⟩ := cells_rep ry hvs
          obtain ⟨g', n2, arr, b1, b2, b3, b4, b5⟩ := hi.ob _ _ hk
          rw [hμ] at b1
          cases b1
          rw [Nat.zero_mul, Nat.zero_add] at hdone
          obtain ⟨A, hA1, hA2, hrun⟩ := store_run (P := P) (n := vs.length) (q := j) hn c1 (RowAt.of b2) (by omega) c2
          obtain ⟨s1, s2⟩ := put_step (me := me) (w' := w.setRow g A) hi k k (.box ty cs) (.box ty (over cs j vs)) hk rfl (some (g, n')) (.inl ⟨rfl, hμ⟩) rfl rfl rfl (by simp)
            (fun q hq hne => setRow_hold _ _ _ _ (fun h => hne n' (by rw [h]; exact hμ))) (fun g' n2 h => .inr ⟨n', by cases h; exact hμ⟩) rfl
            (fun ha => ⟨g, n', _, updμ_same _ _ _, setRow_heap _ _ _ _ _ _ b2, by rw [over_length, hA1]; exact b3, fun q hq => by
                rw [hA1] at hq
                rw [hA2]
                by_cases h : j ≤ q ∧ q < j + vs.length
                · rw [if_pos h]; exact c2 _ (by omega)
                · rw [if_neg h]; exact b4 _ hq, fun q v hq => by
                rw [over_get _ _ _ _ hle] at hq
                rw [hA2]
                by_cases h : j ≤ q ∧ q < j + vs.length
                · rw [if_pos h] at hq ⊢; exact (c3 _ _ hq).mono ha
                · rw [if_neg h] at hq ⊢; exact (b5 _ _ hq).mono ha⟩)
          exact Out.of _ _ _ (.inr ⟨hdone _ hrun, rfl⟩) (.un _) s1 s2
        · rw [if_neg hc] at hr; cases hr
      · cases hr
    · split at hr
      · rename_i ts hts
        obtain ⟨R1, m1, m2, m3, f1, f2⟩ := freezeAll_step (keysOf hp (y'.ev e)) hi
        split at hr
        · rename_i ty sz' els hk2
          by_cases hs : sz' = sz
          · rw [if_pos hs] at hr
            subst hs
            split at hr
            · rename_i c hc
              by_cases hcc : ts.length = n ∧ j + n ≤ c.length
              · rw [if_pos hcc] at hr
                cases hr
                obtain ⟨rfl, hle⟩ := hcc
                have hilt := (List.getElem?_eq_some_iff.1 hc).1
                unfold treesC at hts
                cases hvs : cells (y'.ev e) with
                | none => simp [hvs] at hts
                | some vs =>
                  simp only [hvs] at hts
                  obtain ⟨c1, c2, c3⟩ := cells_rep ry hvs
                  obtain ⟨t1, t2⟩ := treesOf_rep (f := fun j => (a.eval y).cells.getD j undef) hi (S' := R1.S) (fun g hg => (m3 g).2 (.inl hg)) vs 0 (fun j v hv => by rw [Nat.zero_add]; exact c3 j v hv) hts (fun g hg => (m3 g).2 (.inr (rowsAt_sub (fun k hk => vkeys_sub hvs hk) g hg)))
                  have hμ1 : R1.μ k = some (some (g, n')) := by rw [m1]; exact hμ
                  rcases f2.ob _ _ hk2 with ⟨h1, _⟩ | ⟨g', tot, arr, b1, b2, b3, b4, b5, b6, b7, b8, _⟩
                  · rw [hμ1] at h1; cases h1
                  · rw [hμ1] at b1
                    cases b1
                    have hcsz := b6 c (List.mem_of_getElem? hc)
                    have hlast : i * sz' + sz' ≤ arr.size := by
                      have : (i + 1) * sz' ≤ n' * sz' := Nat.mul_le_mul_right _ (by omega)
                      rw [Nat.add_mul] at this
                      omega
                    obtain ⟨A, hA1, hA2, hrun⟩ := store_run (P := P) (n := ts.length) (q := i * sz' + j) (v := a.eval y) hn (by omega) b2 (by omega) c2
                    obtain ⟨s1, s2⟩ := put_step (me := me) (w' := w.setRow g A) f2 k k (.row ty sz' els false) (.row ty sz' (els.set i (over c j ts)) false) hk2 rfl (some (g, n')) (.inl ⟨rfl, hμ1⟩) rfl rfl rfl (by simp)
                      (fun q hq hne => setRow_hold _ _ _ _ (fun h => hne n' (by rw [h]; exact hμ1))) (fun g' n2 h => .inr ⟨n', by cases h; exact hμ1⟩) rfl
                      (fun ha => .inr ⟨g, n', _, updμ_same _ _ _, b2.set hA1, by rw [hA1]; exact b3, by simpa using b4, b5, fun q hq => by
                          rcases List.mem_or_eq_of_mem_set hq with h | h
                          · exact b6 q h
                          · rw [h, over_length]; exact hcsz, fun q hq => by
                          rw [hA1] at hq
                          rw [hA2]
                          by_cases h : i * sz' + j ≤ q ∧ q < i * sz' + j + ts.length
                          · rw [if_pos h]; exact c2 _ (by omega)
                          · rw [if_neg h]; exact b7 _ hq, fun i' j' t' ht' => by
                          obtain ⟨q, hq1, hq2⟩ := at2_elim ht'
                          have hj' := (List.getElem?_eq_some_iff.1 hq2).1
                          rw [hA2]
                          rw [List.getElem?_set] at hq1
                          by_cases hii : i = i'
                          · subst hii
                            rw [if_pos rfl, if_pos hilt] at hq1
                            cases hq1
                            rw [over_length] at hj'
                            rw [over_get _ _ _ _ hle] at hq2
                            by_cases h : j ≤ j' ∧ j' < j + ts.length
                            · rw [if_pos h] at hq2
                              rw [if_pos (by omega), show i * sz' + j' - (i * sz' + j) = j' - j by omega]
                              have := t2 _ _ hq2
                              rw [Nat.zero_add] at this
                              exact this.mono ha.S ha.hS
                            · rw [if_neg h] at hq2
                              rw [if_neg (by omega)]
                              exact (b8 _ _ _ (at2_some hc hq2)).mono ha.S ha.hS
                          · rw [if_neg hii] at hq1
                            have hq3 := b6 q (List.mem_of_getElem? hq1)
                            rw [if_neg]
                            · exact (b8 _ _ _ (at2_some hq1 hq2)).mono ha.S ha.hS
                            · intro h
                              rcases Nat.lt_or_gt_of_ne hii with h3 | h3
                              · have : (i + 1) * sz' ≤ i' * sz' := Nat.mul_le_mul_right _ h3
                                rw [Nat.add_mul] at this
                                omega
                              · have : (i' + 1) * sz' ≤ i * sz' := Nat.mul_le_mul_right _ h3
                                rw [Nat.add_mul] at this
                                omega, by simp⟩)
                    exact Out.of _ _ _ (.inr ⟨hdone _ hrun, rfl⟩) (.un _) (f1.trans s1) s2
              · rw [if_neg hcc] at hr; cases hr
            · cases hr
          · rw [if_neg hs] at hr; cases hr
        · cases hr
      · cases hr
    · cases hr
  · cases hr
end
end
section
theorem news_of {S : Nat → Prop} {w : World} {g o sz : Nat} (hsz0 : 0 < sz) {ys : List (List T)} {f : Nat → Nat → Value} (hsz : ∀ c ∈ ys, c.length = sz) (hcell : ∀ i j t, at2 ys i j = some t → w.cell? ⟨g, o + (i * sz + j), none⟩ = some (f i j)) (hrep : ∀ i j t, at2 ys i j = some t → RepT S w (f i j) t) :
    ∃ news : List Value, news.length = ys.length * sz ∧ (∀ (j : Nat) (v : Value), news[j]? = some v → w.cell? ((⟨g, o, none⟩ : Addr).add j) = some v) ∧ (∀ v ∈ news, v.oneCell' = true) ∧ ∀ i j t, at2 ys i j = some t → RepT S w (news.getD (i * sz + j) undef) t := by
  have hat : ∀ q, q < ys.length * sz → ∃ t, at2 ys (q / sz) (q % sz) = some t := by
    intro q hq
    have hd : q / sz < ys.length := (Nat.div_lt_iff_lt_mul hsz0).2 hq
    have hm : q % sz < sz := Nat.mod_lt _ hsz0
    have hc := hsz _ (List.getElem_mem hd)
    exact ⟨_, at2_some (List.getElem?_eq_getElem hd) (List.getElem?_eq_getElem (show q % sz < (ys[q / sz]).length by omega))⟩
  have hq : ∀ q, q / sz * sz + q % sz = q := fun q => by rw [Nat.mul_comm]; exact Nat.div_add_mod q sz
  refine ⟨(List.range (ys.length * sz)).map (fun q => f (q / sz) (q % sz)), by simp, fun j v hv => ?_, fun v hv => ?_, fun i j t ht => ?_⟩
  · rw [List.getElem?_map] at hv
    by_cases hj : j < ys.length * sz
    · rw [List.getElem?_range hj] at hv
      cases hv
      obtain ⟨t, ht⟩ := hat j hj
      rw [addr_add]
      have := hcell _ _ _ ht
      rwa [hq] at this
    · rw [List.getElem?_eq_none (by simp; omega)] at hv
      cases hv
  · obtain ⟨q, hq1, rfl⟩ := List.mem_map.1 hv
    obtain ⟨t, ht⟩ := hat q (by simpa using hq1)
    exact oneCell_repT (hrep _ _ _ ht)
  · obtain ⟨c, hc1, hc2⟩ := at2_elim ht
    have hi1 := (List.getElem?_eq_some_iff.1 hc1).1
    have hj1 := (List.getElem?_eq_some_iff.1 hc2).1
    have hcs := hsz c (List.mem_of_getElem? hc1)
    have hlt : i * sz + j < ys.length * sz := mul_lt (by omega) (by omega)
    have e1 : (i * sz + j) / sz = i := by rw [Nat.mul_comm, Nat.mul_add_div hsz0, Nat.div_eq_of_lt (by omega)]; omega
    have e2 : (i * sz + j) % sz = j := by rw [Nat.mul_comm, Nat.mul_add_mod]; exact Nat.mod_eq_of_lt (by omega)
    rw [List.getD_eq_getElem?_getD, List.getElem?_map, List.getElem?_range hlt]
    simp only [Option.map_some, Option.getD_some, e1, e2]
    exact hrep i j t ht
theorem els_rep {R : Rl} {w : World} {hp : HP} {ck : Nat} {dn : Nat → Prop} (hi : HInv R w hp ck dn) {u : Value} {y : V} (h : RepV R w u y) {sz : Nat} (hsz0 : 0 < sz) {ys : List (List T)} (he : elsOf hp sz y = some ys) :
    ∃ (A : Option Addr) (c : Nat) (news : List Value), u = .slice A ys.length c ∧ ys.length ≤ c ∧ (∀ c ∈ ys, c.length = sz) ∧ news.length = ys.length * sz ∧ (∀ ad, A = some ad → ∀ (j : Nat) (v : Value), news[j]? = some v → w.cell? (ad.add j) = some v) ∧ (0 < ys.length → ∃ ad, A = some ad) ∧ (∀ v ∈ news, v.oneCell' = true) ∧ ∀ i j t, at2 ys i j = some t → RepT R.S w (news.getD (i * sz + j) undef) t := by
  unfold elsOf at he
  split at he
  · rename_i xs ht
    by_cases hall : (xs.all fun c => c.length == sz) = true
    · rw [if_pos hall] at he
      cases he
      have hsz : ∀ c ∈ ys, c.length = sz := fun c hc => by simpa using (List.all_eq_true.1 hall c hc)
      have hnil : ys = [] → ∀ A, ∃ news : List Value, news.length = ys.length * sz ∧ (∀ ad : Addr, A = some ad → ∀ (j : Nat) (v : Value), news[j]? = some v → w.cell? (ad.add j) = some v) ∧ (∀ v ∈ news, v.oneCell' = true) ∧ ∀ i j t, at2 ys i j = some t → RepT R.S w (news.getD (i * sz + j) undef) t := by
        rintro rfl A
        exact ⟨[], by simp, by simp, by simp, by intro i j t h; simp [at2] at h⟩
      unfold treeOf at ht
      split at ht
      · cases ht
        obtain ⟨A, c, g, q, f, hv, hc, hA, hS, hcell, hrep⟩ := repT_l (repV_tl h) sz hsz
        rcases Nat.eq_zero_or_pos ys.length with h0 | h0
        · obtain ⟨news, n1, n2, n3, n4⟩ := hnil (List.eq_nil_of_length_eq_zero h0) A
          exact ⟨A, c, news, hv, hc, hsz, n1, n2, by omega, n3, n4⟩
        · obtain ⟨news, n1, n2, n3, n4⟩ := news_of hsz0 hsz hcell hrep
          exact ⟨A, c, news, hv, hc, hsz, n1, fun ad had => by rw [hA h0] at had; cases had; exact n2, fun _ => ⟨_, hA h0⟩, n3, n4⟩
      · cases ht
        have : u = .slice none 0 0 := by cases h; rfl
        obtain ⟨news, n1, n2, n3, n4⟩ := hnil rfl none
        exact ⟨none, 0, news, this, Nat.le_refl _, hsz, n1, n2, fun h => absurd h (by simp), n3, n4⟩
      · cases ht
        cases h with
        | nn A c =>
          obtain ⟨news, n1, n2, n3, n4⟩ := hnil rfl (some A)
          exact ⟨some A, c, news, rfl, Nat.zero_le _, hsz, n1, n2, fun h => absurd h (by simp), n3, n4⟩
      · rename_i k sz' off len
        split at ht
        · rename_i ty sz2 els fz hg
          by_cases hc : sz2 = sz' ∧ off + len ≤ els.length
          · rw [if_pos hc] at ht
            obtain ⟨rfl, hlen⟩ := hc
            cases ht
            have hyl : ((els.drop off).take len).length = len := by simp; omega
            rcases Nat.eq_zero_or_pos len with h0 | h0
            · have hul : ∃ A c, u = .slice A len c ∧ len ≤ c := by
                rcases repV_ow h with ⟨g, tot, A, cap, rfl, hμ, hl, hcap, hA⟩ | ⟨rfl, hμ, rfl, rfl⟩
                · exact ⟨A, cap, rfl, hl⟩
                · exact ⟨none, 0, rfl, Nat.le_refl _⟩
              obtain ⟨A, c, hv, hcl⟩ := hul
              obtain ⟨news, n1, n2, n3, n4⟩ := hnil (List.eq_nil_of_length_eq_zero (by omega)) A
              exact ⟨A, c, news, by rw [hyl]; exact hv, by omega, hsz, n1, n2, by omega, n3, n4⟩
            · rcases repV_ow h with ⟨g, tot, A, cap, rfl, hμ, hl, hcap, hA⟩ | ⟨rfl, hμ, rfl, rfl⟩
              · rcases hi.ob _ _ hg with ⟨h1, _⟩ | ⟨g', n', arr, h1, h2, h3, h4, h5, h6, h7, h8, h9⟩
                · rw [hμ] at h1; cases h1
                · rw [hμ] at h1
                  cases h1
                  have hcs : sz2 = sz := by
                    have hne : off < els.length := by omega
                    have hm : els[off] ∈ (els.drop off).take len := by
                      refine List.mem_of_getElem? (i := 0) ?_
                      rw [List.getElem?_take, if_pos h0, List.getElem?_drop, Nat.add_zero, List.getElem?_eq_getElem hne]
                    exact (h6 _ (List.getElem_mem hne)).symm.trans (hsz _ hm)
                  subst hcs
                  have hget : ∀ i j t, at2 ((els.drop off).take len) i j = some t → at2 els (off + i) j = some t := by
                    intro i j t ht
                    obtain ⟨c, hc1, hc2⟩ := at2_elim ht
                    rw [List.getElem?_take] at hc1
                    by_cases hlt : i < len
                    · rw [if_pos hlt, List.getElem?_drop] at hc1
                      exact at2_some hc1 hc2
                    · rw [if_neg hlt] at hc1; cases hc1
                  obtain ⟨news, n1, n2, n3, n4⟩ := news_of (S := R.S) (w := w) (g := g) (o := off * sz2) hsz0 (f := fun i j => arr.getD ((off + i) * sz2 + j) undef) hsz (fun i j t ht => by
                      obtain ⟨c, hc1, hc2⟩ := at2_elim (hget i j t ht)
                      have hi1 := (List.getElem?_eq_some_iff.1 hc1).1
                      have hj1 := (List.getElem?_eq_some_iff.1 hc2).1
                      have hcs := h6 c (List.mem_of_getElem? hc1)
                      have e1 : off * sz2 + (i * sz2 + j) = (off + i) * sz2 + j := by rw [Nat.add_mul]; omega
                      rw [e1, h2.cell]
                      refine getD_of_getElem? ?_
                      rw [h3]
                      exact mul_lt (by omega) (by omega)) (fun i j t ht => h8 _ _ _ (hget i j t ht))
                  have hA' := hA (by omega)
                  exact ⟨A, cap, news, by rw [hyl], by omega, hsz, n1, fun ad had => by rw [hA'] at had; cases had; exact n2, fun _ => ⟨_, hA'⟩, n3, n4⟩
              · omega
          · rw [if_neg hc] at ht; cases ht
        · cases ht
      · cases ht
    · rw [if_neg hall] at he; cases he
  · cases he
theorem zeroCells_one (z : Array Value) (h : z.all (·.oneCell') = true) (hz : 0 < z.size) (n j : Nat) (hj : j < (Builtin.zeroCells z n).size) : ((Builtin.zeroCells z n).getD j undef).oneCell' = true := by
  have hj' : j < n * z.size := by rwa [size_zeroCells] at hj
  have hm : j % z.size < z.size := Nat.mod_lt _ hz
  rw [Array.getD_eq_getD_getElem?, Array.getElem?_eq_getElem hj, Option.getD_some]
  simp only [Builtin.zeroCells, Array.getElem_map, Array.getElem_range]
  rw [getElem!_pos z _ hm]
  rw [Array.all_eq_true] at h
  exact h _ hm
theorem at2_append (xs ys : List (List T)) (i j : Nat) : at2 (xs ++ ys) i j = if i < xs.length then at2 xs i j else at2 ys (i - xs.length) j := by
  unfold at2
  rw [List.getElem?_append]
  by_cases h : i < xs.length
  · rw [if_pos h, if_pos h]
  · rw [if_neg h, if_neg h]
theorem app_cells {S : Nat → Prop} {w : World} {A arr : Array Value} {news : List Value} {xs ys : List (List T)} {sz : Nat} (hx : ∀ c ∈ xs, c.length = sz) (hy : ∀ c ∈ ys, c.length = sz)
    (h1 : ∀ q, q < xs.length * sz → A.getD q undef = arr.getD q undef) (h2 : ∀ q, q < ys.length * sz → A.getD (xs.length * sz + q) undef = news.getD q undef) (r1 : ∀ i j t, at2 xs i j = some t → RepT S w (arr.getD (i * sz + j) undef) t) (r2 : ∀ i j t, at2 ys i j = some t → RepT S w (news.getD (i * sz + j) undef) t) :
    ∀ i j t, at2 (xs ++ ys) i j = some t → RepT S w (A.getD (i * sz + j) undef) t := by
  intro i j t ht
  rw [at2_append] at ht
  by_cases hi : i < xs.length
  · rw [if_pos hi] at ht
    obtain ⟨c, hc1, hc2⟩ := at2_elim ht
    have hj1 := (List.getElem?_eq_some_iff.1 hc2).1
    have hcs := hx c (List.mem_of_getElem? hc1)
    rw [h1 _ (mul_lt hi (by omega))]
    exact r1 i j t ht
  · rw [if_neg hi] at ht
    obtain ⟨c, hc1, hc2⟩ := at2_elim ht
    have hi1 := (List.getElem?_eq_some_iff.1 hc1).1
    have hj1 := (List.getElem?_eq_some_iff.1 hc2).1
    have hcs := hy c (List.mem_of_getElem? hc1)
    have e : i * sz + j = xs.length * sz + ((i - xs.length) * sz + j) := by
      have : i * sz = xs.length * sz + (i - xs.length) * sz := by rw [← Nat.add_mul]; congr 1; omega
      omega
    rw [e, h2 _ (mul_lt hi1 (by omega))]
    exact r2 _ j t ht
section
variable {P : Program} {o : Oper} {a : Act} {R : Rl} {w : World} {hp : HP} {dn : Nat → Prop} {me ck d : Nat} {e : Env}
theorem append_run0 (t ty el : TypeId) (n : Nat) (ht : P.underlying t = some (.slice el)) (hn : szOf P el = some n) (A : Option Addr) (l cap : Nat) (hl : l ≤ cap) (B : Option Addr) (c : Nat) :
    (Builtin.append_ #[t, t] ty #[.slice A l cap, .slice B 0 c]).run P w = .ok (.slice A l cap) w := by
  have hf : (Builtin.firstCells n 0 (.slice B 0 c)).run P w = .ok #[] w := by
    cases B with
    | none => exact run_firstCells_none w n 0 0 c
    | some b => exact run_firstCells_some w n 0 b 0 c [] (by simp) (by simp)
  cases A with
  | none => simp [Builtin.append_, run_underlying ht, run_szOf hn, Builtin.lenOf, hl, hf]
  | some ad => simp [Builtin.append_, run_underlying ht, run_szOf hn, Builtin.lenOf, hl, hf, storeCells]
theorem getD_append (A B : Array Value) (q : Nat) : (A ++ B).getD q undef = if q < A.size then A.getD q undef else B.getD (q - A.size) undef := by
  rw [Array.getD_eq_getD_getElem?, Array.getElem?_append]
  by_cases h : q < A.size
  · rw [if_pos h, if_pos h, Array.getD_eq_getD_getElem?]
  · rw [if_neg h, if_neg h, Array.getD_eq_getD_getElem?]
theorem toArr_getD (l : List Value) (q : Nat) : l.toArray.getD q undef = l.getD q undef := by simp [List.getD_eq_getElem?_getD, Array.getD_eq_getD_getElem?]
theorem run_append_room_row (w : World) (t ty e : TypeId) (i : TypeInfo) (ht : P.underlying t = some (.slice e)) (hi : P.info? e = some i)
    (g sLen sCap : Nat) (cur : Array Value) (hg : RowAt w g cur e)
    (a : Addr) (m c : Nat) (news : List Value) (hl : news.length = m * i.size) (hnews : ∀ j u, news[j]? = some u → w.cell? (a.add j) = some u) (h1 : ∀ u ∈ news, u.oneCell' = true)
    (hroom : sLen + m ≤ sCap) (hfit : sLen * i.size + news.length ≤ cur.size) :
    (Builtin.append_ #[t, t] ty #[.slice (some ⟨g, 0, none⟩) sLen sCap, .slice (some a) m c]).run P w =
      .ok (.slice (some ⟨g, 0, none⟩) (sLen + m) sCap) (w.setRow g (cur.toList.take (sLen * i.size) ++ news ++ cur.toList.drop (sLen * i.size + news.length)).toArray) := by
  have hf := run_firstCells_some (P := P) w i.size m a m c news hl hnews
  have hst := run_storeCells_row P g (sLen * i.size) e news 0 cur w hg (by simpa using hfit) h1
  simp only [Nat.add_zero] at hst
  simp [Builtin.append_, run_underlying ht, sizeOf, typeInfo, hi, Builtin.lenOf, hroom, hf, Addr.add_lit, hst]
structure AppRuns (P : Program) (w : World) (T : Array TypeId) (rt el : TypeId) (n bytes : Nat) (z yv : Value) (m : Nat) (news : List Value) : Prop where
  r0 : m = 0 → ∀ (A : Option Addr) (l cap : Nat), l ≤ cap → (Builtin.append_ T rt #[.slice A l cap, yv]).run P w = .ok (.slice A l cap) w
  rn : 0 < m → m ≤ 140737488355328 → m * bytes ≤ 281474976710656 → (Builtin.append_ T rt #[.slice none 0 0, yv]).run P w = .ok (.slice (some ⟨w.heap.size, 0, none⟩) m (grownCap w m 0 el)) (w.drew.alloc (.cells (news.toArray ++ Builtin.zeroCells z.cells (grownCap w m 0 el - m)) el))
  rr : 0 < m → ∀ (g sLen sCap : Nat) (cur : Array Value), RowAt w g cur el → sLen + m ≤ sCap → sLen * n + news.length ≤ cur.size → (Builtin.append_ T rt #[.slice (some ⟨g, 0, none⟩) sLen sCap, yv]).run P w =
      .ok (.slice (some ⟨g, 0, none⟩) (sLen + m) sCap) (w.setRow g (cur.toList.take (sLen * n) ++ news ++ cur.toList.drop (sLen * n + news.length)).toArray)
  rg : 0 < m → ∀ (b : Addr) (sLen sCap : Nat) (olds : List Value), olds.length = sLen * n → (∀ (j : Nat) (v : Value), olds[j]? = some v → w.cell? (b.add j) = some v) → sCap < sLen + m → sLen + m ≤ 9223372036854775807 → Builtin.nextslicecap (sLen + m) sCap * bytes ≤ 281474976710656 → (Builtin.append_ T rt #[.slice (some b) sLen sCap, yv]).run P w =
      .ok (.slice (some ⟨w.heap.size, 0, none⟩) (sLen + m) (grownCap w (sLen + m) sCap el)) (w.drew.alloc (.cells (olds.toArray ++ news.toArray ++ Builtin.zeroCells z.cells (grownCap w (sLen + m) sCap el - (sLen + m))) el))
theorem app_core (hi : HInv R w hp ck dn) (hd : ¬ dn me) {T : Array TypeId} {el : TypeId} {xv : Operand} {vx y' : V} {yv : Value} (rx : RepV R w (a.eval xv) vx)
    (hrun : ∀ v w', (Builtin.append_ T o.type #[a.eval xv, yv]).run P w = .ok v w' → (execOp a.eval o).run P w = .ok (.value v) w')
    {n bytes : Nat} {z : Value} (hn0 : 0 < n) (hzs : z.cells.size = n) (hz1 : z.cells.all (·.oneCell') = true)
    (hap : ∀ ys, elsOf hp n y' = some ys → ∃ news : List Value, (∀ c ∈ ys, c.length = n) ∧ news.length = ys.length * n ∧ (∀ u ∈ news, u.oneCell' = true) ∧ (∀ i j t, at2 ys i j = some t → RepT R.S w (news.getD (i * n + j) undef) t) ∧ AppRuns P w T o.type el n bytes z yv ys.length news)
    {r : V} {hp' : HP} (hr : app hp el n bytes ⟨d, ck, me⟩ vx y' = some (r, hp')) : Out P o a R w hp dn me r hp' ck := by
  unfold app at hr
  split at hr
  · cases hr
  · rename_i ys hys
    obtain ⟨news, hysz, n1, n4, n5, H⟩ := hap ys hys
    split at hr
    · have hvx : a.eval xv = .slice none 0 0 := by generalize a.eval xv = u at rx; cases rx; rfl
      rw [hvx] at hrun
      by_cases hc : ys.length * bytes ≤ 140737488355328 ∧ 0 < bytes
      · rw [if_pos hc] at hr
        cases hr
        obtain ⟨hc1, hc2⟩ := hc
        rcases Nat.eq_zero_or_pos ys.length with h0 | h0
        · have hy0 : ys = [] := List.eq_nil_of_length_eq_zero h0
          subst hy0
          obtain ⟨g1, g2⟩ := alloc_step (w' := w) hi hd ⟨d, ck, me⟩ ⟨rfl, rfl⟩ none (.row el n [] false) rfl rfl rfl (Nat.le_refl _) (fun _ _ => rfl) (by intro g n h; cases h) (fun _ => .inl ⟨updμ_same _ _ _, rfl⟩)
          exact Out.of (.slice none 0 0) w _ (.inl (hrun _ _ (H.r0 rfl none 0 0 (Nat.le_refl _)))) (.owv _ _ (updμ_same _ _ _)) g1 g2
        · have hm : ys.length ≤ 140737488355328 := by
            have : ys.length * 1 ≤ ys.length * bytes := Nat.mul_le_mul_left _ hc2
            omega
          have h := H.rn h0 (by omega) (by omega)
          have hge := grownCap_ge w ys.length 0 el
          have hle := grownCap_le_maxLen w ys.length 0 el (by simp only [maxLen]; omega)
          generalize hG : grownCap w ys.length 0 el = G at h hge hle
          have hsize : (news.toArray ++ Builtin.zeroCells z.cells (G - ys.length)).size = G * n := by
            rw [Array.size_append, size_zeroCells, hzs, List.size_toArray, n1, ← Nat.add_mul]; congr 1; omega
          have h4 : ∀ j, j < (news.toArray ++ Builtin.zeroCells z.cells (G - ys.length)).size → ((news.toArray ++ Builtin.zeroCells z.cells (G - ys.length)).getD j undef).oneCell' = true := by
            intro j hj
            rw [getD_append, toArr_getD]
            by_cases hj1 : j < news.toArray.size
            · rw [if_pos hj1]
              have hj2 : j < news.length := by simpa using hj1
              rw [List.getD_eq_getElem?_getD, List.getElem?_eq_getElem hj2]
              exact n4 _ (List.getElem_mem hj2)
            · rw [if_neg hj1]
              rw [Array.size_append] at hj
              exact zeroCells_one _ hz1 (by omega) _ _ (by omega)
          have h5 := app_cells (S := R.S) (w := w) (A := news.toArray ++ Builtin.zeroCells z.cells (G - ys.length)) (arr := #[]) (news := news) (xs := []) (ys := ys) (sz := n) (by simp) hysz (by simp) (fun q hq => by
            rw [List.length_nil, Nat.zero_mul, Nat.zero_add, getD_append, if_pos (by simp [n1]; exact hq), toArr_getD]) (by intro i j t h; simp [at2] at h) n5
          rw [List.nil_append] at h5
          obtain ⟨R', r1, r2, r3⟩ := row_new (d := d) hi hd el n (els := ys) hsize hge hle hysz h4 h5 (w1 := w.drew.alloc (.cells (news.toArray ++ Builtin.zeroCells z.cells (G - ys.length)) el)) rfl rfl rfl rfl
          exact Out.of _ _ R' (.inl (hrun _ _ h)) r1 r2 r3
      · rw [if_neg hc] at hr; cases hr
    · rename_i k sz' off len
      split at hr
      · rename_i ty' sz2 xs hk
        by_cases hc : sz' = n ∧ sz2 = n ∧ ty' = el ∧ off = 0 ∧ len = xs.length ∧ (len + ys.length) * bytes ≤ 140737488355328 ∧ 0 < bytes
        · rw [if_pos hc] at hr
          cases hr
          obtain ⟨rfl, rfl, rfl, rfl, rfl, hc1, hc2⟩ := hc
          have hm : xs.length + ys.length ≤ 140737488355328 := by
            have : (xs.length + ys.length) * 1 ≤ (xs.length + ys.length) * bytes := Nat.mul_le_mul_left _ hc2
            omega
          -- nothing new: the row goes on under another key
          have hstay : ys.length = 0 → ∀ A cap, a.eval xv = .slice A xs.length cap → xs.length ≤ cap → ∀ p, R.μ k = some p → (∀ R' w', R'.μ ⟨k.s, ck, me⟩ = some p → RepV R' w' (.slice A xs.length cap) (.ow ⟨k.s, ck, me⟩ sz2 0 xs.length)) → Out P o a R w hp dn me (.ow ⟨k.s, ck, me⟩ sz2 0 (xs.length + ys.length)) (hp.put k ⟨k.s, ck, me⟩ (.row ty' sz2 (xs ++ ys) false)) ck := by
            intro h0 A cap hvx hl p hμ hrep
            have hy0 : ys = [] := List.eq_nil_of_length_eq_zero h0
            subst hy0
            rw [hvx] at hrun
            have hob := hi.ob _ _ hk
            obtain ⟨g1, g2⟩ := put_step (w' := w) hi k ⟨k.s, ck, me⟩ (.row ty' sz2 xs false) (.row ty' sz2 (xs ++ []) false) hk rfl p (.inr ⟨rfl, rfl, hd⟩) rfl rfl rfl (Nat.le_refl _) (fun _ _ _ => rfl) (fun g n' h => .inr ⟨n', by rw [hμ, h]⟩) rfl
              (fun ha => by
                rw [List.append_nil]
                have hob' := hob.mono ha (fun _ _ _ => rfl)
                rcases hob with ⟨b1, b2⟩ | ⟨g, tot, arr, b1, b2, b3, b4, b5, b6, b7, b8, b9⟩
                · rw [hμ] at b1; cases b1
                  exact .inl ⟨updμ_same _ _ _, b2⟩
                · rw [hμ] at b1; cases b1
                  exact .inr ⟨g, tot, arr, updμ_same _ _ _, b2, b3, b4, b5, b6, b7, fun i j t ht => (b8 i j t ht).mono ha.S ha.hS, by simp⟩)
            exact Out.of (.slice A xs.length cap) w _ (.inl (hrun _ _ (H.r0 rfl A xs.length cap hl))) (hrep _ _ (updμ_same _ _ _)) g1 g2
          -- a new row
          have hgrow : 0 < ys.length → ∀ (G : Nat) (A : Array Value) (w' : World), xs.length + ys.length ≤ G → G ≤ maxLen → w'.heap = (w.alloc (.cells A ty')).heap → w'.os = w.os → w'.tape = w.tape → w'.output = w.output →
              (Builtin.append_ T o.type #[a.eval xv, yv]).run P w = .ok (.slice (some ⟨w.heap.size, 0, none⟩) (xs.length + ys.length) G) w' → A.size = G * sz2 → (∀ c ∈ xs, c.length = sz2) → (∀ j, j < A.size → (A.getD j undef).oneCell' = true) → (∀ i j t, at2 (xs ++ ys) i j = some t → RepT R.S w (A.getD (i * sz2 + j) undef) t) →
              Out P o a R w hp dn me (.ow ⟨k.s, ck, me⟩ sz2 0 (xs.length + ys.length)) (hp.put k ⟨k.s, ck, me⟩ (.row ty' sz2 (xs ++ ys) false)) ck := by
            intro h0 G A w' hG1 hG2 hh hos htp hout hr2 hsize hxsz h4 h5
            have hold : ∀ g, g < w.heap.size → w'.heap[g]? = w.heap[g]? := fun g hg => by rw [hh]; exact heap_alloc_old w _ g hg
            have hnew : w'.heap[w.heap.size]? = some (.cells A ty' (0, 0)) := by rw [hh]; exact heap_alloc_new w _
            obtain ⟨g1, g2⟩ := put_step (w' := w') hi k ⟨k.s, ck, me⟩ (.row ty' sz2 xs false) (.row ty' sz2 (xs ++ ys) false) hk rfl (some (w.heap.size, G)) (.inr ⟨rfl, rfl, hd⟩) hos htp hout (by rw [hh]; simp) (fun g hg _ => hold g hg) (fun g n' h => by cases h; exact .inl (Nat.le_refl _)) rfl
              (fun ha => .inr ⟨w.heap.size, G, A, updμ_same _ _ _, RowAt.of hnew, hsize, by rw [List.length_append]; exact hG1, hG2, fun c hc => (List.mem_append.1 hc).elim (hxsz c) (hysz c), h4, fun i j t ht => (h5 i j t ht).mono ha.S ha.hS, by simp⟩)
            exact Out.of _ w' _ (.inl (hrun _ _ hr2)) (.ow _ _ _ _ w.heap.size G _ G (updμ_same _ _ _) hG1 (by omega) (fun _ => by rw [Nat.zero_mul])) g1 g2
          rcases repV_ow rx with ⟨g, tot, A, cap, hvx, hμ, hl, hcap, hA⟩ | ⟨hvx, hμ, _, hl0⟩
          · rcases hi.ob _ _ hk with ⟨b1, _⟩ | ⟨g', tot', arr, b1, b2, b3, b4, b5, b6, b7, b8, _⟩
            · rw [hμ] at b1; cases b1
            · rw [hμ] at b1
              cases b1
              obtain rfl : cap = tot := by omega
              rcases Nat.eq_zero_or_pos ys.length with h0 | h0
              · exact hstay h0 A cap hvx hl _ hμ (fun R' w' h => .ow _ _ _ _ g cap A cap h hl (by omega) hA)
              · have hfit : xs.length * sz2 ≤ arr.size := by rw [b3]; exact Nat.mul_le_mul_right _ hl
                by_cases hroom : xs.length + ys.length ≤ cap
                · have hA' := hA (by omega)
                  rw [Nat.zero_mul] at hA'
                  subst hA'
                  have hfit2 : xs.length * sz2 + news.length ≤ arr.toList.length := by
                    have := Nat.mul_le_mul_right sz2 hroom
                    rw [Nat.add_mul] at this
                    rw [n1, Array.length_toList (xs := arr), b3]; exact this
                  have h := H.rr h0 g xs.length cap arr b2 hroom (by simpa using hfit2)
                  have hg := splice_get arr.toList news (xs.length * sz2)
                  have hs := splice_size arr.toList news (xs.length * sz2) hfit2
                  generalize (arr.toList.take (xs.length * sz2) ++ news ++ arr.toList.drop (xs.length * sz2 + news.length)).toArray = A at h hg hs
                  have hg' := fun j => hg j hfit2
                  rw [Array.length_toList] at hs
                  obtain ⟨g1, g2⟩ := put_step (w' := w.setRow g A) hi k ⟨k.s, ck, me⟩ (.row ty' sz2 xs false) (.row ty' sz2 (xs ++ ys) false) hk rfl (some (g, cap)) (.inr ⟨rfl, rfl, hd⟩) rfl rfl rfl (by simp) (fun q hq hne => setRow_hold _ _ _ _ (fun h => hne cap (by rw [h]; exact hμ))) (fun g' n' h => by cases h; exact .inr ⟨cap, hμ⟩) rfl
                    (fun ha => .inr ⟨g, cap, A, updμ_same _ _ _, b2.set hs, by rw [hs]; exact b3, by rw [List.length_append]; exact hroom, b5, fun c hc => (List.mem_append.1 hc).elim (b6 c) (hysz c), fun q hq => by
                      rw [hs] at hq
                      rw [hg' q]
                      by_cases hh : xs.length * sz2 ≤ q ∧ q < xs.length * sz2 + news.length
                      · rw [if_pos hh, List.getD_eq_getElem?_getD, List.getElem?_eq_getElem (by omega)]
                        exact n4 _ (List.getElem_mem _)
                      · rw [if_neg hh, arr_getD]; exact b7 q hq, fun i j t ht => (app_cells (S := R.S) (w := w) (arr := arr) (news := news) b6 hysz (fun q hq => by rw [hg' q, if_neg (by omega), arr_getD]) (fun q hq => by rw [hg', if_pos (by omega), show xs.length * sz2 + q - xs.length * sz2 = q by omega]) b8 n5 i j t ht).mono ha.S ha.hS, by simp⟩)
                  rw [hvx] at hrun
                  exact Out.of _ _ _ (.inl (hrun _ _ h)) (.ow _ _ _ _ g cap _ cap (updμ_same _ _ _) hroom (by omega) (fun _ => by rw [Nat.zero_mul])) g1 g2
                · have hxl : xs.length < xs.length + ys.length := by omega
                  have hcapm : Builtin.nextslicecap (xs.length + ys.length) cap * bytes ≤ 281474976710656 := growslice_fits (by omega) hc1
                  have holds : (arr.toList.take (xs.length * sz2)).length = xs.length * sz2 := by rw [List.length_take, Array.length_toList (xs := arr)]; omega
                  have hge := grownCap_ge w (xs.length + ys.length) cap ty'
                  have hle := grownCap_le_maxLen w (xs.length + ys.length) cap ty' (by simp only [maxLen]; omega)
                  have hge0 := grownCap_ge w ys.length 0 ty'
                  have hle0 := grownCap_le_maxLen w ys.length 0 ty' (by simp only [maxLen]; omega)
                  have hfin : ∀ (G : Nat) (A : Array Value), A = (arr.toList.take (xs.length * sz2)).toArray ++ news.toArray ++ Builtin.zeroCells z.cells (G - (xs.length + ys.length)) → xs.length + ys.length ≤ G → A.size = G * sz2 ∧ (∀ j, j < A.size → (A.getD j undef).oneCell' = true) ∧ (∀ i j t, at2 (xs ++ ys) i j = some t → RepT R.S w (A.getD (i * sz2 + j) undef) t) := by
                    intro G A hAA hG
                    have ho1 : (arr.toList.take (xs.length * sz2)).toArray.size = xs.length * sz2 := by rw [List.size_toArray, holds]
                    have hg3 : ∀ q, A.getD q undef = if q < xs.length * sz2 then arr.getD q undef else if q < xs.length * sz2 + ys.length * sz2 then news.getD (q - xs.length * sz2) undef else (Builtin.zeroCells z.cells (G - (xs.length + ys.length))).getD (q - (xs.length * sz2 + ys.length * sz2)) undef := by
                      intro q
                      rw [hAA, getD_append, getD_append, Array.size_append, ho1, List.size_toArray, n1, toArr_getD, toArr_getD]
                      by_cases hq1 : q < xs.length * sz2
                      · rw [if_pos (by omega), if_pos hq1, if_pos hq1, List.getD_eq_getElem?_getD, List.getElem?_take, if_pos hq1, ← List.getD_eq_getElem?_getD, arr_getD]
                      · rw [if_neg hq1, if_neg hq1]
                    have hsA : A.size = G * sz2 := by
                      rw [hAA, Array.size_append, Array.size_append, ho1, List.size_toArray, n1, size_zeroCells, hzs, ← Nat.add_mul, ← Nat.add_mul]; congr 1; omega
                    refine ⟨hsA, fun j hj => ?_, app_cells (arr := arr) (news := news) b6 hysz (fun q hq => by rw [hg3, if_pos hq]) (fun q hq => by rw [hg3, if_neg (by omega), if_pos (by omega), show xs.length * sz2 + q - xs.length * sz2 = q by omega]) b8 n5⟩
                    rw [hg3]
                    by_cases hq1 : j < xs.length * sz2
                    · rw [if_pos hq1]; exact b7 j (by omega)
                    · rw [if_neg hq1]
                      by_cases hq2 : j < xs.length * sz2 + ys.length * sz2
                      · rw [if_pos hq2, List.getD_eq_getElem?_getD, List.getElem?_eq_getElem (by omega)]
                        exact n4 _ (List.getElem_mem _)
                      · rw [if_neg hq2]
                        refine zeroCells_one _ hz1 (by omega) _ _ ?_
                        rw [size_zeroCells, hzs]
                        rw [hsA] at hj
                        have : G * sz2 = xs.length * sz2 + ys.length * sz2 + (G - (xs.length + ys.length)) * sz2 := by rw [← Nat.add_mul, ← Nat.add_mul]; congr 1; omega
                        omega
                  cases A with
                  | some b =>
                    have h := H.rg h0 b xs.length cap (arr.toList.take (xs.length * sz2)) holds (fun j v hv => by
                        have hj : j < xs.length * sz2 := by have := (List.getElem?_eq_some_iff.1 hv).1; omega
                        have hxp : 0 < xs.length := by
                          rcases Nat.eq_zero_or_pos xs.length with h | h
                          · rw [h, Nat.zero_mul] at hj; omega
                          · exact h
                        have hA' := hA (by omega)
                        cases hA'
                        rw [List.getElem?_take, if_pos hj] at hv
                        rw [addr_add, Nat.zero_mul, Nat.zero_add, b2.cell]
                        simpa using hv) (by omega) (by omega) hcapm
                    obtain ⟨f1, f2, f3⟩ := hfin _ _ rfl hge
                    exact hgrow h0 _ _ (w.drew.alloc (.cells _ ty')) hge hle rfl rfl rfl rfl (by rw [hvx]; exact h) f1 b6 f2 f3
                  | none =>
                    have hcap0 : cap = 0 := by
                      rcases Nat.eq_zero_or_pos cap with h | h
                      · exact h
                      · have := hA h; cases this
                    subst hcap0
                    have hxs0 : xs = [] := List.eq_nil_of_length_eq_zero (by omega)
                    subst hxs0
                    have h := H.rn h0 (by omega) (by simp at hc1; omega)
                    simp only [List.length_nil, Nat.zero_add] at hgrow hfin hvx ⊢
                    obtain ⟨f1, f2, f3⟩ := hfin (grownCap w ys.length 0 ty') (news.toArray ++ Builtin.zeroCells z.cells (grownCap w ys.length 0 ty' - ys.length)) (by simp) hge0
                    exact hgrow h0 _ _ (w.drew.alloc (.cells _ ty')) hge0 hle0 rfl rfl rfl rfl (by rw [hvx]; exact h) f1 b6 f2 f3
          · have hxs0 : xs = [] := List.eq_nil_of_length_eq_zero hl0
            subst hxs0
            rcases Nat.eq_zero_or_pos ys.length with h0 | h0
            · exact hstay h0 none 0 hvx (Nat.le_refl _) _ hμ (fun R' w' h => .owv _ _ h)
            · have hge0 := grownCap_ge w ys.length 0 ty'
              have hle0 := grownCap_le_maxLen w ys.length 0 ty' (by simp only [maxLen]; omega)
              have h := H.rn h0 (by omega) (by simp at hc1; omega)
              simp only [List.length_nil, Nat.zero_add] at hgrow hvx ⊢
              generalize hG : grownCap w ys.length 0 ty' = G at h hge0 hle0
              have hsize : (news.toArray ++ Builtin.zeroCells z.cells (G - ys.length)).size = G * sz2 := by
                rw [Array.size_append, size_zeroCells, hzs, List.size_toArray, n1, ← Nat.add_mul]; congr 1; omega
              refine hgrow h0 G _ (w.drew.alloc (.cells (news.toArray ++ Builtin.zeroCells z.cells (G - ys.length)) ty')) hge0 hle0 rfl rfl rfl rfl (by rw [hvx]; exact h) hsize (by simp) (fun j hj => ?_) (app_cells (arr := #[]) (news := news) (by simp) hysz (by simp) (fun q hq => by
                rw [List.length_nil, Nat.zero_mul, Nat.zero_add, getD_append, if_pos (by simp [n1]; exact hq), toArr_getD]) (by intro i j t h; simp [at2] at h) n5)
              rw [getD_append, toArr_getD]
              by_cases hj1 : j < news.toArray.size
              · rw [if_pos hj1]
                have hj2 : j < news.length := by simpa using hj1
                rw [List.getD_eq_getElem?_getD, List.getElem?_eq_getElem hj2]
                exact n4 _ (List.getElem_mem hj2)
              · rw [if_neg hj1]
                rw [Array.size_append] at hj
                exact zeroCells_one _ hz1 (by omega) _ _ (by omega)
        · rw [if_neg hc] at hr; cases hr
      · cases hr
    · cases hr
theorem app_out (hi : HInv R w hp ck dn) (hd : ¬ dn me) (he : EnvRep R w a e) {as_ : Array Operand} {ts : Array TypeId} {t el : TypeId} {x y : Operand} {x' y' : Opd} (ho : o.op = .call { callee := .builtin .append, args := as_, argTypes := ts }) (ha : as_.toList = [x, y]) (hts : ts.toList = [t, t]) (ht : P.underlying t = some (.slice el))
    {n bytes : Nat} (hn : szOf P el = some n) (hb : bytesOf P el = some bytes) {z : Value} (hz : zeroOf P el = some z) (hn0 : 0 < n) (hzs : z.cells.size = n) (hz1 : z.cells.all (·.oneCell') = true) (hx : compOpd x = some x') (hy : compOpd y = some y') {r : V} {hp' : HP} (hr : app hp el n bytes ⟨d, ck, me⟩ (x'.ev e) (y'.ev e) = some (r, hp')) :
    Out P o a R w hp dn me r hp' ck := by
  have rx := opd_rep he hx
  have ry := opd_rep he hy
  have ha' : as_ = #[x, y] := by cases as_; simp at ha; simp [ha]
  have ht' : ts = #[t, t] := by cases ts; simp at hts; simp [hts]
  have hrun : ∀ v w', (Builtin.append_ #[t, t] o.type #[a.eval x, a.eval y]).run P w = .ok v w' → (execOp a.eval o).run P w = .ok (.value v) w' := by
    intro v w' h
    simp [execOp, ho, ha', ht', resolve, invoke, builtin, h]
  obtain ⟨ie, hie, hiby⟩ := run_bytesOf hb
  have hsz : ie.size = n := by simpa [szOf, hie] using hn
  have hiz : ie.zero = some z := by simpa [zeroOf, hie] using hz
  refine app_core hi hd (T := #[t, t]) rx hrun hn0 hzs hz1 (fun ys hys => ?_) hr
  obtain ⟨B, c, news, hvy, hmc, hysz, n1, n2, n3, n4, n5⟩ := els_rep hi ry hn0 hys
  refine ⟨news, hysz, n1, n4, n5, ⟨fun h0 A l cap hl => ?_, fun h0 hm hb' => ?_, fun h0 g sLen sCap cur hg h1 h2 => ?_, fun h0 b sLen sCap olds ho1 ho2 h1 h2 h3 => ?_⟩⟩
  · rw [hvy, h0]; exact append_run0 t o.type el n ht hn A l cap hl B c
  · obtain ⟨ad, rfl⟩ := n3 h0
    rw [hvy]; exact run_append_nil (P := P) w t o.type el ie z ht hie hiz ad ys.length c news (by rw [hsz]; exact n1) (n2 ad rfl) h0 (by omega) (by rw [hiby]; omega)
  · obtain ⟨ad, rfl⟩ := n3 h0
    rw [hvy]
    have h := run_append_room_row (P := P) w t o.type el ie ht hie g sLen sCap cur hg ad ys.length c news (by rw [hsz]; exact n1) (n2 ad rfl) n4 h1 (by rw [hsz]; exact h2)
    rw [hsz] at h; exact h
  · obtain ⟨ad, rfl⟩ := n3 h0
    rw [hvy]; exact run_append_grow (P := P) w t o.type el ie z ht hie hiz b sLen sCap olds (by rw [hsz]; exact ho1) ho2 ad ys.length c news (by rw [hsz]; exact n1) (n2 ad rfl) h1 (by omega) (by rw [hiby]; exact h3)
theorem run_append_room_rowS (w : World) (t u ty e : TypeId) (i : TypeInfo) (ht : P.underlying t = some (.slice e)) (hu : P.underlying u = some .string) (hi : P.info? e = some i) (hs1 : i.size = 1)
    (g sLen sCap : Nat) (cur : Array Value) (hg : RowAt w g cur e) (s : ByteArray) (hroom : sLen + s.size ≤ sCap) (hfit : sLen + s.size ≤ cur.size) :
    (Builtin.append_ #[t, u] ty #[.slice (some ⟨g, 0, none⟩) sLen sCap, .string s]).run P w =
      .ok (.slice (some ⟨g, 0, none⟩) (sLen + s.size) sCap) (w.setRow g (cur.toList.take sLen ++ Lib.strCells s ++ cur.toList.drop (sLen + s.size)).toArray) := by
  have hf := Lib.run_firstCells_string (P := P) (w := w) 1 s
  have hst := run_storeCells_row P g sLen e (Lib.strCells s) 0 cur w hg (by simpa [Lib.strCells_length] using hfit) (Lib.strCells_oneCell s)
  simp only [Nat.add_zero, Lib.strCells_length] at hst
  simp [Builtin.append_, run_underlying ht, run_underlying hu, sizeOf, typeInfo, hi, hs1, Builtin.lenOf, hroom, hf, Addr.add_lit, hst]
theorem append_run0S (w : World) (t u ty el : TypeId) (i : TypeInfo) (ht : P.underlying t = some (.slice el)) (hu : P.underlying u = some .string) (hi : P.info? el = some i) (hs1 : i.size = 1) (A : Option Addr) (l cap : Nat) (hl : l ≤ cap) (s : ByteArray) (h0 : s.size = 0) :
    (Builtin.append_ #[t, u] ty #[.slice A l cap, .string s]).run P w = .ok (.slice A l cap) w := by
  have hf := Lib.run_firstCells_string (P := P) (w := w) 1 s
  have hc : (Lib.strCells s).toArray = #[] := by
    have := Lib.strCells_length s
    rw [h0] at this
    rw [List.length_eq_zero_iff.1 this]
  rw [hc, h0] at hf
  have h1 : l + 0 ≤ cap := by omega
  cases A with
  | none => simp [Builtin.append_, run_underlying ht, run_underlying hu, sizeOf, typeInfo, hi, hs1, Builtin.lenOf, h0, hl, hf, storeCells]
  | some a => simp [Builtin.append_, run_underlying ht, run_underlying hu, sizeOf, typeInfo, hi, hs1, Builtin.lenOf, h0, hl, hf, storeCells]
theorem bytesT_len (y : List UInt8) : (bytesT y).length = y.length := by simp [bytesT]
theorem appS_out (hi : HInv R w hp ck dn) (hd : ¬ dn me) (he : EnvRep R w a e) {as_ : Array Operand} {ts : Array TypeId} {t u el : TypeId} {x y : Operand} {x' y' : Opd} (ho : o.op = .call { callee := .builtin .append, args := as_, argTypes := ts }) (ha : as_.toList = [x, y]) (hts : ts.toList = [t, u]) (ht : P.underlying t = some (.slice el)) (hu : P.underlying u = some .string)
    (hn : szOf P el = some 1) (hb : bytesOf P el = some 1) (hz : zeroOf P el = some (.int .u8 0)) (hx : compOpd x = some x') (hy : compOpd y = some y') {b : List UInt8} (hyb : y'.ev e = .t (.s b)) {r : V} {hp' : HP} (hr : app hp el 1 1 ⟨d, ck, me⟩ (x'.ev e) (.t (.l (bytesT b))) = some (r, hp')) :
    Out P o a R w hp dn me r hp' ck := by
  have rx := opd_rep he hx
  have ry := opd_rep he hy
  rw [hyb] at ry
  obtain ⟨s, hvy, hsb⟩ : ∃ s : ByteArray, a.eval y = .string s ∧ s.data.toList = b := by
    generalize a.eval y = v at ry
    cases ry with
    | t h => cases h with
      | s x _ h => exact ⟨x, rfl, h⟩
  have ha' : as_ = #[x, y] := by cases as_; simp at ha; simp [ha]
  have ht' : ts = #[t, u] := by cases ts; simp at hts; simp [hts]
  have hrun : ∀ v w', (Builtin.append_ #[t, u] o.type #[a.eval x, .string s]).run P w = .ok v w' → (execOp a.eval o).run P w = .ok (.value v) w' := by
    intro v w' h
    simp [execOp, ho, ha', ht', resolve, invoke, builtin, hvy, h]
  obtain ⟨ie, hie, hiby⟩ := run_bytesOf hb
  have hsz : ie.size = 1 := by simpa [szOf, hie] using hn
  have hiz : ie.zero = some (.int .u8 0) := by simpa [zeroOf, hie] using hz
  have hss : s.size = b.length := by rw [← hsb, Array.length_toList]; rfl
  refine app_core hi hd (T := #[t, u]) (n := 1) (bytes := 1) (z := .int .u8 0) rx hrun (by omega) rfl (by simp [Value.cells, Value.oneCell']) (fun ys hys => ?_) hr
  have hall : ((bytesT b).all fun c => c.length == 1) = true := by
    rw [List.all_eq_true]; intro c hc
    obtain ⟨q, _, rfl⟩ := List.mem_map.1 hc
    rfl
  obtain rfl : bytesT b = ys := by
    simp only [elsOf, treeOf, hall, if_true] at hys
    exact Option.some.inj hys
  have hm : (bytesT b).length = s.size := by rw [bytesT_len, hss]
  rw [hm]
  refine ⟨Lib.strCells s, fun c hc => by obtain ⟨q, _, rfl⟩ := List.mem_map.1 hc; rfl, by rw [Lib.strCells_length, Nat.mul_one], Lib.strCells_oneCell s, fun i j t ht => ?_, ⟨fun h0 A l cap hl => append_run0S w t u o.type el ie ht hu hie hsz A l cap hl s h0, fun h0 h1 h2 => ?_, fun h0 g sLen sCap cur hg h1 h2 => ?_, fun h0 bb sLen sCap olds ho1 ho2 h1 h2 h3 => ?_⟩⟩
  · obtain ⟨c, hc1, hc2⟩ := at2_elim ht
    rw [bytesT, List.getElem?_map] at hc1
    cases hy : b[i]? with
    | none => rw [hy] at hc1; cases hc1
    | some q =>
      rw [hy] at hc1
      cases hc1
      have hj := (List.getElem?_eq_some_iff.1 hc2).1
      obtain rfl : j = 0 := by simpa using hj
      cases hc2
      rw [Nat.mul_one, Nat.add_zero, List.getD_eq_getElem?_getD, Lib.strCells, List.getElem?_map, hsb, hy]
      exact .i _ _
  · have := run_append_nil_string (P := P) w t u o.type el ie (.int .u8 0) ht hu hie hiz s h0 (by omega) (by rw [hiby]; omega)
    rw [this, show (Lib.strCells s).toArray = s.data.map (fun b => Value.int .u8 b.toNat) by rw [Lib.strCells, ← List.map_toArray, Array.toArray_toList]]
  · simp only [Nat.mul_one, Lib.strCells_length] at h2 ⊢
    exact run_append_room_rowS w t u o.type el ie ht hu hie hsz g sLen sCap cur hg s h1 h2
  · exact Lib.run_append_grow_string (P := P) (w := w) t u o.type el ie (.int .u8 0) ht hu hie hiz bb sLen sCap olds (by rw [hsz]; exact ho1) ho2 s h1 (by omega) (by rw [hiby]; exact h3)
end
end
section
section
variable {P : Program} {o : Oper} {a : Act} {R : Rl} {w : World} {hp : HP} {dn : Nat → Prop} {me ck d : Nat} {e : Env}
theorem clr_out (hi : HInv R w hp ck dn) (he : EnvRep R w a e) {as_ : Array Operand} {ts : Array TypeId} {t el : TypeId} {x : Operand} {x' : Opd} (ho : o.op = .call { callee := .builtin .clear, args := as_, argTypes := ts }) (ha : as_.toList = [x]) (hts : ts.toList = [t]) (ht : P.underlying t = some (.slice el))
    {n : Nat} {z : Value} (hz : zeroOf P el = some z) (hn0 : 0 < n) (hzs : z.cells.size = n) (hz1 : z.cells.all (·.oneCell') = true) (hx : compOpd x = some x') {hp' : HP} (hr : clr hp n (x'.ev e) = some hp') :
    Out P o a R w hp dn me .un hp' ck := by
  have rx := opd_rep he hx
  have ha' : as_ = #[x] := by cases as_; simp at ha; simp [ha]
  have ht' : ts = #[t] := by cases ts; simp at hts; simp [hts]
  have hrun : ∀ v w', (Builtin.clear_ #[t] o.type #[a.eval x]).run P w = .ok v w' → (execOp a.eval o).run P w = .ok (.value v) w' := by
    intro v w' h
    simp [execOp, ho, ha', ht', resolve, invoke, builtin, h]
  have hzr : (zeroValue el).run P w = .ok z w := run_zeroOf hz w
  unfold clr at hr
  split at hr
  · rename_i k sz off len h1
    split at hr
    · rename_i ty sz2 els hk
      by_cases hc : sz = n ∧ sz2 = n ∧ off + len ≤ els.length
      · rw [if_pos hc] at hr
        cases hr
        obtain ⟨rfl, rfl, hle⟩ := hc
        rw [h1] at rx
        have hob := hi.ob _ _ hk
        rcases repV_ow rx with ⟨g, tot, A, cap, hv, hμ, hl, hcap, hA⟩ | ⟨hv, hμ, rfl, rfl⟩
        · rw [hv] at hrun
          rcases hob with ⟨b1, _⟩ | ⟨g', tot', arr, b1, b2, b3, b4, b5, b6, b7, b8, b9⟩
          · rw [hμ] at b1; cases b1
          · rw [hμ] at b1
            cases b1
            rcases Nat.eq_zero_or_pos len with h0 | h0
            · subst h0
              obtain ⟨s1, s2⟩ := put_step (me := me) (w' := w) hi k k (.row ty sz2 els false) (.row ty sz2 (els.take off) false) hk rfl (some (g, tot)) (.inl ⟨rfl, hμ⟩) rfl rfl rfl (Nat.le_refl _)
                (fun q hq hne => rfl) (fun g' n2 h => .inr ⟨tot, by cases h; exact hμ⟩) rfl
                (fun hag => .inr ⟨g, tot, arr, updμ_same _ _ _, b2, b3, by simp; omega, b5, fun q hq => b6 q (List.mem_of_mem_take hq), b7, fun i j t' ht' => (by
                    obtain ⟨c, hc1, hc2⟩ := at2_elim ht'
                    rw [List.getElem?_take] at hc1
                    by_cases hi1 : i < off
                    · rw [if_pos hi1] at hc1
                      exact (b8 _ _ _ (at2_some hc1 hc2)).mono hag.S hag.hS
                    · rw [if_neg hi1] at hc1; cases hc1), by simp⟩)
              refine Out.of (.tuple #[]) w _ (.inl (hrun _ _ ?_)) (.un _) s1 s2
              cases A <;> simp [Builtin.clear_, run_underlying ht]
            · have hA' := hA (by omega)
              subst hA'
              have hcz : (Builtin.zeroCells z.cells len).size = len * sz2 := by rw [size_zeroCells, hzs]
              have hfit : (off + len) * sz2 ≤ arr.size := by
                rw [b3]
                exact Nat.mul_le_mul_right _ (by omega)
              rw [Nat.add_mul] at hfit
              have hst := run_storeCells_row P g (off * sz2) ty (Builtin.zeroCells z.cells len).toList 0 arr w b2 (by simp only [Nat.add_zero, Array.length_toList, hcz]; exact hfit) (fun v hv => by
                obtain ⟨j, hj, rfl⟩ := List.getElem_of_mem hv
                have hj' : j < (Builtin.zeroCells z.cells len).size := by simpa using hj
                have := zeroCells_one z.cells hz1 (by omega) len j hj'
                rwa [Array.getD_eq_getD_getElem?, Array.getElem?_eq_getElem hj', Option.getD_some] at this)
              simp only [Nat.add_zero] at hst
              have hcur : off * sz2 + (Builtin.zeroCells z.cells len).toList.length ≤ arr.toList.length := by rw [Array.length_toList, Array.length_toList, hcz]; exact hfit
              generalize hA2 : (arr.toList.take (off * sz2) ++ (Builtin.zeroCells z.cells len).toList ++ arr.toList.drop (off * sz2 + (Builtin.zeroCells z.cells len).toList.length)).toArray = A2 at hst
              have hsz2 : A2.size = arr.size := by rw [← hA2]; exact (splice_size _ _ _ hcur).trans Array.length_toList
              have hget : ∀ j, A2.getD j undef = if off * sz2 ≤ j ∧ j < off * sz2 + len * sz2 then (Builtin.zeroCells z.cells len).toList.getD (j - off * sz2) undef else arr.getD j undef := by
                intro j
                rw [← hA2, splice_get _ _ _ _ hcur, Array.length_toList, hcz]
                simp only [arr_getD]
              obtain ⟨s1, s2⟩ := put_step (me := me) (w' := w.setRow g A2) hi k k (.row ty sz2 els false) (.row ty sz2 (els.take off) false) hk rfl (some (g, tot)) (.inl ⟨rfl, hμ⟩) rfl rfl rfl (by simp)
                (fun q hq hne => setRow_hold _ _ _ _ (fun h => hne tot (by rw [h]; exact hμ))) (fun g' n2 h => .inr ⟨tot, by cases h; exact hμ⟩) rfl
                (fun hag => .inr ⟨g, tot, A2, updμ_same _ _ _, b2.set hsz2, by rw [hsz2]; exact b3, by simp; omega, b5, fun q hq => b6 q (List.mem_of_mem_take hq), fun j hj => by
                    rw [hsz2] at hj
                    rw [hget]
                    by_cases h : off * sz2 ≤ j ∧ j < off * sz2 + len * sz2
                    · rw [if_pos h]
                      have := zeroCells_one z.cells hz1 (by omega) len (j - off * sz2) (by omega)
                      rwa [arr_getD]
                    · rw [if_neg h]; exact b7 _ hj, fun i j t' ht' => (by
                    obtain ⟨c, hc1, hc2⟩ := at2_elim ht'
                    rw [List.getElem?_take] at hc1
                    by_cases hi1 : i < off
                    · rw [if_pos hi1] at hc1
                      have hcs := b6 c (List.mem_of_getElem? hc1)
                      have hj1 := (List.getElem?_eq_some_iff.1 hc2).1
                      have hlt : i * sz2 + j < off * sz2 := mul_lt (by omega) (by omega)
                      rw [hget, if_neg (by omega)]
                      exact (b8 _ _ _ (at2_some hc1 hc2)).mono hag.S hag.hS
                    · rw [if_neg hi1] at hc1; cases hc1), by simp⟩)
              refine Out.of (.tuple #[]) _ _ (.inl (hrun _ _ ?_)) (.un _) s1 s2
              cases len with
              | zero => omega
              | succ m =>
                simp [Builtin.clear_, run_underlying ht, hzr, hst]
        · rw [hv] at hrun
          have hels : els.take 0 = [] := rfl
          obtain ⟨s1, s2⟩ := put_step (me := me) (w' := w) hi k k (.row ty sz2 els false) (.row ty sz2 (els.take 0) false) hk rfl none (.inl ⟨rfl, hμ⟩) rfl rfl rfl (Nat.le_refl _)
            (fun q hq hne => rfl) (fun g' n2 h => by cases h) rfl
            (fun hag => .inl ⟨updμ_same _ _ _, rfl⟩)
          refine Out.of (.tuple #[]) w _ (.inl (hrun _ _ ?_)) (.un _) s1 s2
          simp [Builtin.clear_, run_underlying ht]
      · rw [if_neg hc] at hr; cases hr
    · cases hr
  · cases hr
theorem sbs_out (hi : HInv R w hp ck dn) (hd : ¬ dn me) (he : EnvRep R w a e) {s dt el : TypeId} {x : Operand} {x' : Opd} (ho : o.op = .convert s dt x) (hs : P.underlying s = some .string) (hel : P.underlying el = some (.int .u8)) (hdt : P.underlying dt = some (.slice el)) (hx : compOpd x = some x') {y : List UInt8} (hv : x'.ev e = .t (.s y)) (hl : y.length ≤ 140737488355328) :
    Out P o a R w hp dn me (.ow ⟨d, ck, me⟩ 1 0 y.length) ((⟨d, ck, me⟩, .row el 1 (bytesT y) false) :: hp) ck := by
  have rx := opd_rep he hx
  rw [hv] at rx
  obtain ⟨z, hz1, hz2⟩ := repV_s rx
  have hzl : z.size = y.length := by rw [← hz2]; simp
  have h := run_bytes_of_string (P := P) w s dt el z hs hdt hel
  have hge := grownCap_ge w z.size 0 el
  have hle := grownCap_le_maxLen w z.size 0 el (by simp only [maxLen]; omega)
  generalize hG : grownCap w z.size 0 el = G at h hge hle
  have hasz : (bytesRow z G).size = G := by
    simp only [bytesRow, Array.size_append, Array.size_map, Array.size_replicate]
    have : z.data.size = z.size := rfl
    omega
  have hget : ∀ j, (bytesRow z G).getD j undef = if j < z.size then .int .u8 (y.getD j 0).toNat else if j < G then .int .u8 0 else undef := by
    intro j
    have hsz : z.data.size = z.size := rfl
    rw [Array.getD_eq_getD_getElem?]
    simp only [bytesRow, Array.getElem?_append, Array.size_map]
    by_cases h1 : j < z.size
    · have h1' : j < y.length := by omega
      rw [if_pos (by omega), if_pos h1, Array.getElem?_map, Array.getElem?_eq_getElem (by omega), Option.map_some, Option.getD_some]
      have : z.data[j] = y.getD j 0 := by
        rw [List.getD_eq_getElem?_getD, ← hz2, Array.getElem?_toList, Array.getElem?_eq_getElem (by omega), Option.getD_some]
      rw [this]
    · rw [if_neg (by omega), if_neg h1]
      by_cases h2 : j < G
      · rw [if_pos h2, Array.getElem?_replicate, if_pos (by omega), Option.getD_some]
      · rw [if_neg h2, Array.getElem?_replicate, if_neg (by omega), Option.getD_none]
  generalize hC : bytesRow z G = C at h hasz hget
  have hh : (w.drew.alloc (.cells C el (C.size, C.size + 1))).heap = w.heap.push (.cells C el (C.size, C.size + 1)) := rfl
  have hold : ∀ g, g < w.heap.size → (w.drew.alloc (.cells C el (C.size, C.size + 1))).heap[g]? = w.heap[g]? := fun g hg => by rw [hh, Array.getElem?_push, if_neg (by omega)]
  have hnew : RowAt (w.drew.alloc (.cells C el (C.size, C.size + 1))) w.heap.size C el := ⟨(C.size, C.size + 1), by rw [hh]; simp, fun j hj => by simp; omega⟩
  obtain ⟨g1, g2⟩ := alloc_step (w' := w.drew.alloc (.cells C el (C.size, C.size + 1))) hi hd ⟨d, ck, me⟩ ⟨rfl, rfl⟩ (some (w.heap.size, G)) (.row el 1 (bytesT y) false) rfl rfl rfl (by rw [hh]; simp) hold (by intro g n h; cases h; exact Nat.le_refl _)
    (fun ha => .inr ⟨w.heap.size, G, C, updμ_same _ _ _, hnew, by rw [hasz, Nat.mul_one], by simp [bytesT]; omega, hle, by intro c hc; simp [bytesT] at hc; obtain ⟨b, _, rfl⟩ := hc; rfl, fun j hj => by
        rw [hget]
        rw [hasz] at hj
        by_cases h1 : j < z.size
        · rw [if_pos h1]; rfl
        · rw [if_neg h1, if_pos hj]; rfl, fun i j t ht => by
        obtain ⟨c, hc1, hc2⟩ := at2_elim ht
        simp only [bytesT, List.getElem?_map] at hc1
        cases hy : y[i]? with
        | none => rw [hy] at hc1; cases hc1
        | some b =>
          rw [hy] at hc1
          cases hc1
          have hj := (List.getElem?_eq_some_iff.1 hc2).1
          obtain rfl : j = 0 := by simpa using hj
          cases hc2
          simp only [Nat.add_zero]
          have hil := (List.getElem?_eq_some_iff.1 hy).1
          rw [Nat.mul_one, hget, if_pos (by omega), List.getD_eq_getElem?_getD, hy]
          exact .i _ _, by simp⟩)
  refine Out.of _ _ _ (.inl ?_) (.ow _ _ _ _ w.heap.size G _ G (updμ_same _ _ _) (by omega) (by omega) (fun _ => by rw [Nat.zero_mul])) g1 g2
  rw [← hzl]
  simp [execOp, ho, hz1, h]
end
end
section
def Pls (place : Nat → Option (Nat × Nat)) : List (Nat × Operand) → List (Nat × Nat × Operand) → Prop
  | [], [] => True
  | (i, x) :: L, (o, n, y) :: pl => place i = some (o, n) ∧ y = x ∧ Pls place L pl
  | _, _ => False
theorem placeS_pls (pls : List (Nat × Nat)) : ∀ (L : List (Nat × Operand)) (pl : List (Nat × Nat × Operand)), placeS pls L = some pl → Pls (fun i => pls.toArray[i]?) L pl
  | [], pl, h => by simp [placeS] at h; subst h; trivial
  | (i, x) :: L, pl, h => by
    simp only [placeS] at h
    cases h1 : pls[i]? with
    | none => simp [h1] at h
    | some p =>
      cases h2 : placeS pls L with
      | none => simp [h1, h2] at h
      | some ys =>
        simp [h1, h2] at h
        subst h
        exact ⟨by simp [h1], rfl, placeS_pls pls L ys h2⟩
theorem placeA_pls (n : Nat) : ∀ (L : List (Nat × Operand)), Pls (fun i => some (i * n, n)) L (placeA n L)
  | [] => trivial
  | (i, x) :: L => ⟨rfl, rfl, placeA_pls n L⟩
section
variable {P : Program} {o : Oper} {a : Act} {R : Rl} {w : World} {hp : HP} {dn : Nat → Prop} {me ck d : Nat} {e : Env}
def CellsRep (R : Rl) (w : World) (C : Array Value) (zs : List V) : Prop := C.size = zs.length ∧ (∀ j, j < C.size → (C.getD j undef).oneCell' = true) ∧ ∀ j v, zs[j]? = some v → RepV R w (C.getD j undef) v
theorem fill_rep (he : EnvRep R w a e) (place : Nat → Option (Nat × Nat)) : ∀ (L : List (Nat × Operand)) (pl : List (Nat × Nat × Operand)) (pl' : List (Nat × Nat × Opd)) (C : Array Value) (zs r : List V), Pls place L pl → placesOf P pl = some pl' → CellsRep R w C zs → buildV zs e pl' = some r →
    ∃ C', Instr.fill place C (L.map fun p => (p.1, a.eval p.2)) = some C' ∧ CellsRep R w C' r
  | [], [], pl', C, zs, r, _, h, hc, hr => by
    simp [placesOf] at h
    subst h
    simp [buildV] at hr
    subst hr
    exact ⟨C, rfl, hc⟩
  | [], _ :: _, pl', C, zs, r, hp, h, hc, hr => by simp [Pls] at hp
  | _ :: _, [], pl', C, zs, r, hp, h, hc, hr => by simp [Pls] at hp
  | (i, x) :: L, (of, n, y) :: pl, pl', C, zs, r, hp, h, hc, hr => by
    obtain ⟨hp1, rfl, hp3⟩ := hp
    simp only [placesOf] at h
    cases h1 : compOpd y with
    | none => simp [h1] at h
    | some y' =>
      cases h2 : placesOf P pl with
      | none => simp [h1, h2] at h
      | some ys =>
        simp [h1, h2] at h
        subst h
        simp only [buildV] at hr
        cases h3 : cells (y'.ev e) with
        | none => simp [h3] at hr
        | some cs =>
          simp only [h3] at hr
          by_cases hl : cs.length = n ∧ of + n ≤ zs.length
          · rw [if_pos hl] at hr
            obtain ⟨rfl, hle⟩ := hl
            obtain ⟨c1, c2, c3⟩ := cells_rep (opd_rep he h1) h3
            obtain ⟨z1, z2, z3⟩ := hc
            obtain ⟨g1, g2⟩ := Great.foldl_set of (a.eval y).cells.toList 0 C
            have hlt : (a.eval y).cells.toList.length = cs.length := by simpa using c1
            have hget : ∀ k, (((a.eval y).cells.toList.zipIdx 0).foldl (fun cs (x : Value × Nat) => cs.setIfInBounds (of + x.2) x.1) C).getD k undef = if of ≤ k ∧ k < of + cs.length then (a.eval y).cells.getD (k - of) undef else C.getD k undef := by
              intro k
              rw [Array.getD_eq_getD_getElem?, g2 k, hlt]
              by_cases hk : of ≤ k ∧ k < of + cs.length
              · rw [if_pos (by omega), if_pos hk]
                rw [Nat.add_zero, ← arr_getD, List.getD_eq_getElem?_getD]
              · rw [if_neg (by omega), if_neg hk, Array.getD_eq_getD_getElem?]
            obtain ⟨C', f1, f2⟩ := fill_rep he place L pl ys (((a.eval y).cells.toList.zipIdx 0).foldl (fun cs (x : Value × Nat) => cs.setIfInBounds (of + x.2) x.1) C) (over zs of cs) r hp3 h2
              ⟨by rw [g1, over_length, z1], fun j hj => by
                rw [g1] at hj
                rw [hget]
                by_cases hk : of ≤ j ∧ j < of + cs.length
                · rw [if_pos hk]; exact c2 _ (by omega)
                · rw [if_neg hk]; exact z2 j hj, fun j v hv => by
                rw [over_get _ _ _ _ hle] at hv
                rw [hget]
                by_cases hk : of ≤ j ∧ j < of + cs.length
                · rw [if_pos hk] at hv ⊢; exact c3 _ _ hv
                · rw [if_neg hk] at hv ⊢; exact z3 _ _ hv⟩ hr
            refine ⟨C', ?_, f2⟩
            simp only [List.map_cons]
            unfold Instr.fill
            simp only [hp1]
            rw [if_neg (by simp [c1]; omega), ← f1]
            congr 1
            rw [← Array.foldl_toList, Array.toList_zipIdx]
          · rw [if_neg hl] at hr; cases hr
theorem build_out (hi : HInv R w hp ck dn) (he : EnvRep R w a e) {t : TypeId} {ps : Array (Nat × Operand)} (ho : o.op = .build t ps) {z : Value} (hz : zeroOf P t = some z) {zs : List V} (hzs : constCs z.cells.toList = some zs) {pl : List (Nat × Nat × Operand)} {pl' : List (Nat × Nat × Opd)}
    (hk : (∃ fs fo, P.underlying t = some (.struct fs) ∧ fieldsOf P fs = some fo ∧ placeS fo ps.toList = some pl) ∨ (∃ len el n, P.underlying t = some (.array len el) ∧ szOf P el = some n ∧ placeA n ps.toList = pl)) (hpl : placesOf P pl = some pl') {r : List V} (hr : buildV zs e pl' = some r) :
    Out P o a R w hp dn me (.ag r) hp ck := by
  obtain ⟨hl, hrep⟩ := constCs_rep (R := R) (w := w) _ _ hzs
  have hc0 : CellsRep R w z.cells zs := by
    have hl' : z.cells.size = zs.length := by simpa using hl
    refine ⟨hl', fun j hj => ?_, fun j x hx => ?_⟩
    · have := (hrep j _ (List.getElem?_eq_getElem (by omega))).2
      rwa [arr_getD] at this
    · have := (hrep j x hx).1
      rwa [arr_getD] at this
  have hinfo : ∃ it, P.info? t = some it ∧ it.zero = some z := by
    unfold zeroOf at hz
    cases hit : P.info? t with
    | none => simp [hit] at hz
    | some it => simp [hit] at hz; exact ⟨it, rfl, hz⟩
  obtain ⟨it, hit, hiz⟩ := hinfo
  have hb : ∃ C', P.built t (ps.map fun p => (p.1, a.eval p.2)).toList = some C' ∧ CellsRep R w C' r := by
    rcases hk with ⟨fs, fo, ht, hfo, hps⟩ | ⟨len, el, n, ht, hn, rfl⟩
    · obtain ⟨C', f1, f2⟩ := fill_rep (P := P) he (fun i => fo.toArray[i]?) ps.toList pl pl' z.cells zs r (placeS_pls fo _ _ hps) hpl hc0 hr
      refine ⟨C', ?_, f2⟩
      unfold fieldsOf at hfo
      unfold Program.built
      simp only [hit, ht, hiz, hfo, Array.toList_map]
      exact f1
    · obtain ⟨C', f1, f2⟩ := fill_rep (P := P) he (fun i => some (i * n, n)) ps.toList _ pl' z.cells zs r (placeA_pls n _) hpl hc0 hr
      refine ⟨C', ?_, f2⟩
      have hie : ∃ ie, P.info? el = some ie ∧ ie.size = n := by
        unfold szOf at hn
        cases hie : P.info? el with
        | none => simp [hie] at hn
        | some ie => simp [hie] at hn; exact ⟨ie, rfl, hn⟩
      obtain ⟨ie, hie, rfl⟩ := hie
      unfold Program.built
      simp only [hit, ht, hiz, hie, Array.toList_map]
      exact f1
  obtain ⟨C', hb, hcr⟩ := hb
  have hrun := run_build (P := P) w t (ps.map fun p => (p.1, a.eval p.2)) C' hb
  refine Out.pure hi (.agg C') ?_ (.ag C' r hcr.1 hcr.2.1 hcr.2.2)
  simp only [execOp, ho]
  rw [Sem.run_bind, hrun]
  rfl
theorem u8s_get : ∀ (xs : List (List T)) (r : List UInt8), u8s xs = some r → ∃ ns : List Int, r = ns.map (fun n => UInt8.ofNat n.toNat) ∧ ns.length = xs.length ∧ ∀ (i : Nat) (n : Int), ns[i]? = some n → at2 xs i 0 = some (.i .u8 n)
  | [], r, h => by simp [u8s] at h; subst h; exact ⟨[], rfl, rfl, by simp⟩
  | c :: xs, r, h => by
    unfold u8s at h
    split at h
    · rename_i heq; cases heq
    · rename_i n xs' heq
      cases heq
      cases h1 : u8s xs with
      | none => simp [h1] at h
      | some x =>
        simp [h1] at h
        subst h
        obtain ⟨ns, e1, e2, e3⟩ := u8s_get xs x h1
        refine ⟨n :: ns, by simp [e1], by simp [e2], fun i m hm => ?_⟩
        cases i with
        | zero => simp at hm; subst hm; simp [at2]
        | succ i => have := e3 i m (by simpa using hm); simpa [at2] using this
    · cases h
theorem push_toList (ns : List Int) (s : ByteArray) : (ns.foldl (fun r n => r.push (UInt8.ofNat n.toNat)) s).data.toList = s.data.toList ++ ns.map (fun n => UInt8.ofNat n.toNat) := by
  induction ns generalizing s with
  | nil => simp
  | cons n ns ih =>
    simp only [List.foldl_cons, ih, List.map_cons]
    simp [ByteArray.push]
theorem cvbs_out (hi : HInv R w hp ck dn) (he : EnvRep R w a e) {s dt el : TypeId} {x : Operand} {x' : Opd} (ho : o.op = .convert s dt x) (hs : P.underlying s = some (.slice el)) (hel : P.underlying el = some (.int .u8)) (hd : P.underlying dt = some .string) (hx : compOpd x = some x') {xs : List (List T)} (hxs : elsOf hp 1 (x'.ev e) = some xs) {r : List UInt8} (hr : u8s xs = some r) :
    Out P o a R w hp dn me (.t (.s r)) hp ck := by
  obtain ⟨A, c, news, hv, hc, hsz, n1, n2, n3, n4, n5⟩ := els_rep hi (opd_rep he hx) (by omega) hxs
  obtain ⟨ns, e1, e2, e3⟩ := u8s_get xs r hr
  have hnews : news = ns.map (Value.int .u8) := by
    apply List.ext_getElem?
    intro i
    rw [List.getElem?_map]
    cases hn : ns[i]? with
    | none =>
      have := List.getElem?_eq_none_iff.1 hn
      rw [List.getElem?_eq_none (by omega)]
      rfl
    | some n =>
      have hlt := (List.getElem?_eq_some_iff.1 hn).1
      have := n5 i 0 _ (e3 i n hn)
      rw [Nat.mul_one, Nat.add_zero] at this
      have h2 : news.getD i undef = .int .u8 n := by generalize news.getD i undef = u at this; cases this; rfl
      rw [List.getD_eq_getElem?_getD, List.getElem?_eq_getElem (by omega)] at h2
      rw [List.getElem?_eq_getElem (by omega)]
      simpa using h2
  have hconv : (execOp a.eval o).run P w = ((do let v ← Conv.bytesToString (a.eval x); pure (Next.value v) : Sem Next)).run P w := by
    simp only [execOp, ho]
    rw [hv, Sem.run_bind, run_convert_bytes_string w s dt el A _ c hs hel hd, Sem.run_bind]
  cases A with
  | none =>
    have h0 : xs.length = 0 := by
      rcases Nat.eq_zero_or_pos xs.length with h | h
      · exact h
      · obtain ⟨ad, h⟩ := n3 h; cases h
    have hns : ns = [] := List.eq_nil_of_length_eq_zero (by omega)
    subst hns
    subst e1
    refine Out.pure hi (.string .empty) ?_ (.t (.s _ _ rfl))
    rw [hconv, hv]
    simp [Conv.bytesToString]
  | some ad =>
    have hload : (loadCells ad xs.length).run P w = .ok (ns.map (Value.int .u8)).toArray w := by
      have := run_loadCells_list (P := P) w ad news (n2 ad rfl)
      rw [n1, Nat.mul_one, hnews] at this
      exact this
    refine Out.pure hi (.string (ns.foldl (fun r n => r.push (UInt8.ofNat n.toNat)) ByteArray.empty)) ?_ (.t (.s _ _ ?_))
    · rw [hconv, hv, Sem.run_bind, run_bytesToString w ad xs.length c ns hload]
      rfl
    · rw [push_toList, e1]; rfl
end
end
section
def CPost (R : Rl) (w : World) (h : HP) (r : V) (h' : HP) (ck' : Nat) (dn : Nat → Prop) : Ending → World → Prop := fun e w' => ∃ v R', e = .returned v ∧ RepV R' w' v r ∧ Grow R w h R' w' h' ∧ HInv R' w' h' ck' dn
def ArgsRep (R : Rl) (w : World) (us : Array Value) (args : List V) : Prop := us.size = args.length ∧ ∀ j v, args[j]? = some v → RepV R w (us.getD j undef) v
def RunOk (P : Program) (run : Run) : Prop := ∀ f args h ck r h' ck', run f args h ck = some (r, h', ck') → ∀ R w us, HInv R w h ck (fun _ => False) → ArgsRep R w us args → goodFn P f = true ∧ Calls P f us w (CPost R w h r h' ck' (fun _ => False))
theorem HInv.ck {R w hp ck dn} (hi : HInv R w hp ck dn) (ck' : Nat) (h : ck < ck') (dn' : Nat → Prop) : HInv R w hp ck' dn' :=
  ⟨hi.ob, hi.sep, hi.own, hi.sS, hi.sB, fun k p hk => .inl (by rcases hi.fr k p hk with h1 | h1 <;> omega), hi.nd, hi.gl⟩
theorem take_step {R : Rl} {w w' : World} {hp : HP} {ck me : Nat} {dn : Nat → Prop} (hi : HInv R w hp ck dn) (hd : ¬ dn me) (k : Key) (hk : k.c = ck ∧ k.o = me) (p : Option (Nat × Nat)) (ob : Ob) (Q : Nat → Prop)
    (hos : w'.os = w.os) (htp : w'.tape = w.tape) (hout : w'.output = w.output) (hsz : w.heap.size ≤ w'.heap.size) (hold : ∀ g, g < w.heap.size → w'.heap[g]? = w.heap[g]?)
    (hQ : ∀ g, Q g → w.heap.size ≤ g ∧ g < w'.heap.size) (hQp : ∀ g n, p = some (g, n) → ¬ Q g) (hpB : ∀ g n, p = some (g, n) → w.heap.size ≤ g)
    (hob : Agree R w { (R.withS Q) with μ := updμ R.μ k p } w' → ObRel { (R.withS Q) with μ := updμ R.μ k p } w' k ob) :
    Grow R w hp { (R.withS Q) with μ := updμ R.μ k p } w' ((k, ob) :: hp) ∧ HInv { (R.withS Q) with μ := updμ R.μ k p } w' ((k, ob) :: hp) ck (plus dn me) := by
  obtain ⟨hf, hn⟩ := hi.fresh hk.1 (by rw [hk.2]; exact hd)
  have hμ : ∀ q p', R.μ q = some p' → updμ R.μ k p q = some p' := by
    intro q p' hq
    rw [updμ_other _ _ _ _ (by rintro rfl; rw [hf] at hq; cases hq)]
    exact hq
  have ha : Agree R w { (R.withS Q) with μ := updμ R.μ k p } w' := ⟨fun _ h => .inl h, fun _ h => h, hμ, fun g hg => hold g (hi.sS g hg), fun g hg => hold g (hi.sB g hg)⟩
  have hgc : ∀ q, HP.get ((k, ob) :: hp) q = if k = q then some ob else hp.get q := fun q => rfl
  have hown : ∀ g, Own { (R.withS Q) with μ := updμ R.μ k p } ((k, ob) :: hp) g → (∃ n, p = some (g, n)) ∨ Own R hp g := by
    rintro g ⟨q, o, n, h1, h2, h3⟩
    rw [hgc] at h1
    by_cases e : k = q
    · subst e
      simp only [updμ_same] at h3
      exact .inl ⟨n, Option.some.inj h3⟩
    · rw [if_neg e] at h1
      simp only [updμ_other _ _ _ _ (Ne.symm e)] at h3
      exact .inr ⟨q, o, n, h1, h2, h3⟩
  refine ⟨⟨hos, htp, hout, hsz, fun g hg _ => hold g hg, fun _ h => .inl h, rfl, hμ, fun g h => h.imp id fun h => .inl (hQ g h).1, fun g h => (hown g h).imp (fun ⟨n, h⟩ => hpB g n h) id⟩, ?_⟩
  constructor
  · intro q o hq
    rw [hgc] at hq
    by_cases e : k = q
    · subst e
      rw [if_pos rfl] at hq
      cases hq
      exact hob ha
    · rw [if_neg e] at hq
      exact (hi.ob q o hq).mono ha (fun g n hg => hold g ((hi.ob q o hq).lt hg))
  · intro k1 k2 o1 o2 g n1 n2 h1 h2 hl hm1 hm2
    rw [hgc] at h1 h2
    by_cases e1 : k = k1
    · by_cases e2 : k = k2
      · exact e1.symm.trans e2
      · subst e1
        rw [if_neg e2] at h2
        simp only [updμ_same] at hm1
        simp only [updμ_other _ _ _ _ (Ne.symm e2)] at hm2
        have := hpB g n1 (Option.some.inj hm1)
        have := (hi.ob k2 o2 h2).lt hm2
        omega
    · rw [if_neg e1] at h1
      simp only [updμ_other _ _ _ _ (Ne.symm e1)] at hm1
      by_cases e2 : k = k2
      · subst e2
        simp only [updμ_same] at hm2
        have := hpB g n2 (Option.some.inj hm2)
        have := (hi.ob k1 o1 h1).lt hm1
        omega
      · rw [if_neg e2] at h2
        simp only [updμ_other _ _ _ _ (Ne.symm e2)] at hm2
        exact hi.sep k1 k2 o1 o2 g n1 n2 h1 h2 hl hm1 hm2
  · intro g hg
    rcases hown g hg with ⟨n, h⟩ | h
    · have := hpB g n h
      refine ⟨?_, fun hs => by have := hi.sB g hs; omega⟩
      rintro (hs | hs)
      · have := hi.sS g hs; omega
      · exact hQp g n h hs
    · refine ⟨?_, (hi.own g h).2⟩
      rintro (hs | hs)
      · exact (hi.own g h).1 hs
      · obtain ⟨q, o, n, h1, h2, h3⟩ := h
        have := (hi.ob q o h1).lt h3
        have := (hQ g hs).1
        omega
  · rintro g (hg | hg)
    · exact Nat.lt_of_lt_of_le (hi.sS g hg) hsz
    · exact (hQ g hg).2
  · exact fun g hg => Nat.lt_of_lt_of_le (hi.sB g hg) hsz
  · intro q p' hq
    by_cases e : q = k
    · subst e
      exact .inr ⟨hk.1, .inr hk.2⟩
    · simp only [updμ_other _ _ _ _ e] at hq
      exact (hi.fr q p' hq).imp id fun h => ⟨h.1, .inl h.2⟩
  · simp only [List.map_cons, List.nodup_cons]
    exact ⟨hn, hi.nd⟩
  · exact gl_keep hi.gl ha
def boxAt (R : Rl) (hp : HP) (g : Nat) : Prop := ∃ k ty cs n, hp.get k = some (.box ty cs) ∧ R.μ k = some (some (g, n))
def pureR (R : Rl) (hp : HP) (ks : List Key) : Rl := ⟨fun g => R.S g ∨ rowsAt R hp ks g, fun g => R.B g ∨ boxAt R hp g, fun _ => none⟩
section
variable {R : Rl} {w : World} {hp : HP} {ck : Nat} {dn : Nat → Prop}
theorem pureR_inv (hi : HInv R w hp ck dn) (ks : List Key) : HInv (pureR R hp ks) w [] 0 (fun _ => False) := by
  constructor
  · intro k o h; cases h
  · intro k1 k2 o1 o2 g n1 n2 h; cases h
  · rintro g ⟨k, o, n, h, _⟩; cases h
  · rintro g (h | ⟨k, hk, ty, sz, els, fz, n, h1, h2⟩)
    · exact hi.sS g h
    · exact (hi.ob _ _ h1).lt h2
  · rintro g (h | ⟨k, ty, cs, n, h1, h2⟩)
    · exact hi.sB g h
    · exact (hi.ob _ _ h1).lt h2
  · intro k p h; cases h
  · exact List.nodup_nil
  · exact ⟨fun g hg => (hi.gl.1 g hg).imp .inl .inl, hi.gl.2⟩
theorem repT_nil (S : Nat → Prop) (w : World) : RepT S w (.slice none 0 0) (.l []) :=
  .l none 0 0 [] 0 0 0 (fun _ _ => undef) rfl (Nat.le_refl _) (by omega) (by omega) (by simp) (by intro i j t h; simp [at2] at h) (by intro i j t h; simp [at2] at h)
theorem flatMap_sub {α : Type} {f g : α → List Key} {l : List α} (h : ∀ x ∈ l, ∀ k ∈ f x, k ∈ g x) {k : Key} (hk : k ∈ l.flatMap f) : k ∈ l.flatMap g := by
  obtain ⟨x, hx, hk⟩ := List.mem_flatMap.1 hk
  exact List.mem_flatMap.2 ⟨x, hx, h x hx k hk⟩
theorem vkeys_sub1 (hp : HP) (v : V) {k : Key} (hk : k ∈ vkeys v) : k ∈ keysOf1 hp v := by cases v <;> simp [vkeys] at hk; simpa [keysOf1] using hk
theorem capOf_rep (hi : HInv R w hp ck dn) (ks : List Key) {u : Value} {v x : V} (h : RepV R w u v) (hc : capOf hp v = some x) (hk : ∀ k ∈ keysOf1 hp v, k ∈ ks) : RepV (pureR R hp ks) w u x := by
  unfold capOf at hc
  split at hc
  · cases hc; exact .t ((repV_tl h).mono (fun _ h => .inl h) (fun _ _ => rfl))
  · cases hc
    have : u = .slice none 0 0 := by cases h; rfl
    subst this
    exact .t (repT_nil _ _)
  · rename_i k sz off len
    cases ht : treeOf hp (.ow k sz off len) with
    | none => simp [ht] at hc
    | some t =>
      simp [ht] at hc
      subst hc
      exact .t (treeOf_rep hi (fun _ h => .inl h) h ht (fun g hg => .inr (rowsAt_sub (fun k' hk' => hk k' (vkeys_sub1 hp _ hk')) g hg)))
  · cases hc
    cases h with
    | pr g o cs f hB hcell hrep => exact .pr g o _ f (fun h => (hB h).imp .inl .inl) hcell (fun j t ht => (hrep j t ht).mono (fun _ h => .inl h) (fun _ _ => rfl))
  · rename_i k sz
    split at hc
    · rename_i ty cs hg
      split at hc
      · rename_i ts hts
        cases hc
        cases h with
        | pt _ _ _ _ g n hμ =>
          obtain ⟨g', n', arr, b1, b2, b3, b4, b5⟩ := hi.ob _ _ hg
          rw [hμ] at b1
          cases b1
          obtain ⟨t1, t2⟩ := treesOf_rep (f := fun j => arr.getD j undef) hi (S' := (pureR R hp ks).S) (fun _ h => .inl h) cs 0 (fun j v hv => by rw [Nat.zero_add]; exact b5 j v hv) hts (fun g' hg' => .inr (rowsAt_sub (fun k' hk' => hk k' (by
            simp only [keysOf1, hg]
            refine flatMap_sub (fun x _ k'' hk'' => ?_) hk'
            cases x <;> simp [vkeys] at hk''
            simpa using hk'')) g' hg'))
          rw [Nat.zero_mul, Nat.zero_add]
          refine .pr g 0 ts (fun j => arr.getD j undef) (fun _ => .inr (.inr ⟨k, ty, cs, n, hg, hμ⟩)) (fun j t ht => ?_) (fun j t ht => ?_)
          · rw [Nat.zero_add, cell_of_row w g j arr ty (0, 0) b2]
            exact getD_of_getElem? (by have := (List.getElem?_eq_some_iff.1 ht).1; omega)
          · have := t2 j t ht
            rwa [Nat.zero_add] at this
      · cases hc
    · cases hc
  · cases hc
theorem capsOf_rep (hi : HInv R w hp ck dn) (ks : List Key) {f : Nat → Value} : ∀ (vs xs : List V) (q : Nat), (∀ j v, vs[j]? = some v → RepV R w (f (q + j)) v) → capsOf hp vs = some xs → (∀ k ∈ vs.flatMap (keysOf1 hp), k ∈ ks) → xs.length = vs.length ∧ ∀ j x, xs[j]? = some x → RepV (pureR R hp ks) w (f (q + j)) x
  | [], xs, q, _, hc, _ => by simp [capsOf] at hc; subst hc; simp
  | v :: vs, xs, q, h, hc, hk => by
    simp only [capsOf] at hc
    cases h1 : capOf hp v with
    | none => simp [h1] at hc
    | some x =>
      cases h2 : capsOf hp vs with
      | none => simp [h1, h2] at hc
      | some ys =>
        simp [h1, h2] at hc
        subst hc
        obtain ⟨l1, l2⟩ := capsOf_rep hi ks vs ys (q + 1) (fun j v hv => by have := h (j + 1) v (by simpa using hv); rwa [show q + (j + 1) = q + 1 + j by omega] at this) h2 (fun k hk' => hk k (by simp only [List.flatMap_cons, List.mem_append]; exact .inr hk'))
        refine ⟨by simp [l1], fun j x' hj => ?_⟩
        cases j with
        | zero =>
          simp at hj
          subst hj
          exact capOf_rep hi ks (h 0 v rfl) h1 (fun k hk' => hk k (by simp only [List.flatMap_cons, List.mem_append]; exact .inl hk'))
        | succ j =>
          have := l2 j x' (by simpa using hj)
          rwa [show q + (j + 1) = q + 1 + j by omega]
theorem pureOf_rep (hi : HInv R w hp ck dn) (ks : List Key) {u : Value} {v x : V} (h : RepV R w u v) (hc : pureOf hp v = some x) (hk : ∀ k ∈ keysOf hp v, k ∈ ks) : RepV (pureR R hp ks) w u x := by
  unfold pureOf at hc
  split at hc
  · cases hc; exact .t ((repV_tl h).mono (fun _ h => .inl h) (fun _ _ => rfl))
  · cases hc
    have : u = .slice none 0 0 := by cases h; rfl
    subst this
    exact .t (repT_nil _ _)
  · rename_i k sz off len
    cases ht : treeOf hp (.ow k sz off len) with
    | none => simp [ht] at hc
    | some t =>
      simp [ht] at hc
      subst hc
      exact .t (treeOf_rep hi (fun _ h => .inl h) h ht (fun g hg => .inr (rowsAt_sub (fun k' hk' => hk k' (by simpa [vkeys, keysOf] using hk')) g hg)))
  · rename_i cs
    split at hc
    · rename_i ts hts
      cases hc
      cases h with
      | ag arr _ hn h1 h =>
        obtain ⟨t1, t2⟩ := treesOf_rep (f := fun j => arr.getD j undef) hi (S' := (pureR R hp ks).S) (fun _ h => .inl h) cs 0 (fun j v hv => by rw [Nat.zero_add]; exact h j v hv) hts (fun g' hg' => .inr (rowsAt_sub (fun k' hk' => hk k' (by
            simp only [keysOf]
            exact flatMap_sub (fun x _ k'' hk'' => vkeys_sub1 hp x hk'') hk')) g' hg'))
        refine .ag arr _ (by simp [t1, hn]) h1 (fun j v hv => ?_)
        rw [List.getElem?_map] at hv
        cases hj : ts[j]? with
        | none => simp [hj] at hv
        | some t =>
          simp [hj] at hv
          subst hv
          have := t2 j t hj
          rw [Nat.zero_add] at this
          exact .t this
    · cases hc
  · cases hc
    cases h with
    | pr g o cs f hB hcell hrep => exact .pr g o _ f (fun h => (hB h).imp .inl .inl) hcell (fun j t ht => (hrep j t ht).mono (fun _ h => .inl h) (fun _ _ => rfl))
  · exact capOf_rep hi ks h hc hk
  · rename_i f caps
    split at hc
    · rename_i cs hcs
      cases hc
      cases h with
      | fn _ arr _ hn h =>
        obtain ⟨l1, l2⟩ := capsOf_rep hi ks (f := fun j => arr.getD j undef) caps cs 0 (fun j v hv => by rw [Nat.zero_add]; exact h j v hv) hcs (fun k hk' => hk k (by simpa [keysOf] using hk'))
        exact .fn f arr cs (by rw [l1, hn]) (fun j v hv => by have := l2 j v hv; rwa [Nat.zero_add] at this)
    · cases hc
  · cases hc
theorem puresOf_rep (hi : HInv R w hp ck dn) (ks : List Key) {f : Nat → Value} : ∀ (vs xs : List V) (q : Nat), (∀ j v, vs[j]? = some v → RepV R w (f (q + j)) v) → puresOf hp vs = some xs → (∀ k ∈ vs.flatMap (keysOf hp), k ∈ ks) → xs.length = vs.length ∧ ∀ j x, xs[j]? = some x → RepV (pureR R hp ks) w (f (q + j)) x
  | [], xs, q, _, hc, _ => by simp [puresOf] at hc; subst hc; simp
  | v :: vs, xs, q, h, hc, hk => by
    simp only [puresOf] at hc
    cases h1 : pureOf hp v with
    | none => simp [h1] at hc
    | some x =>
      cases h2 : puresOf hp vs with
      | none => simp [h1, h2] at hc
      | some ys =>
        simp [h1, h2] at hc
        subst hc
        obtain ⟨l1, l2⟩ := puresOf_rep hi ks vs ys (q + 1) (fun j v hv => by have := h (j + 1) v (by simpa using hv); rwa [show q + (j + 1) = q + 1 + j by omega] at this) h2 (fun k hk' => hk k (by simp only [List.flatMap_cons, List.mem_append]; exact .inr hk'))
        refine ⟨by simp [l1], fun j x' hj => ?_⟩
        cases j with
        | zero =>
          simp at hj
          subst hj
          exact pureOf_rep hi ks (h 0 v rfl) h1 (fun k hk' => hk k (by simp only [List.flatMap_cons, List.mem_append]; exact .inl hk'))
        | succ j =>
          have := l2 j x' (by simpa using hj)
          rwa [show q + (j + 1) = q + 1 + j by omega]
def rowsAll (R : Rl) (hp : HP) (g : Nat) : Prop := ∃ k ty sz els fz n, hp.get k = some (.row ty sz els fz) ∧ R.μ k = some (some (g, n))
theorem rowsAll_of {ks : List Key} {g : Nat} (h : rowsAt R hp ks g) : rowsAll R hp g := by
  obtain ⟨k, _, r⟩ := h
  exact ⟨k, r⟩
theorem resOf1_rep (hi : HInv R w hp ck dn) {S' : Nat → Prop} (hS : ∀ g, R.S g → S' g) (hk : ∀ g, rowsAll R hp g → S' g) (B' : Nat → Prop) (μ' : Key → Option (Option (Nat × Nat))) {u : Value} {v x : V} (h : RepV R w u v) (hc : resOf1 hp v = some x) : RepV ⟨S', B', μ'⟩ w u x := by
  unfold resOf1 at hc
  split at hc
  · cases hc; exact .t ((repV_tl h).mono hS (fun _ _ => rfl))
  · cases hc
    have : u = .slice none 0 0 := by cases h; rfl
    subst this
    exact .t (repT_nil _ _)
  · rename_i k sz off len
    cases ht : treeOf hp (.ow k sz off len) with
    | none => simp [ht] at hc
    | some t =>
      simp [ht] at hc
      subst hc
      exact .t (treeOf_rep hi hS h ht (fun g hg => hk g (rowsAll_of hg)))
  · rename_i cs
    split at hc
    · rename_i ts hts
      cases hc
      cases h with
      | ag arr _ hn h1 h =>
        obtain ⟨t1, t2⟩ := treesOf_rep (f := fun j => arr.getD j undef) hi hS cs 0 (fun j v hv => by rw [Nat.zero_add]; exact h j v hv) hts (fun g' hg' => hk g' (rowsAll_of hg'))
        refine .ag arr _ (by simp [t1, hn]) h1 (fun j v hv => ?_)
        rw [List.getElem?_map] at hv
        cases hj : ts[j]? with
        | none => simp [hj] at hv
        | some t =>
          simp [hj] at hv
          subst hv
          have := t2 j t hj
          rw [Nat.zero_add] at this
          exact .t this
    · cases hc
  · cases hc
theorem resOfs_rep (hi : HInv R w hp ck dn) {S' : Nat → Prop} (hS : ∀ g, R.S g → S' g) (hk : ∀ g, rowsAll R hp g → S' g) (B' : Nat → Prop) (μ' : Key → Option (Option (Nat × Nat))) {f : Nat → Value} : ∀ (vs xs : List V) (q : Nat), (∀ j v, vs[j]? = some v → RepV R w (f (q + j)) v) → resOfs hp vs = some xs → xs.length = vs.length ∧ ∀ j x, xs[j]? = some x → RepV ⟨S', B', μ'⟩ w (f (q + j)) x
  | [], xs, q, _, hc => by simp [resOfs] at hc; subst hc; simp
  | v :: vs, xs, q, h, hc => by
    simp only [resOfs] at hc
    cases h1 : resOf1 hp v with
    | none => simp [h1] at hc
    | some x =>
      cases h2 : resOfs hp vs with
      | none => simp [h1, h2] at hc
      | some ys =>
        simp [h1, h2] at hc
        subst hc
        obtain ⟨l1, l2⟩ := resOfs_rep hi hS hk B' μ' vs ys (q + 1) (fun j v hv => by have := h (j + 1) v (by simpa using hv); rwa [show q + (j + 1) = q + 1 + j by omega] at this) h2
        refine ⟨by simp [l1], fun j x' hj => ?_⟩
        cases j with
        | zero =>
          simp at hj
          subst hj
          exact resOf1_rep hi hS hk B' μ' (h 0 v rfl) h1
        | succ j =>
          have := l2 j x' (by simpa using hj)
          rwa [show q + (j + 1) = q + 1 + j by omega]
theorem resOf_rep (hi : HInv R w hp ck dn) {S' : Nat → Prop} (hS : ∀ g, R.S g → S' g) (hk : ∀ g, rowsAll R hp g → S' g) (B' : Nat → Prop) (μ' : Key → Option (Option (Nat × Nat))) {u : Value} {v x : V} (h : RepV R w u v) (hc : resOf hp v = some x) : RepV ⟨S', B', μ'⟩ w u x := by
  unfold resOf at hc
  split at hc
  · rename_i vs
    split at hc
    · rename_i us hus
      cases hc
      cases h with
      | tu arr _ hn h =>
        obtain ⟨l1, l2⟩ := resOfs_rep hi hS hk B' μ' (f := fun j => arr.getD j undef) vs us 0 (fun j v hv => by rw [Nat.zero_add]; exact h j v hv) hus
        exact .tu arr us (by rw [l1, hn]) (fun j v hv => by have := l2 j v hv; rwa [Nat.zero_add] at this)
    · cases hc
  · exact resOf1_rep hi hS hk B' μ' h hc
theorem flatT_rep {S S' : Nat → Prop} {w : World} {u : Value} {t : T} (h : RepT S w u t) (hf : flatT t = true) : RepT S' w u t := by
  cases h with
  | b x => exact .b x
  | i k n => exact .i k n
  | s x y h => exact .s x y h
  | l => simp [flatT] at hf
  | np => exact .np
  | ni => exact .ni
  | er t v => exact .er t v
theorem flat1_rep {R R' : Rl} {w : World} {u : Value} {v : V} (h : RepV R w u v) (hf : flat1 v = true) : RepV R' w u v := by
  unfold flat1 at hf
  split at hf
  · exact .t (flatT_rep (repV_tl h) hf)
  · rename_i cs
    cases h with
    | ag arr _ hn h1 h =>
      refine .ag arr _ hn h1 (fun j v hv => ?_)
      have hm := List.all_eq_true.1 hf v (List.mem_of_getElem? hv)
      cases v with
      | t x => exact .t (flatT_rep (repV_tl (h j _ hv)) hm)
      | _ => simp at hm
  · cases hf
theorem flatV_rep {R R' : Rl} {w : World} {u : Value} {v : V} (h : RepV R w u v) (hf : flatV v = true) : RepV R' w u v := by
  unfold flatV at hf
  split at hf
  · rename_i vs
    cases h with
    | tu arr _ hn h =>
      exact .tu arr _ hn (fun j v hv => flat1_rep (h j v hv) (List.all_eq_true.1 hf v (List.mem_of_getElem? hv)))
  · exact flat1_rep h hf
end
end
section
section
variable {P : Program} {run : Run} {R : Rl} {w : World} {hp : HP} {dn : Nat → Prop} {me ck d : Nat}
theorem rowsAll_so {R : Rl} {w : World} {hp : HP} {ck : Nat} {dn : Nat → Prop} (hi : HInv R w hp ck dn) {g : Nat} (h : rowsAll R hp g) : R.S g ∨ Own R hp g := by
  obtain ⟨k, ty, sz, els, fz, n, h1, h2⟩ := h
  cases fz with
  | true =>
    rcases hi.ob _ _ h1 with ⟨h3, _⟩ | ⟨g', n', arr, h3, h4, h5, h6, h7, h8, h9, h10, h11⟩
    · rw [h3] at h2; cases h2
    · rw [h3] at h2
      cases h2
      exact .inl (h11 rfl)
  | false => exact .inr ⟨k, _, n, h1, rfl, h2⟩
structure PureOut (R : Rl) (w : World) (hp : HP) (ks : List Key) (R' : Rl) (w' : World) (h' : HP) : Prop where
  os : w'.os = w.os
  tape : w'.tape = w.tape
  output : w'.output = w.output
  size : w.heap.size ≤ w'.heap.size
  hold : ∀ g, g < w.heap.size → w'.heap[g]? = w.heap[g]?
  S : ∀ g, R'.S g → (R.S g ∨ rowsAt R hp ks g) ∨ w.heap.size ≤ g
  row : ∀ g, rowsAll R' h' g → (R.S g ∨ rowsAt R hp ks g) ∨ w.heap.size ≤ g
  own : ∀ g, Own R' h' g → w.heap.size ≤ g
theorem pureOut (ks : List Key) {R' : Rl} {w' : World} {h' : HP} {c' : Nat} {dn' : Nat → Prop} (hg : Grow (pureR R hp ks) w [] R' w' h') (hi' : HInv R' w' h' c' dn') : PureOut R w hp ks R' w' h' := by
  have hno : ∀ g, ¬ Own (pureR R hp ks) [] g := by rintro g ⟨k, o, n, h, _⟩; cases h
  have hS : ∀ g, R'.S g → (R.S g ∨ rowsAt R hp ks g) ∨ w.heap.size ≤ g := fun g h => by
    rcases hg.S' g h with h | h | h
    · exact .inl h
    · exact .inr h
    · exact absurd h (hno g)
  have hO : ∀ g, Own R' h' g → w.heap.size ≤ g := fun g h => (hg.own g h).elim id fun h => absurd h (hno g)
  exact ⟨hg.os, hg.tape, hg.output, hg.size, fun g hgg => hg.keep g hgg (hno g), hS, fun g h => (rowsAll_so hi' h).elim (hS g) fun h => .inr (hO g h), hO⟩
theorem call_pure {C : Cfg} (hrun : RunOk P run) (hi : HInv R w hp ck dn) {f : Nat} {args ps : List V} {us : Array Value} (ha : ArgsRep R w us args) (hps : puresOf hp args = some ps) {r : V} {h' : HP} (hr : callPure run f ps = some (r, h')) :
    goodFn P f = true ∧ Calls P f us w (fun e w' => ∃ v R' c', e = .returned v ∧ RepV R' w' v r ∧ HInv R' w' h' c' (fun _ => False) ∧ PureOut R w hp (args.flatMap (keysOf hp)) R' w' h') := by
  unfold callPure at hr
  cases h1 : run f ps [] 0 with
  | none => simp [h1] at hr
  | some x =>
    obtain ⟨r1, h1', c1⟩ := x
    simp [h1] at hr
    obtain ⟨rfl, rfl⟩ := hr
    obtain ⟨l1, l2⟩ := puresOf_rep hi (args.flatMap (keysOf hp)) (f := fun j => us.getD j undef) args ps 0 (fun j v hv => by rw [Nat.zero_add]; exact ha.2 j v hv) hps (fun k hk => hk)
    obtain ⟨g1, g2⟩ := hrun f ps [] 0 r1 h1' c1 h1 (pureR R hp (args.flatMap (keysOf hp))) w us (pureR_inv hi _) ⟨by rw [l1, ha.1], fun j v hv => by have := l2 j v hv; rwa [Nat.zero_add] at this⟩
    refine ⟨g1, g2.mono ?_⟩
    rintro e w' ⟨v, R', he, hv, hg, hinv⟩
    exact ⟨v, R', c1, he, hv, hinv, pureOut _ hg hinv⟩
theorem callEv_out {C : Cfg} (hrun : RunOk P run) {s : St} (hi : HInv R w s.hp s.ck dn) (hd : ¬ dn me) {f : Nat} {args : List V} {us : Array Value} (ha : ArgsRep R w us args) {r : V} {h' : HP} {ck' : Nat} (hr : callEv C run f args s ⟨d, s.ck, me⟩ = some (r, h', ck')) :
    goodFn P f = true ∧ Calls P f us w (CPost R w s.hp r h' ck' (plus dn me)) := by
  unfold callEv at hr
  by_cases hm : C.hpm f = true
  · rw [if_pos hm] at hr
    cases h1 : run f args s.hp (s.ck + 1) with
    | none => simp [h1] at hr
    | some x =>
      obtain ⟨r1, h1', c1⟩ := x
      simp [h1] at hr
      obtain ⟨rfl, rfl, rfl⟩ := hr
      obtain ⟨g1, g2⟩ := hrun f args s.hp (s.ck + 1) r1 h1' c1 h1 R w us (hi.ck _ (by omega) _) ha
      refine ⟨g1, g2.mono ?_⟩
      rintro e w' ⟨v, R', he, hv, hg, hinv⟩
      exact ⟨v, R', he, hv, hg, hinv.ck _ (by omega) _⟩
  · rw [if_neg hm] at hr
    cases hps : puresOf s.hp args with
    | none => simp [hps] at hr
    | some ps =>
      simp only [hps] at hr
      cases hcp : callPure run f ps with
      | none => simp [hcp] at hr
      | some x =>
        obtain ⟨r1, h1'⟩ := x
        simp only [hcp] at hr
        obtain ⟨g1, g2⟩ := call_pure (C := C) hrun hi ha hps hcp
        refine ⟨g1, g2.mono ?_⟩
        rintro e w' ⟨v, R', c', he, hv, hinv, po⟩
        obtain ⟨Ra, m1, m2, m3, f1, f2⟩ := freezeAll_step (args.flatMap (keysOf s.hp)) hi
        have hSz : ∀ g, R'.S g → g < w'.heap.size := hinv.sS
        split at hr
        · rename_i k sz off n hown
          split at hr
          · rename_i ty sz' els hk
            by_cases hc : sz' = sz ∧ off = 0 ∧ n = els.length
            · rw [if_pos hc] at hr
              cases hr
              obtain ⟨rfl, rfl, rfl⟩ := hc
              have hob := hinv.ob _ _ hk
              rcases repV_ow hv with ⟨g, tot, A, cap, rfl, hμ, hl, hcap, hA⟩ | ⟨rfl, hμ, _, hl0⟩
              · rcases hob with ⟨b1, _⟩ | ⟨g', n', arr, b1, b2, b3, b4, b5, b6, b7, b8, _⟩
                · rw [hμ] at b1; cases b1
                · rw [hμ] at b1
                  cases b1
                  obtain rfl : cap = tot := by omega
                  have hgo : Own R' h1' g := ⟨k, _, _, hk, rfl, hμ⟩
                  obtain ⟨s1, s2⟩ := take_step (w' := w') f2 hd ⟨d, s.ck, me⟩ ⟨rfl, rfl⟩ (some (g, cap)) (.row ty sz' els false) (fun g => R'.S g ∧ w.heap.size ≤ g) po.os po.tape po.output po.size po.hold (fun g h => ⟨h.2, hSz g h.1⟩) (fun g' n' h hq => by cases h; exact (hinv.own _ hgo).1 hq.1) (fun g' n' h => by cases h; exact po.own _ hgo)
                    (fun hag => .inr ⟨g, cap, arr, updμ_same _ _ _, b2, b3, b4, b5, b6, b7, fun i j t ht => (b8 i j t ht).mono (fun g hg => (po.S g hg).elim (fun h => .inl ((m3 g).2 h)) (fun h => .inr ⟨hg, h⟩)) (fun _ _ => rfl), by simp⟩)
                  exact ⟨_, _, he, .ow _ _ _ _ g cap A cap (updμ_same _ _ _) hl (by omega) hA, f1.trans s1, s2⟩
              · have hel : els = [] := List.eq_nil_of_length_eq_zero hl0
                subst hel
                obtain ⟨s1, s2⟩ := take_step (w' := w') f2 hd ⟨d, s.ck, me⟩ ⟨rfl, rfl⟩ none (.row ty sz' [] false) (fun g => R'.S g ∧ w.heap.size ≤ g) po.os po.tape po.output po.size po.hold (fun g h => ⟨h.2, hSz g h.1⟩) (fun g' n' h => by cases h) (fun g' n' h => by cases h)
                    (fun hag => .inl ⟨updμ_same _ _ _, rfl⟩)
                exact ⟨_, _, he, .owv _ _ (updμ_same _ _ _), f1.trans s1, s2⟩
            · rw [if_neg hc] at hr; cases hr
          · cases hr
        · rename_i r1 _ _ _
          cases hro : resOf h1' r1 with
          | none => simp [hro] at hr
          | some r' =>
            simp only [hro] at hr
            by_cases hfl : flatV r' = true
            · rw [if_pos hfl] at hr
              cases hr
              obtain ⟨s1, s2⟩ := newS_step (w' := w') hi (fun _ => False) po.os po.tape po.output po.size po.hold (by rintro g ⟨⟩)
              exact ⟨v, _, he, flatV_rep (resOf_rep hinv (S' := fun _ => True) (fun _ _ => trivial) (fun _ _ => trivial) (fun _ => False) (fun _ => none) hv hro) hfl, s1, s2.plus me⟩
            · rw [if_neg hfl] at hr
              cases hr
              obtain ⟨s1, s2⟩ := newS_step (w' := w') f2 (fun g => (R'.S g ∨ rowsAll R' h1' g) ∧ w.heap.size ≤ g) po.os po.tape po.output po.size po.hold (by
                rintro g ⟨h | h, h2⟩
                · exact ⟨h2, hSz g h⟩
                · obtain ⟨k, ty, sz, els, fz, n, h3, h4⟩ := h
                  exact ⟨h2, (hinv.ob _ _ h3).lt h4⟩)
              refine ⟨v, _, he, ?_, f1.trans s1, s2.plus me⟩
              exact resOf_rep hinv (S' := (Ra.withS fun g => (R'.S g ∨ rowsAll R' h1' g) ∧ w.heap.size ≤ g).S) (fun g hg => (po.S g hg).elim (fun h => .inl ((m3 g).2 h)) (fun h => .inr ⟨.inl hg, h⟩)) (fun g hg => (po.row g hg).elim (fun h => .inl ((m3 g).2 h)) (fun h => .inr ⟨.inr hg, h⟩)) _ _ hv hro
theorem fresh_tree {R : Rl} {w : World} {h : HP} {c : Nat} {dn : Nat → Prop} (hi : HInv R w h c dn) {v : Value} {k : Key} {sz off n ty sz2 : Nat} {els : List (List T)} (hv : RepV R w v (.ow k sz off n)) (hk : h.get k = some (.row ty sz2 els false)) {t : T} (ht : treeOf h (.ow k sz off n) = some t) (hfl : (els.all fun c => c.all flatT) = true) {S' : Nat → Prop} (hS : ∀ g m, R.μ k = some (some (g, m)) → S' g) : RepT S' w v t := by
  have h1 := treeOf_rep (S' := fun _ => True) hi (fun _ _ => trivial) hv ht (fun _ _ => trivial)
  have ht2 := ht
  unfold treeOf at ht2
  simp only [hk] at ht2
  split at ht2
  · cases ht2
    have hflat : ∀ i j x, at2 ((els.drop off).take n) i j = some x → flatT x = true := by
      intro i j x hx
      obtain ⟨c, hc1, hc2⟩ := at2_elim hx
      have hc : c ∈ els := List.mem_of_mem_drop (List.mem_of_mem_take (List.mem_of_getElem? hc1))
      exact List.all_eq_true.1 (List.all_eq_true.1 hfl c hc) x (List.mem_of_getElem? hc2)
    cases h1 with
    | l A m cp xs sz3 g o f hl hc hA hSx hsz hcell hrep =>
      refine .l A _ cp _ sz3 g o f hl hc hA (fun h0 => ?_) hsz hcell (fun i j x hx => flatT_rep (hrep i j x hx) (hflat i j x hx))
      rcases repV_ow hv with ⟨g', tot, A', cap, he, hμ, hl', hcap, hA'⟩ | ⟨he, hμ, _, hl0⟩
      · cases he
        have e1 := hA h0
        have e2 := hA' (by omega)
        rw [e1] at e2
        cases e2
        exact hS _ _ hμ
      · cases he
        exact absurd h0 (by omega)
  · cases ht2
theorem callQ_out (hrun : RunOk P run) (hi : HInv R w hp ck dn) {f : Nat} {args : List V} {us : Array Value} (ha : ArgsRep R w us args) {r : V} (hr : callQ run f args hp = some r) :
    goodFn P f = true ∧ Calls P f us w (CPost R w hp r hp ck (plus dn me)) := by
  unfold callQ at hr
  cases hps : puresOf hp args with
  | none => simp [hps] at hr
  | some ps =>
    simp only [hps] at hr
    cases hcp : callPure run f ps with
    | none => simp [hcp] at hr
    | some x =>
      obtain ⟨r1, h1'⟩ := x
      simp only [hcp] at hr
      cases hro : resOf h1' r1 with
      | none => simp [hro] at hr
      | some r' =>
        simp only [hro] at hr
        by_cases hfl : (flatV r' || (args.flatMap (keysOf hp)).isEmpty || freshR h1' r1) = true
        · rw [if_pos hfl] at hr
          cases hr
          obtain ⟨g1, g2⟩ := call_pure (C := ⟨fun _ => none, fun _ => false, fun _ => false, fun _ => none⟩) hrun hi ha hps hcp
          refine ⟨g1, g2.mono ?_⟩
          rintro e w' ⟨v, R', c', he, hv, hinv, po⟩
          by_cases hf : flatV r = true
          · obtain ⟨s1, s2⟩ := newS_step (w' := w') hi (fun _ => False) po.os po.tape po.output po.size po.hold (by rintro g ⟨⟩)
            exact ⟨v, _, he, flatV_rep (resOf_rep hinv (S' := fun _ => True) (fun _ _ => trivial) (fun _ _ => trivial) (fun _ => False) (fun _ => none) hv hro) hf, s1, s2.plus me⟩
          · by_cases hfr : freshR h1' r1 = true
            · unfold freshR at hfr
              split at hfr
              · rename_i k sz off n
                split at hfr
                · rename_i ty sz2 els hk
                  have ht : ∃ t, treeOf h1' (.ow k sz off n) = some t ∧ r = .t t := by
                    unfold resOf at hro
                    simp only [resOf1] at hro
                    obtain ⟨t, h1, h2⟩ := Option.map_eq_some_iff.1 hro
                    exact ⟨t, h1, h2.symm⟩
                  obtain ⟨t, ht1, rfl⟩ := ht
                  obtain ⟨s1, s2⟩ := newS_step (w' := w') hi (fun g => (∃ m, R'.μ k = some (some (g, m))) ∧ w.heap.size ≤ g) po.os po.tape po.output po.size po.hold (by
                    rintro g ⟨⟨m, hm⟩, h2⟩
                    exact ⟨h2, (hinv.ob _ _ hk).lt hm⟩)
                  refine ⟨v, _, he, ?_, s1, s2.plus me⟩
                  exact .t (fresh_tree hinv hv hk ht1 hfr (fun g m hm => Or.inr ⟨⟨m, hm⟩, po.own g ⟨k, _, m, hk, rfl, hm⟩⟩))
                · cases hfr
              · cases hfr
            have hk : args.flatMap (keysOf hp) = [] := by
              rcases Bool.or_eq_true_iff.1 hfl with h | h
              · rcases Bool.or_eq_true_iff.1 h with h | h
                · exact absurd h hf
                · exact List.isEmpty_iff.1 h
              · exact absurd h hfr
            rw [hk] at po
            have hno : ∀ g, ¬ rowsAt R hp [] g := by rintro g ⟨k, hk, _⟩; simp at hk
            obtain ⟨s1, s2⟩ := newS_step (w' := w') hi (fun g => (R'.S g ∨ rowsAll R' h1' g) ∧ w.heap.size ≤ g) po.os po.tape po.output po.size po.hold (by
              rintro g ⟨h | h, h2⟩
              · exact ⟨h2, hinv.sS g h⟩
              · obtain ⟨k, ty, sz, els, fz, n, h3, h4⟩ := h
                exact ⟨h2, (hinv.ob _ _ h3).lt h4⟩)
            refine ⟨v, _, he, ?_, s1, s2.plus me⟩
            exact resOf_rep hinv (S' := (R.withS fun g => (R'.S g ∨ rowsAll R' h1' g) ∧ w.heap.size ≤ g).S) (fun g hg => (po.S g hg).elim (fun h => .inl (h.resolve_right (hno g))) (fun h => .inr ⟨.inl hg, h⟩)) (fun g hg => (po.row g hg).elim (fun h => .inl (h.resolve_right (hno g))) (fun h => .inr ⟨.inr hg, h⟩)) _ _ hv hro
        · rw [if_neg hfl] at hr; cases hr
theorem callFunc_run {f : FuncId} (hg : goodFn P f = true) (us : Array Value) (w : World) : (callFunc f us).run P w = .ok (.enter f us) w := by
  unfold goodFn at hg
  cases hf : P.funcs[f]? with
  | none => simp [hf] at hg
  | some fn =>
    simp [hf] at hg
    obtain ⟨h1, h2⟩ := hg
    have h3 : fn.body.isNone = false := by cases hb : fn.body <;> simp [hb] at h1 ⊢
    have h2' : (fn.name == "runtime.NumGoroutine") = false := by simpa using h2
    simp [callFunc, hf, h2]
    intro h
    simp [h] at h1
theorem enter_out {o : Oper} {a : Act} {f : FuncId} {us : Array Value} (he : (execOp a.eval o).run P w = .ok (.enter f us) w) {r : V} {h' : HP} {ck' : Nat} (hc : Calls P f us w (CPost R w hp r h' ck' (plus dn me))) : Out P o a R w hp dn me r h' ck' := by
  intro next Q hn
  unfold Oper.wp
  rw [he]
  show Calls P f us w _
  refine hc.mono ?_
  rintro e w' ⟨v, R', rfl, hv, hg, hi⟩
  exact hn v w' R' hv hg hi
theorem call_out {C : Cfg} {o : Oper} {a : Act} (hrun : RunOk P run) {s : St} (hi : HInv R w s.hp s.ck dn) (he : EnvRep R w a s.env) (hd : ¬ dn me) {f : FuncId} {as_ : Array Operand} {ts : Array TypeId} {xs : List Opd} (ho : o.op = .call { callee := .value (.func f), args := as_, argTypes := ts }) (hx : compOpds as_.toList = some xs) {r : V} {h' : HP} {ck' : Nat}
    (hr : callEv C run f (xs.map (·.ev s.env)) s ⟨d, s.ck, me⟩ = some (r, h', ck')) : Out P o a R w s.hp dn me r h' ck' := by
  obtain ⟨l1, l2⟩ := opds_rep he _ _ hx
  have ha : ArgsRep R w (as_.map a.eval) (xs.map (·.ev s.env)) := ⟨by simpa using l1, fun j v hv => by
    have := l2 j v hv
    rwa [← Array.toList_map, arr_getD] at this⟩
  obtain ⟨g1, g2⟩ := callEv_out hrun hi hd ha hr
  refine enter_out ?_ g2
  simp [execOp, ho, resolve, Deferred.ofValue, Act.eval, invoke]
  exact callFunc_run g1 _ _
theorem callq_out {o : Oper} {a : Act} {e : Env} (hrun : RunOk P run) (hi : HInv R w hp ck dn) (he : EnvRep R w a e) {f : FuncId} {as_ : Array Operand} {ts : Array TypeId} {xs : List Opd} (ho : o.op = .call { callee := .value (.func f), args := as_, argTypes := ts }) (hx : compOpds as_.toList = some xs) {r : V}
    (hr : callQ run f (xs.map (·.ev e)) hp = some r) : Out P o a R w hp dn me r hp ck := by
  obtain ⟨l1, l2⟩ := opds_rep he _ _ hx
  have ha : ArgsRep R w (as_.map a.eval) (xs.map (·.ev e)) := ⟨by simpa using l1, fun j v hv => by
    have := l2 j v hv
    rwa [← Array.toList_map, arr_getD] at this⟩
  obtain ⟨g1, g2⟩ := callQ_out hrun hi ha hr
  refine enter_out ?_ g2
  simp [execOp, ho, resolve, Deferred.ofValue, Act.eval, invoke]
  exact callFunc_run g1 _ _
theorem callv_out {C : Cfg} {o : Oper} {a : Act} (hrun : RunOk P run) {s : St} (hi : HInv R w s.hp s.ck dn) (he : EnvRep R w a s.env) (hd : ¬ dn me) {t : Tmp} {as_ : Array Operand} {ts : Array TypeId} {xs : List Opd} (ho : o.op = .call { callee := .value (.tmp t), args := as_, argTypes := ts }) (hx : compOpds as_.toList = some xs) {f : FuncId} {caps : List V} (hf : s.env.get t = .fn f caps) {r : V} {h' : HP} {ck' : Nat}
    (hr : callEv C run f (xs.map (·.ev s.env) ++ caps) s ⟨d, s.ck, me⟩ = some (r, h', ck')) : Out P o a R w s.hp dn me r h' ck' := by
  obtain ⟨l1, l2⟩ := opds_rep he _ _ hx
  have hft := he t
  rw [hf] at hft
  generalize hu : a.tmps.getD t undef = u at hft
  cases hft with
  | fn _ arr _ hn hc =>
    have hsz : (as_.map a.eval).size = (xs.map (·.ev s.env)).length := by simpa using l1
    have ha : ArgsRep R w (as_.map a.eval ++ arr) (xs.map (·.ev s.env) ++ caps) := ⟨by rw [Array.size_append, List.length_append, hsz, hn], fun j v hv => by
      rw [getD_append, hsz]
      rw [List.getElem?_append] at hv
      by_cases hj : j < (xs.map (·.ev s.env)).length
      · rw [if_pos hj] at hv ⊢
        have := l2 j v hv
        rwa [← Array.toList_map, arr_getD] at this
      · rw [if_neg hj] at hv ⊢
        exact hc _ _ hv⟩
    obtain ⟨g1, g2⟩ := callEv_out hrun hi hd ha hr
    refine enter_out ?_ g2
    have hev : a.eval (.tmp t) = .func (.func f) #[] arr := hu
    simp [execOp, ho, resolve, Deferred.ofValue, hev, invoke]
    exact callFunc_run g1 _ _
end
end
end Go.Pev
namespace Go.Pev
open Go Go.RowKit
open Go.MapKept (IsKey run_checkKey run_findKey findNow_spec run_keyThatStays)
section
theorem find_map {R : Rl} {w : World} (n : Int) : ∀ (l : List MapEntry) (es : List (Int × V)) (i : Nat), MapRep R w l es →
    match mget es n with
    | none => Instr.findNow (.int .i64) (.int .i64 n) l i = some none ∧ ∀ (R' : Rl) (w' : World) (x : Value) (v : V) (b : Nat), MapRep R' w' l es → RepV R' w' x v → MapRep R' w' (l ++ [⟨.int .i64 n, x, b⟩]) (mset es n v)
    | some v => ∃ j e, Instr.findNow (.int .i64) (.int .i64 n) l i = some (some (i + j, e.val)) ∧ l[j]? = some e ∧ e.key = .int .i64 n ∧ RepV R w e.val v ∧ ∀ (R' : Rl) (w' : World) (x : Value) (u : V), MapRep R' w' l es → RepV R' w' x u → MapRep R' w' (l.modify j fun e => { e with key := .int .i64 n, val := x }) (mset es n u)
  | [], [], i, _ => by
    simp only [mget]
    exact ⟨rfl, fun R' w' x v b _ hx => ⟨rfl, hx, trivial⟩⟩
  | [], (a, v) :: es, i, h => h.elim
  | e :: l, [], i, h => h.elim
  | e :: l, (a, v) :: es, i, h => by
    obtain ⟨hk, hv, hr⟩ := h
    by_cases ha : a = n
    · subst ha
      simp only [mget, if_true]
      refine ⟨0, e, ?_, rfl, hk, hv, fun R' w' x u h1 hx => ?_⟩
      · unfold Instr.findNow
        rw [hk]
        simp [Instr.sameNow]
      · simp only [mset, if_true, List.modify_zero_cons]
        exact ⟨rfl, hx, h1.2.2⟩
    · have ih := find_map n l es (i + 1) hr
      have hs : Instr.findNow (.int .i64) (.int .i64 n) (e :: l) i = Instr.findNow (.int .i64) (.int .i64 n) l (i + 1) := by
        conv => lhs; unfold Instr.findNow
        rw [hk]
        have : (n == a) = false := by simp; exact fun h => ha h.symm
        simp [Instr.sameNow, this]
      simp only [mget, if_neg ha]
      cases hm : mget es n with
      | none =>
        rw [hm] at ih
        refine ⟨by rw [hs]; exact ih.1, fun R' w' x v' b h1 hx => ?_⟩
        simp only [mset, if_neg ha, List.cons_append]
        exact ⟨h1.1, h1.2.1, ih.2 R' w' x v' b h1.2.2 hx⟩
      | some v1 =>
        rw [hm] at ih
        obtain ⟨j, e', h1, h2, h3, h4, h5⟩ := ih
        refine ⟨j + 1, e', ?_, by simpa using h2, h3, h4, fun R' w' x u g1 hx => ?_⟩
        · rw [hs, h1, show i + 1 + j = i + (j + 1) by omega]
        · simp only [mset, if_neg ha, List.modify_succ_cons]
          exact ⟨g1.1, g1.2.1, h5 R' w' x u g1.2.2 hx⟩
section
variable {P : Program} {o : Oper} {a : Act} {R : Rl} {w : World} {hp : HP} {dn : Nat → Prop} {me ck d : Nat} {e : Env}
theorem isIntMap_is {t : TypeId} (h : isIntMap P t = true) : ∃ kt et, P.underlying t = some (.map kt et) ∧ P.underlying kt = some (.int .i64) := by
  unfold isIntMap at h
  split at h
  · rename_i kt et hu
    split at h
    · rename_i hk; exact ⟨kt, et, hu, hk⟩
    · cases h
  · cases h
theorem sliceBound_run {v : Value} {v' : V} (hv : RepV R w v v') {d y n cap : Nat} (hd : d ≤ y) (hb : bound (some v') d y = some n) (hc : y ≤ cap) : (∀ code, (Instr.sliceBound v y code).run P w = .ok n w) ∧ (∀ code, (Instr.sliceBound v cap code).run P w = .ok n w) ∧ n ≤ y := by
  have hle := bound_le hd hb
  simp only [bound] at hb
  cases hm : isInt v' with
  | none => simp [hm] at hb
  | some m =>
    obtain ⟨k, rfl⟩ := repV_isInt hv hm
    simp only [hm] at hb
    by_cases hcc : 0 ≤ m ∧ m ≤ (y : Int)
    · rw [if_pos hcc] at hb
      cases hb
      have : m ≤ (cap : Int) := by omega
      exact ⟨fun code => by simp [Instr.sliceBound, asIntOf, hcc.1, hcc.2], fun code => by simp [Instr.sliceBound, asIntOf, hcc.1, this], hle⟩
    · rw [if_neg hcc] at hb; cases hb
theorem slice_of {v : Value} {x : V} {len : Nat} (h : RepV R w v x) (hx : sliceLen x = some len) : ∃ A cap, v = .slice A len cap ∧ len ≤ cap := by
  cases h with
  | t h =>
    cases h <;> simp [sliceLen] at hx
    rename_i A n c xs sz g o f hl hc hA hS hsz hcell hrep
    exact ⟨A, c, by rw [← hx, hl], by omega⟩
  | ow k sz off len' g tot A cap hμ hl hc hA => simp [sliceLen] at hx; subst hx; exact ⟨A, cap, rfl, hl⟩
  | owv k sz hμ => simp [sliceLen] at hx; subst hx; exact ⟨none, 0, rfl, Nat.le_refl _⟩
  | nl => simp [sliceLen] at hx; subst hx; exact ⟨none, 0, rfl, Nat.le_refl _⟩
  | _ => simp [sliceLen] at hx
theorem sl3_out (hi : HInv R w hp ck dn) (he : EnvRep R w a e) {t el : TypeId} {x lo up mx : Operand} {x' lo' up' mx' : Opd} (ho : o.op = .slice t x (some lo) (some up) (some mx)) (ht : P.underlying t = some (.slice el)) {n : Nat} (hn : szOf P el = some n) (hx : compOpd x = some x') (hlo : compOpd lo = some lo') (hup : compOpd up = some up') (hmx : compOpd mx = some mx') {r : V} (hr : sl3 (x'.ev e) (lo'.ev e) (up'.ev e) (mx'.ev e) = some r) :
    Out P o a R w hp dn me r hp ck := by
  unfold sl3 at hr
  split at hr
  · rename_i len hlen
    split at hr
    · rename_i m hm
      split at hr
      · rename_i h hh
        split at hr
        · rename_i l hl
          cases hr
          obtain ⟨A, cap, hv, hcap⟩ := slice_of (opd_rep he hx) hlen
          obtain ⟨_, m2, m3⟩ := sliceBound_run (P := P) (opd_rep he hmx) (Nat.le_refl _) hm hcap
          obtain ⟨h1, _, h3⟩ := sliceBound_run (P := P) (opd_rep he hup) (Nat.le_refl _) hh (Nat.le_refl _)
          obtain ⟨l1, _, l3⟩ := sliceBound_run (P := P) (opd_rep he hlo) (Nat.zero_le _) hl (Nat.le_refl _)
          refine Out.pure hi (.slice (if m = l then A else A.map (·.add (l * n))) (h - l) (m - l)) ?_ (.un _)
          simp only [execOp, ho, hv, Instr.sliceAt, Sem.run_bind, run_underlying ht, Result.andThen_ok, Option.map_some, Instr.slice]
          simp [Instr.sliceBounds, m2, h1, l1, run_szOf hn]
        · cases hr
      · cases hr
    · cases hr
  · cases hr
theorem mkm_out (hi : HInv R w hp ck dn) (hd : ¬ dn me) {t : TypeId} (ho : o.op = .makeMap t none) : Out P o a R w hp dn me (.mp ⟨d, ck, me⟩) ((⟨d, ck, me⟩, .mp []) :: hp) ck := by
  obtain ⟨g1, g2⟩ := alloc_step (w' := w.alloc (.map #[] 0)) hi hd ⟨d, ck, me⟩ ⟨rfl, rfl⟩ (some (w.heap.size, 0)) (.mp []) rfl rfl rfl (by simp) (fun g hg => heap_alloc_old w _ g hg) (by intro g n h; cases h; exact Nat.le_refl _)
    (fun ha => ⟨w.heap.size, 0, #[], 0, updμ_same _ _ _, heap_alloc_new w _, trivial⟩)
  refine Out.of (.map (some w.heap.size)) _ _ (.inl ?_) (.mp _ _ _ (updμ_same _ _ _)) g1 g2
  have : (Instr.makeMap t none).run P w = .ok (.map (some w.heap.size)) (w.alloc (.map #[] 0)) := rfl
  simp only [execOp, ho, Option.map_none, Sem.run_bind, this]
  rfl
theorem repV_mp {v : Value} {k : Key} (h : RepV R w v (.mp k)) : ∃ g n, v = .map (some g) ∧ R.μ k = some (some (g, n)) := by
  cases h with | mp _ g n hμ => exact ⟨g, n, rfl, hμ⟩
theorem mlk_out (hi : HInv R w hp ck dn) (he : EnvRep R w a e) {t : TypeId} {x j : Operand} {x' j' : Opd} {ok : Bool} {z : V} (ho : o.op = .lookup t x j ok) (hm : isIntMap P t = true) (hz : mapElem P t = some z) (hx : compOpd x = some x') (hj : compOpd j = some j') {r : V} (hr : mlk hp z ok (x'.ev e) (j'.ev e) = some r) :
    Out P o a R w hp dn me r hp ck := by
  have rx := opd_rep he hx
  have rj := opd_rep he hj
  obtain ⟨kt, et, hu, hk⟩ := isIntMap_is hm
  unfold mlk at hr
  split at hr
  · rename_i k n h1 h2
    rw [h1] at rx
    rw [h2] at rj
    split at hr
    · rename_i es hg
      cases hr
      obtain ⟨g, m, hv, hμ⟩ := repV_mp rx
      obtain ⟨g', n', arr, clock, b1, b2, b3⟩ := hi.ob _ _ hg
      rw [hμ] at b1
      cases b1
      have hkey := repV_i rj
      have hIs : IsKey (.int .i64) (.int .i64 n) := rfl
      unfold mapElem at hz
      rw [hu] at hz
      simp only at hz
      rw [Option.bind_eq_some_iff] at hz
      obtain ⟨zv, hz1, hz2⟩ := hz
      have hzr := run_zeroOf (P := P) (t := et) hz1 w
      have hf := find_map (R := R) (w := w) n arr.toList es 0 b3
      cases hmg : mget es n with
      | none =>
        rw [hmg] at hf
        have hrun : (Instr.lookup t (.map (some g)) (.int .i64 n) ok).run P w = .ok (if ok then .tuple #[zv, .bool false] else zv) w := by
          simp [Instr.lookup, run_underlying hu, Go.MapKept.run_getObj_map b2, run_checkKey hk hIs, run_findKey hk hf.1, hzr, Result.andThen]
          try (cases ok <;> rfl)
        refine Out.pure hi _ (by simp only [execOp, ho, hv, hkey, Sem.run_bind, hrun]; rfl) ?_
        cases ok with
        | false => simpa using constV_rep hz2
        | true =>
          refine .tu _ _ (by simp) (fun q v hq => ?_)
          match q, hq with
          | 0, hq => simp at hq; subst hq; simpa using constV_rep hz2
          | 1, hq => simp at hq; subst hq; exact .t (.b _)
          | q + 2, hq => simp at hq
      | some v1 =>
        rw [hmg] at hf
        obtain ⟨jj, e', f1, f2, f3, f4, _⟩ := hf
        have hrun : (Instr.lookup t (.map (some g)) (.int .i64 n) ok).run P w = .ok (if ok then .tuple #[e'.val, .bool true] else e'.val) w := by
          simp [Instr.lookup, run_underlying hu, Go.MapKept.run_getObj_map b2, run_checkKey hk hIs, run_findKey hk f1, hzr, Result.andThen]
          try (cases ok <;> rfl)
        refine Out.pure hi _ (by simp only [execOp, ho, hv, hkey, Sem.run_bind, hrun]; rfl) ?_
        cases ok with
        | false => simpa using f4
        | true =>
          refine .tu _ _ (by simp) (fun q v hq => ?_)
          match q, hq with
          | 0, hq => simp at hq; subst hq; simpa using f4
          | 1, hq => simp at hq; subst hq; exact .t (.b _)
          | q + 2, hq => simp at hq
    · cases hr
  · cases hr
theorem mup_out (hi : HInv R w hp ck dn) (hd : ¬ dn me) (he : EnvRep R w a e) {t : TypeId} {m k x : Operand} {m' k' x' : Opd} (ho : o.op = .mapUpdate t m k x) (hmp : isIntMap P t = true) (hm : compOpd m = some m') (hk : compOpd k = some k') (hx : compOpd x = some x') {hp' : HP} (hr : mup hp (m'.ev e) (k'.ev e) (x'.ev e) = some hp') :
    Out P o a R w hp dn me .un hp' ck := by
  have rm := opd_rep he hm
  have rk := opd_rep he hk
  have rx := opd_rep he hx
  obtain ⟨kt, et, hu, hkt⟩ := isIntMap_is hmp
  unfold mup at hr
  split at hr
  · rename_i q n h1 h2
    rw [h1] at rm
    rw [h2] at rk
    split at hr
    · rename_i es hg
      cases hr
      obtain ⟨g, m0, hv, hμ⟩ := repV_mp rm
      obtain ⟨g', n', arr, clock, b1, b2, b3⟩ := hi.ob _ _ hg
      rw [hμ] at b1
      cases b1
      have hkey := repV_i rk
      have hIs : IsKey (.int .i64) (.int .i64 n) := rfl
      have hf := find_map (R := R) (w := w) n arr.toList es 0 b3
      have hset : ∀ obj : Obj, ∀ q, q ≠ g → (w.heap.setIfInBounds g obj)[q]? = w.heap[q]? := fun obj q hq => (Go.MapKept.heap_set b2).2 q hq
      cases hmg : mget es n with
      | none =>
        rw [hmg] at hf
        have hrun : (Instr.mapUpdate t (.map (some g)) (.int .i64 n) (a.eval x)).run P w = .ok () { w with heap := w.heap.setIfInBounds g (.map (arr.push ⟨.int .i64 n, a.eval x, clock⟩) (clock + 1)) } := by
          simp [Instr.mapUpdate, run_underlying hu, Go.MapKept.run_getObj_map b2, run_checkKey hkt hIs, run_findKey hkt hf.1, Go.MapKept.run_setObj_map _ b2, Result.andThen]
        obtain ⟨s1, s2⟩ := put_step (me := me) (w' := { w with heap := w.heap.setIfInBounds g (.map (arr.push ⟨.int .i64 n, a.eval x, clock⟩) (clock + 1)) }) hi q q (.mp es) (.mp (mset es n (x'.ev e))) hg rfl (some (g, m0)) (.inl ⟨rfl, hμ⟩) rfl rfl rfl (by simp)
          (fun q' _ hne => hset _ q' (fun h => hne m0 (by rw [h]; exact hμ))) (fun g' n2 h => .inr ⟨m0, by cases h; exact hμ⟩) rfl
          (fun ha => ⟨g, m0, _, _, updμ_same _ _ _, (Go.MapKept.heap_set b2).1, by rw [Array.toList_push]; exact hf.2 _ _ _ _ _ (b3.mono ha) (rx.mono ha)⟩)
        refine Out.of undef _ _ (.inr ⟨?_, rfl⟩) (.un _) s1 s2
        simp only [execOp, ho, hv, hkey, Sem.run_bind, hrun]
        rfl
      | some v1 =>
        rw [hmg] at hf
        obtain ⟨jj, e', f1, f2, f3, f4, f5⟩ := hf
        have hj : arr[jj]? = some e' := by simpa using f2
        have hrun : (Instr.mapUpdate t (.map (some g)) (.int .i64 n) (a.eval x)).run P w = .ok () { w with heap := w.heap.setIfInBounds g (.map (arr.modify jj fun e => { e with key := .int .i64 n, val := a.eval x }) clock) } := by
          simp [Instr.mapUpdate, run_underlying hu, Go.MapKept.run_getObj_map b2, run_checkKey hkt hIs, run_findKey hkt f1, hj, f3, run_keyThatStays hIs, Go.MapKept.run_setObj_map _ b2, Result.andThen]
        obtain ⟨s1, s2⟩ := put_step (me := me) (w' := { w with heap := w.heap.setIfInBounds g (.map (arr.modify jj fun e => { e with key := .int .i64 n, val := a.eval x }) clock) }) hi q q (.mp es) (.mp (mset es n (x'.ev e))) hg rfl (some (g, m0)) (.inl ⟨rfl, hμ⟩) rfl rfl rfl (by simp)
          (fun q' _ hne => hset _ q' (fun h => hne m0 (by rw [h]; exact hμ))) (fun g' n2 h => .inr ⟨m0, by cases h; exact hμ⟩) rfl
          (fun ha => ⟨g, m0, _, _, updμ_same _ _ _, (Go.MapKept.heap_set b2).1, by rw [Array.toList_modify]; exact f5 _ _ _ _ (b3.mono ha) (rx.mono ha)⟩)
        refine Out.of undef _ _ (.inr ⟨?_, rfl⟩) (.un _) s1 s2
        simp only [execOp, ho, hv, hkey, Sem.run_bind, hrun]
        rfl
    · cases hr
  · cases hr
end
end
end Go.Pev
namespace Go.Pev
open Go Go.RowKit
section
theorem mapH {x : Option V} {h : HP} {ck : Nat} {v : V} {h' : HP} {c' : Nat} (hr : x.map (·, h, ck) = some (v, h', c')) : x = some v ∧ h' = h ∧ c' = ck := by
  cases x with
  | none => cases hr
  | some y => cases hr; exact ⟨rfl, rfl, rfl⟩
theorem someH {x : V} {h : HP} {ck : Nat} {v : V} {h' : HP} {c' : Nat} (hr : some (x, h, ck) = some (v, h', c')) : x = v ∧ h' = h ∧ c' = ck := by
  cases hr; exact ⟨rfl, rfl, rfl⟩
theorem mapS {α β : Type} {x : Option α} {f : α → β} {y : β} (h : x.map f = some y) : ∃ z, x = some z ∧ f z = y := by
  cases x with
  | none => cases h
  | some z => cases h; exact ⟨z, rfl, rfl⟩
section
variable {P : Program} {run : Run} {R : Rl} {w : World} {dn : Nat → Prop} {me d : Nat} {a : Act} {o : Oper} {s : St} {C : Cfg}
theorem po_sound (hrun : RunOk P run) (hi : HInv R w s.hp s.ck dn) (he : EnvRep R w a s.env) (hd : ¬ dn me) {A : Ann} {rid : Nat} {draw : Bool} {p : Po} (hp : compPo P A rid me draw o = some p) {v : V} {h' : HP} {c' : Nat} (hr : evPo C run d me s p = some (v, h', c')) :
    Out P o a R w s.hp dn me v h' c' := by
  unfold compPo at hp
  split at hp
  · rename_i x ho
    obtain ⟨x', hx, rfl⟩ := mapS hp
    obtain ⟨rfl, rfl, rfl⟩ := someH hr
    exact mv_out hi he (.inl ho) hx
  · rename_i x ho
    split at hp
    · split at hp
      · rename_i e ht
        obtain ⟨n, hn, rfl⟩ := mapS hp
        obtain ⟨rfl, rfl, rfl⟩ := hr
        exact nilv_out hi hd ho e n
      · cases hp
    · obtain ⟨x', hx, rfl⟩ := mapS hp
      obtain ⟨rfl, rfl, rfl⟩ := someH hr
      exact mv_out hi he (.inr ho) hx
  · rename_i c x y ho
    split at hp
    · rename_i c' x' y' hc hx hy
      cases hp
      obtain ⟨h1, rfl, rfl⟩ := mapH hr
      exact pick_out hi he ho hc hx hy h1
    · cases hp
  · rename_i e ho
    split at hp
    · rename_i z hz
      obtain ⟨zs, hzs, rfl⟩ := mapS hp
      obtain ⟨rfl, rfl, rfl⟩ := hr
      exact alloc_out hi hd ho hz hzs
    · cases hp
  · rename_i e x ho
    split at hp
    · rename_i n x' hn hx
      cases hp
      simp only [evPo] at hr
      split at hr
      · rename_i cs hcs
        by_cases hl : cs.length = n
        · rw [if_pos hl] at hr
          obtain ⟨rfl, rfl, rfl⟩ := hr
          exact box_out hi hd he ho hx hcs
        · rw [if_neg hl] at hr; cases hr
      · cases hr
    · cases hp
  · rename_i t ps ho
    split at hp
    · rename_i z fs hz ht
      split at hp
      · rename_i zs fo hzs hfo
        split at hp
        · rename_i pl hpl
          obtain ⟨pl', hpl', rfl⟩ := mapS hp
          simp only [evPo] at hr
          obtain ⟨r, hb, h2⟩ := mapS hr
          cases h2
          exact build_out hi he ho hz hzs (.inl ⟨fs, fo, ht, hfo, hpl⟩) hpl' hb
        · cases hp
      · cases hp
    · rename_i z len e hz ht
      split at hp
      · rename_i zs n hzs hn
        obtain ⟨pl', hpl', rfl⟩ := mapS hp
        simp only [evPo] at hr
        obtain ⟨r, hb, h2⟩ := mapS hr
        cases h2
        exact build_out hi he ho hz hzs (.inr ⟨len, e, n, ht, hn, rfl⟩) hpl' hb
      · cases hp
    · cases hp
  · rename_i t len ps ho
    split at hp
    · rename_i e ht
      split at hp
      · rename_i n z xs hn hz hx
        split at hp
        · rename_i hc
          obtain ⟨c1, c2, c3, c4⟩ := hc
          split at hp
          · cases hp
            simp only [evPo] at hr
            obtain ⟨r, hb, h2⟩ := mapS hr
            cases h2
            exact bslO_out hi hd he ho ht hn hz hx c1 c2 c3 c4 hb
          · cases hp
            simp only [evPo] at hr
            obtain ⟨r, hb, h2⟩ := mapS hr
            cases h2
            exact bslT_out hi he ho ht hn hz hx c1 c2 c3 c4 hb
        · cases hp
      · cases hp
    · cases hp
  · rename_i t x ho
    split at hp
    · rename_i ag n x' ha hn hx
      cases hp
      obtain ⟨h1, rfl, rfl⟩ := mapH hr
      exact load_out hi he ho ha hn hx h1
    · cases hp
  · rename_i t x y ho
    split at hp
    · rename_i n x' y' hn hx hy
      cases hp
      simp only [evPo] at hr
      obtain ⟨r, hb, h2⟩ := mapS hr
      cases h2
      exact store_out hi hd he ho hn hx hy hb
    · cases hp
  · rename_i x ho
    obtain ⟨x', hx, rfl⟩ := mapS hp
    simp only [evPo] at hr
    split at hr
    · rename_i k sz i j h1
      cases hr
      exact nchk_out hi he ho hx (.inl ⟨_, _, _, _, h1, rfl⟩)
    · rename_i cs h1
      cases hr
      exact nchk_out hi he ho hx (.inr ⟨_, h1, rfl⟩)
    · cases hr
  · rename_i op t x y u ho
    split at hp
    · rename_i de x' y' hde hx hy
      have hnk : ∀ k, nilKind de y = k → (k = 1 → (∃ ms, de = .interface ms) ∧ y = .const .nilIface) ∧ (k = 2 → (∃ q, de = .pointer q) ∧ y = .const (.pointer none)) ∧ (k = 3 → (∃ q, de = .slice q) ∧ y = .const (.slice none 0 0)) := by
        intro k hk
        unfold nilKind at hk
        split at hk
        · exact ⟨fun _ => ⟨⟨_, rfl⟩, rfl⟩, fun h => by omega, fun h => by omega⟩
        · exact ⟨fun h => by omega, fun _ => ⟨⟨_, rfl⟩, rfl⟩, fun h => by omega⟩
        · exact ⟨fun h => by omega, fun h => by omega, fun _ => ⟨⟨_, rfl⟩, rfl⟩⟩
        · exact ⟨fun h => by omega, fun h => by omega, fun h => by omega⟩
      split at hp
      · rename_i hk
        obtain ⟨⟨ms, rfl⟩, rfl⟩ := (hnk _ hk).1 rfl
        cases hp
        obtain ⟨h1, rfl, rfl⟩ := mapH hr
        exact isnilI_out (neg := false) hi he (by simpa using ho) hde hx h1
      · rename_i hk
        obtain ⟨⟨ms, rfl⟩, rfl⟩ := (hnk _ hk).1 rfl
        cases hp
        obtain ⟨h1, rfl, rfl⟩ := mapH hr
        exact isnilI_out (neg := true) hi he (by simpa using ho) hde hx h1
      · rename_i hk
        obtain ⟨⟨ms, rfl⟩, rfl⟩ := (hnk _ hk).2.1 rfl
        cases hp
        obtain ⟨h1, rfl, rfl⟩ := mapH hr
        exact isnilP_out (neg := false) hi he (by simpa using ho) hde hx h1
      · rename_i hk
        obtain ⟨⟨ms, rfl⟩, rfl⟩ := (hnk _ hk).2.1 rfl
        cases hp
        obtain ⟨h1, rfl, rfl⟩ := mapH hr
        exact isnilP_out (neg := true) hi he (by simpa using ho) hde hx h1
      · rename_i hk
        obtain ⟨⟨ms, rfl⟩, rfl⟩ := (hnk _ hk).2.2 rfl
        cases hp
        obtain ⟨h1, rfl, rfl⟩ := mapH hr
        exact isnilS_out (neg := false) hi he (by simpa using ho) hde hx h1
      · rename_i hk
        obtain ⟨⟨ms, rfl⟩, rfl⟩ := (hnk _ hk).2.2 rfl
        cases hp
        obtain ⟨h1, rfl, rfl⟩ := mapH hr
        exact isnilS_out (neg := true) hi he (by simpa using ho) hde hx h1
      · split at hp
        · cases hp
          obtain ⟨h1, rfl, rfl⟩ := mapH hr
          exact bin_out hi he ho hde rfl hx hy h1
        · cases hp
          obtain ⟨h1, rfl, rfl⟩ := mapH hr
          exact bin_out hi he ho hde rfl hx hy h1
        · split at hp
          · cases hp
            obtain ⟨h1, rfl, rfl⟩ := mapH hr
            exact beq_out (neg := false) hi he (by simpa using ho) hde hx hy h1
          · cases hp
            obtain ⟨h1, rfl, rfl⟩ := mapH hr
            exact beq_out (neg := true) hi he (by simpa using ho) hde hx hy h1
          · cases hp
        · rename_i fs
          split at hp
          · rename_i hq
            split at hp
            · cases hp
              obtain ⟨h1, rfl, rfl⟩ := mapH hr
              exact beqS_out (neg := false) hi he (by simpa using ho) hde hq.1 hq.2 ‹_› hx hy h1
            · cases hp
              obtain ⟨h1, rfl, rfl⟩ := mapH hr
              exact beqS_out (neg := true) hi he (by simpa using ho) hde hq.1 hq.2 ‹_› hx hy h1
            · cases hp
          · cases hp
        · cases hp
    · cases hp
  · rename_i op t x ho
    obtain ⟨x', hx, rfl⟩ := mapS hp
    obtain ⟨h1, rfl, rfl⟩ := mapH hr
    exact un_out hi he ho hx h1
  · rename_i t u x ho
    split at hp
    · rename_i q k x' hs hd' hx
      cases hp
      obtain ⟨h1, rfl, rfl⟩ := mapH hr
      exact cvi_out hi he ho hs hd' hx h1
    · rename_i x' hs hd' hx
      cases hp
      simp only [evPo] at hr
      split at hr
      · rename_i y h1
        cases hr
        exact cvs_out hi he ho hs hd' hx h1
      · cases hr
    · rename_i e x' hs hd' hx
      split at hp
      · rename_i hel
        cases hp
        simp only [evPo] at hr
        split at hr
        · rename_i y h1
          by_cases hl : y.length ≤ 140737488355328
          · rw [if_pos hl] at hr
            cases hr
            exact sbs_out hi hd he ho hs hel hd' hx h1 hl
          · rw [if_neg hl] at hr; cases hr
        · cases hr
      · cases hp
    · rename_i e x' hs hd' hx
      split at hp
      · rename_i hel
        cases hp
        simp only [evPo] at hr
        split at hr
        · rename_i xs hxs
          obtain ⟨r, hb, h2⟩ := mapS hr
          cases h2
          exact cvbs_out hi he ho hs hel hd' hx hxs hb
        · cases hr
      · cases hp
    · cases hp
  · rename_i f first caps ho
    split at hp
    · rename_i hf
      obtain ⟨cs, hcs, rfl⟩ := mapS hp
      obtain ⟨rfl, rfl, rfl⟩ := someH hr
      exact mkfn_out hi he ho hf hcs
    · cases hp
  · rename_i t l c ho
    split at hp
    · rename_i e ht
      split at hp
      · rename_i n by_ z l' c' hn hb hz hl hc
        split at hp
        · rename_i zs hzs
          split at hp
          · rename_i ts hts
            split at hp
            · rename_i hn0
              cases hp
              simp only [evPo] at hr
              split at hr
              · rename_i m m' hm1 hm2
                split at hr
                · rename_i hcc
                  obtain ⟨rfl, c2, c3, c4, c5⟩ := hcc
                  cases hr
                  exact mks_out hi hd he ho ht hn hb hz hzs hts hn0 hl hc hm1 hm2 c2 c3 c4 c5
                · cases hr
              · cases hr
            · cases hp
          · cases hp
        · cases hp
      · cases hp
    · cases hp
  · rename_i t x lo up ho
    split at hp
    · rename_i x' lo' up' ht hx hlo hup
      cases hp
      obtain ⟨h1, rfl, rfl⟩ := mapH hr
      exact slS_out hi he ho ht hx hlo hup h1
    · rename_i e x' lo' up' ht hx hlo hup
      split at hp
      · rename_i n hn
        split at hp
        · rename_i hn0
          cases hp
          obtain ⟨h1, rfl, rfl⟩ := mapH hr
          exact sls_out hi he ho ht hn hn0 hx hlo hup h1
        · cases hp
      · cases hp
    · cases hp
  · rename_i t x f ho
    split at hp
    · rename_i fs x' ht hx
      split at hp
      · rename_i fd hfd
        split at hp
        · rename_i n hn
          split at hp
          · rename_i hn0
            cases hp
            obtain ⟨h1, rfl, rfl⟩ := mapH hr
            exact fad_out hi he ho ht hfd hn hn0 hx h1
          · cases hp
        · cases hp
      · cases hp
    · cases hp
  · rename_i t x f ho
    split at hp
    · rename_i fs x' ht hx
      split at hp
      · rename_i fd hfd
        split at hp
        · rename_i ag n ha hn
          cases hp
          obtain ⟨h1, rfl, rfl⟩ := mapH hr
          exact fld_out hi he ho ht hfd ha hn hx h1
        · cases hp
      · cases hp
    · cases hp
  · rename_i t x j ho
    split at hp
    · rename_i e x' j' ht hx hj
      split at hp
      · rename_i n hn
        split at hp
        · rename_i hn0
          cases hp
          obtain ⟨h1, rfl, rfl⟩ := mapH hr
          exact ixS_out hi he ho ht hn hn0 hx hj h1
        · cases hp
      · cases hp
    · rename_i len e x' j' ht hx hj
      split at hp
      · rename_i n hn
        split at hp
        · rename_i hn0
          cases hp
          obtain ⟨h1, rfl, rfl⟩ := mapH hr
          exact ixA_out hi he ho ht hn hn0 hx hj h1
        · cases hp
      · cases hp
    · cases hp
  · rename_i t x j ho
    split at hp
    · rename_i x' j' ht hx hj
      cases hp
      obtain ⟨h1, rfl, rfl⟩ := mapH hr
      exact ixs_out hi he ho ht hx hj h1
    · rename_i len e x' j' ht hx hj
      split at hp
      · rename_i ag n ha hn
        cases hp
        obtain ⟨h1, rfl, rfl⟩ := mapH hr
        exact ixV_out hi he ho ht ha hn hx hj h1
      · cases hp
    · cases hp
  · rename_i x n ho
    obtain ⟨x', hx, rfl⟩ := mapS hp
    obtain ⟨h1, rfl, rfl⟩ := mapH hr
    exact ext_out hi he ho hx h1
  · rename_i as_ ts ho
    split at hp
    · rename_i x t ha hts
      split at hp
      · rename_i x' ht hx
        cases hp
        obtain ⟨h1, rfl, rfl⟩ := mapH hr
        exact lenS_out hi he ho ha hts ht hx h1
      · rename_i e x' ht hx
        cases hp
        obtain ⟨h1, rfl, rfl⟩ := mapH hr
        exact lenL_out hi he ho ha hts ht hx h1
      · rename_i n e x' ht hx
        cases hp
        obtain ⟨rfl, rfl, rfl⟩ := someH hr
        exact lenc_out hi ho ha hts ht
      · cases hp
    · cases hp
  · rename_i as_ ts ho
    split at hp
    · rename_i x y t u ha hts
      split at hp
      · rename_i e x' y' ht hx hy
        split at hp
        · rename_i n by_ z hn hb hz
          split at hp
          · rename_i hc
            obtain ⟨rfl, c1, c2, c3⟩ := hc
            cases hp
            simp only [evPo] at hr
            obtain ⟨r, hb', h2⟩ := mapS hr
            cases h2
            exact app_out hi hd he ho ha hts ht hn hb hz c1 c2 c3 hx hy hb'
          · split at hp
            · rename_i hu
              cases hp
              simp only [evPo] at hr
              split at hr
              · rename_i b hyb
                obtain ⟨r, hb', h2⟩ := mapS hr
                cases h2
                exact appS_out hi hd he ho ha hts ht (by assumption) hn hb hz hx hy hyb hb'
              · cases hr
            · cases hp
        · cases hp
      · cases hp
    · cases hp
  · rename_i as_ ts ho
    split at hp
    · rename_i x t ha hts
      split at hp
      · rename_i e x' ht hx
        split at hp
        · rename_i n z hn hz
          split at hp
          · rename_i hc
            obtain ⟨c1, c2, c3⟩ := hc
            cases hp
            simp only [evPo] at hr
            obtain ⟨r, hb', h2⟩ := mapS hr
            cases h2
            exact clr_out hi he ho ha hts ht hz c1 c2 c3 hx hb'
          · cases hp
        · cases hp
      · cases hp
    · cases hp
  · rename_i as_ ts ho
    obtain ⟨xs, hx, rfl⟩ := mapS hp
    simp only [evPo] at hr
    split at hr
    · rename_i v0 r hv
      obtain ⟨h1, rfl, rfl⟩ := mapH hr
      exact mm_out (mx := false) hi he ho hx hv h1
    · cases hr
  · rename_i as_ ts ho
    obtain ⟨xs, hx, rfl⟩ := mapS hp
    simp only [evPo] at hr
    split at hr
    · rename_i v0 r hv
      obtain ⟨h1, rfl, rfl⟩ := mapH hr
      exact mm_out (mx := true) hi he ho hx hv h1
    · cases hr
  · rename_i fv as_ ts ho
    split at hp
    · rename_i f xs hx
      split at hp
      · split at hp
        · cases hp
          obtain ⟨h1, rfl, rfl⟩ := mapH hr
          exact callq_out hrun hi he ho hx h1
        · cases hp
          exact call_out hrun hi he hd ho hx hr
      · cases hp
    · rename_i t xs hx
      split at hp
      · cases hp
      · cases hp
        simp only [evPo] at hr
        split at hr
        · rename_i f caps hf
          exact callv_out hrun hi he hd ho hx hf hr
        · cases hr
    · cases hp
  · rename_i t x lo up mx ho
    split at hp
    · rename_i el x' lo' hi' mx' ht hx hlo hup hmx
      split at hp
      · rename_i n hn
        cases hp
        obtain ⟨h1, rfl, rfl⟩ := mapH hr
        exact sl3_out hi he ho ht hn hx hlo hup hmx h1
      · cases hp
    · cases hp
  · rename_i t ho
    split at hp
    · cases hp
      obtain ⟨rfl, rfl, rfl⟩ := someH hr
      exact mkm_out hi hd ho
    · cases hp
  · rename_i t x j ok ho
    split at hp
    · rename_i z x' j' hz hx hj
      split at hp
      · rename_i hm
        cases hp
        obtain ⟨h1, rfl, rfl⟩ := mapH hr
        exact mlk_out hi he ho hm hz hx hj h1
      · cases hp
    · cases hp
  · rename_i t m k x ho
    split at hp
    · rename_i m' k' x' hm hk hx
      split at hp
      · rename_i hmp
        cases hp
        simp only [evPo] at hr
        obtain ⟨r, hb', h2⟩ := mapS hr
        cases h2
        exact mup_out hi hd he ho hmp hm hk hx hb'
      · cases hp
    · cases hp
  · cases hp
end
end
end Go.Pev
