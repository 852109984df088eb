/- The machine's operations against the pure evaluator's: append. -/
import Derived.Test.YthkehbdljckbdaaOps6
set_option linter.unusedVariables false
set_option linter.unusedSimpArgs false
namespace Go.Pev
open Go Go.RowKit

theorem news_of {S : Nat → Prop} {w : World} {g o sz : Nat} (hsz0 : 0 < sz) {ys : List (List T)} {f : Nat → Nat → Value} (hsz : ∀ c ∈ ys, c.length = sz) (hcell : ∀ i j t, at2 ys i j = some t → w.cell? ⟨g, o + (i * sz + j), none⟩ = some (f i j)) (hrep : ∀ i j t, at2 ys i j = some t → RepT S w (f i j) t) :
    ∃ news : List Value, news.length = ys.length * sz ∧ (∀ (j : Nat) (v : Value), news[j]? = some v → w.cell? ((⟨g, o, none⟩ : Addr).add j) = some v) ∧ (∀ v ∈ news, v.oneCell' = true) ∧ ∀ i j t, at2 ys i j = some t → RepT S w (news.getD (i * sz + j) undef) t := by
  have hat : ∀ q, q < ys.length * sz → ∃ t, at2 ys (q / sz) (q % sz) = some t := by
    intro q hq
    have hd : q / sz < ys.length := (Nat.div_lt_iff_lt_mul hsz0).2 hq
    have hm : q % sz < sz := Nat.mod_lt _ hsz0
    have hc := hsz _ (List.getElem_mem hd)
    exact ⟨_, at2_some (List.getElem?_eq_getElem hd) (List.getElem?_eq_getElem (show q % sz < (ys[q / sz]).length by omega))⟩
  have hq : ∀ q, q / sz * sz + q % sz = q := fun q => by rw [Nat.mul_comm]; exact Nat.div_add_mod q sz
  refine ⟨(List.range (ys.length * sz)).map (fun q => f (q / sz) (q % sz)), by simp, fun j v hv => ?_, fun v hv => ?_, fun i j t ht => ?_⟩
  · rw [List.getElem?_map] at hv
    by_cases hj : j < ys.length * sz
    · rw [List.getElem?_range hj] at hv
      cases hv
      obtain ⟨t, ht⟩ := hat j hj
      rw [addr_add]
      have := hcell _ _ _ ht
      rwa [hq] at this
    · rw [List.getElem?_eq_none (by simp; omega)] at hv
      cases hv
  · obtain ⟨q, hq1, rfl⟩ := List.mem_map.1 hv
    obtain ⟨t, ht⟩ := hat q (by simpa using hq1)
    exact oneCell_repT (hrep _ _ _ ht)
  · obtain ⟨c, hc1, hc2⟩ := at2_elim ht
    have hi1 := (List.getElem?_eq_some_iff.1 hc1).1
    have hj1 := (List.getElem?_eq_some_iff.1 hc2).1
    have hcs := hsz c (List.mem_of_getElem? hc1)
    have hlt : i * sz + j < ys.length * sz := mul_lt (by omega) (by omega)
    have e1 : (i * sz + j) / sz = i := by rw [Nat.mul_comm, Nat.mul_add_div hsz0, Nat.div_eq_of_lt (by omega)]; omega
    have e2 : (i * sz + j) % sz = j := by rw [Nat.mul_comm, Nat.mul_add_mod]; exact Nat.mod_eq_of_lt (by omega)
    rw [List.getD_eq_getElem?_getD, List.getElem?_map, List.getElem?_range hlt]
    simp only [Option.map_some, Option.getD_some, e1, e2]
    exact hrep i j t ht

/-- The elements that are appended. -/
theorem els_rep {R : Rl} {w : World} {hp : HP} {ck : Nat} {dn : Nat → Prop} (hi : HInv R w hp ck dn) {u : Value} {y : V} (h : RepV R w u y) {sz : Nat} (hsz0 : 0 < sz) {ys : List (List T)} (he : elsOf hp sz y = some ys) :
    ∃ (A : Option Addr) (c : Nat) (news : List Value), u = .slice A ys.length c ∧ ys.length ≤ c ∧ (∀ c ∈ ys, c.length = sz) ∧ news.length = ys.length * sz ∧ (∀ ad, A = some ad → ∀ (j : Nat) (v : Value), news[j]? = some v → w.cell? (ad.add j) = some v) ∧ (0 < ys.length → ∃ ad, A = some ad) ∧ (∀ v ∈ news, v.oneCell' = true) ∧ ∀ i j t, at2 ys i j = some t → RepT R.S w (news.getD (i * sz + j) undef) t := by
  unfold elsOf at he
  split at he
  · rename_i xs ht
    by_cases hall : (xs.all fun c => c.length == sz) = true
    · rw [if_pos hall] at he
      cases he
      have hsz : ∀ c ∈ ys, c.length = sz := fun c hc => by simpa using (List.all_eq_true.1 hall c hc)
      have hnil : ys = [] → ∀ A, ∃ news : List Value, news.length = ys.length * sz ∧ (∀ ad : Addr, A = some ad → ∀ (j : Nat) (v : Value), news[j]? = some v → w.cell? (ad.add j) = some v) ∧ (∀ v ∈ news, v.oneCell' = true) ∧ ∀ i j t, at2 ys i j = some t → RepT R.S w (news.getD (i * sz + j) undef) t := by
        rintro rfl A
        exact ⟨[], by simp, by simp, by simp, by intro i j t h; simp [at2] at h⟩
      unfold treeOf at ht
      split at ht
      · cases ht
        obtain ⟨A, c, g, q, f, hv, hc, hA, hS, hcell, hrep⟩ := repT_l (repV_tl h) sz hsz
        rcases Nat.eq_zero_or_pos ys.length with h0 | h0
        · obtain ⟨news, n1, n2, n3, n4⟩ := hnil (List.eq_nil_of_length_eq_zero h0) A
          exact ⟨A, c, news, hv, hc, hsz, n1, n2, by omega, n3, n4⟩
        · obtain ⟨news, n1, n2, n3, n4⟩ := news_of hsz0 hsz hcell hrep
          exact ⟨A, c, news, hv, hc, hsz, n1, fun ad had => by rw [hA h0] at had; cases had; exact n2, fun _ => ⟨_, hA h0⟩, n3, n4⟩
      · cases ht
        have : u = .slice none 0 0 := by cases h; rfl
        obtain ⟨news, n1, n2, n3, n4⟩ := hnil rfl none
        exact ⟨none, 0, news, this, Nat.le_refl _, hsz, n1, n2, fun h => absurd h (by simp), n3, n4⟩
      · cases ht
        cases h with
        | nn A c =>
          obtain ⟨news, n1, n2, n3, n4⟩ := hnil rfl (some A)
          exact ⟨some A, c, news, rfl, Nat.zero_le _, hsz, n1, n2, fun h => absurd h (by simp), n3, n4⟩
      · rename_i k sz' off len
        split at ht
        · rename_i ty sz2 els fz hg
          by_cases hc : sz2 = sz' ∧ off + len ≤ els.length
          · rw [if_pos hc] at ht
            obtain ⟨rfl, hlen⟩ := hc
            cases ht
            have hyl : ((els.drop off).take len).length = len := by simp; omega
            rcases Nat.eq_zero_or_pos len with h0 | h0
            · have hul : ∃ A c, u = .slice A len c ∧ len ≤ c := by
                rcases repV_ow h with ⟨g, tot, A, cap, rfl, hμ, hl, hcap, hA⟩ | ⟨rfl, hμ, rfl, rfl⟩
                · exact ⟨A, cap, rfl, hl⟩
                · exact ⟨none, 0, rfl, Nat.le_refl _⟩
              obtain ⟨A, c, hv, hcl⟩ := hul
              obtain ⟨news, n1, n2, n3, n4⟩ := hnil (List.eq_nil_of_length_eq_zero (by omega)) A
              exact ⟨A, c, news, by rw [hyl]; exact hv, by omega, hsz, n1, n2, by omega, n3, n4⟩
            · rcases repV_ow h with ⟨g, tot, A, cap, rfl, hμ, hl, hcap, hA⟩ | ⟨rfl, hμ, rfl, rfl⟩
              · rcases hi.ob _ _ hg with ⟨h1, _⟩ | ⟨g', n', arr, h1, h2, h3, h4, h5, h6, h7, h8, h9⟩
                · rw [hμ] at h1; cases h1
                · rw [hμ] at h1
                  cases h1
                  have hcs : sz2 = sz := by
                    have hne : off < els.length := by omega
                    have hm : els[off] ∈ (els.drop off).take len := by
                      refine List.mem_of_getElem? (i := 0) ?_
                      rw [List.getElem?_take, if_pos h0, List.getElem?_drop, Nat.add_zero, List.getElem?_eq_getElem hne]
                    exact (h6 _ (List.getElem_mem hne)).symm.trans (hsz _ hm)
                  subst hcs
                  have hget : ∀ i j t, at2 ((els.drop off).take len) i j = some t → at2 els (off + i) j = some t := by
                    intro i j t ht
                    obtain ⟨c, hc1, hc2⟩ := at2_elim ht
                    rw [List.getElem?_take] at hc1
                    by_cases hlt : i < len
                    · rw [if_pos hlt, List.getElem?_drop] at hc1
                      exact at2_some hc1 hc2
                    · rw [if_neg hlt] at hc1; cases hc1
                  obtain ⟨news, n1, n2, n3, n4⟩ := news_of (S := R.S) (w := w) (g := g) (o := off * sz2) hsz0 (f := fun i j => arr.getD ((off + i) * sz2 + j) undef) hsz (fun i j t ht => by
                      obtain ⟨c, hc1, hc2⟩ := at2_elim (hget i j t ht)
                      have hi1 := (List.getElem?_eq_some_iff.1 hc1).1
                      have hj1 := (List.getElem?_eq_some_iff.1 hc2).1
                      have hcs := h6 c (List.mem_of_getElem? hc1)
                      have e1 : off * sz2 + (i * sz2 + j) = (off + i) * sz2 + j := by rw [Nat.add_mul]; omega
                      rw [e1, h2.cell]
                      refine getD_of_getElem? ?_
                      rw [h3]
                      exact mul_lt (by omega) (by omega)) (fun i j t ht => h8 _ _ _ (hget i j t ht))
                  have hA' := hA (by omega)
                  exact ⟨A, cap, news, by rw [hyl], by omega, hsz, n1, fun ad had => by rw [hA'] at had; cases had; exact n2, fun _ => ⟨_, hA'⟩, n3, n4⟩
              · omega
          · rw [if_neg hc] at ht; cases ht
        · cases ht
      · cases ht
    · rw [if_neg hall] at he; cases he
  · cases he

theorem zeroCells_one (z : Array Value) (h : z.all (·.oneCell') = true) (hz : 0 < z.size) (n j : Nat) (hj : j < (Builtin.zeroCells z n).size) : ((Builtin.zeroCells z n).getD j undef).oneCell' = true := by
  have hj' : j < n * z.size := by rwa [size_zeroCells] at hj
  have hm : j % z.size < z.size := Nat.mod_lt _ hz
  rw [Array.getD_eq_getD_getElem?, Array.getElem?_eq_getElem hj, Option.getD_some]
  simp only [Builtin.zeroCells, Array.getElem_map, Array.getElem_range]
  rw [getElem!_pos z _ hm]
  rw [Array.all_eq_true] at h
  exact h _ hm

theorem at2_append (xs ys : List (List T)) (i j : Nat) : at2 (xs ++ ys) i j = if i < xs.length then at2 xs i j else at2 ys (i - xs.length) j := by
  unfold at2
  rw [List.getElem?_append]
  by_cases h : i < xs.length
  · rw [if_pos h, if_pos h]
  · rw [if_neg h, if_neg h]

theorem app_cells {S : Nat → Prop} {w : World} {A arr : Array Value} {news : List Value} {xs ys : List (List T)} {sz : Nat} (hx : ∀ c ∈ xs, c.length = sz) (hy : ∀ c ∈ ys, c.length = sz)
    (h1 : ∀ q, q < xs.length * sz → A.getD q undef = arr.getD q undef) (h2 : ∀ q, q < ys.length * sz → A.getD (xs.length * sz + q) undef = news.getD q undef) (r1 : ∀ i j t, at2 xs i j = some t → RepT S w (arr.getD (i * sz + j) undef) t) (r2 : ∀ i j t, at2 ys i j = some t → RepT S w (news.getD (i * sz + j) undef) t) :
    ∀ i j t, at2 (xs ++ ys) i j = some t → RepT S w (A.getD (i * sz + j) undef) t := by
  intro i j t ht
  rw [at2_append] at ht
  by_cases hi : i < xs.length
  · rw [if_pos hi] at ht
    obtain ⟨c, hc1, hc2⟩ := at2_elim ht
    have hj1 := (List.getElem?_eq_some_iff.1 hc2).1
    have hcs := hx c (List.mem_of_getElem? hc1)
    rw [h1 _ (mul_lt hi (by omega))]
    exact r1 i j t ht
  · rw [if_neg hi] at ht
    obtain ⟨c, hc1, hc2⟩ := at2_elim ht
    have hi1 := (List.getElem?_eq_some_iff.1 hc1).1
    have hj1 := (List.getElem?_eq_some_iff.1 hc2).1
    have hcs := hy c (List.mem_of_getElem? hc1)
    have e : i * sz + j = xs.length * sz + ((i - xs.length) * sz + j) := by
      have : i * sz = xs.length * sz + (i - xs.length) * sz := by rw [← Nat.add_mul]; congr 1; omega
      omega
    rw [e, h2 _ (mul_lt hi1 (by omega))]
    exact r2 _ j t ht

section
variable {P : Program} {o : Oper} {a : Act} {R : Rl} {w : World} {hp : HP} {dn : Nat → Prop} {me ck d : Nat} {e : Env}

theorem append_run0 (t ty el : TypeId) (n : Nat) (ht : P.underlying t = some (.slice el)) (hn : szOf P el = some n) (A : Option Addr) (l cap : Nat) (hl : l ≤ cap) (B : Option Addr) (c : Nat) :
    (Builtin.append_ #[t, t] ty #[.slice A l cap, .slice B 0 c]).run P w = .ok (.slice A l cap) w := by
  have hf : (Builtin.firstCells n 0 (.slice B 0 c)).run P w = .ok #[] w := by
    cases B with
    | none => exact run_firstCells_none w n 0 0 c
    | some b => exact run_firstCells_some w n 0 b 0 c [] (by simp) (by simp)
  cases A with
  | none => simp [Builtin.append_, run_underlying ht, run_szOf hn, Builtin.lenOf, hl, hf]
  | some ad => simp [Builtin.append_, run_underlying ht, run_szOf hn, Builtin.lenOf, hl, hf, storeCells]

theorem getD_append (A B : Array Value) (q : Nat) : (A ++ B).getD q undef = if q < A.size then A.getD q undef else B.getD (q - A.size) undef := by
  rw [Array.getD_eq_getD_getElem?, Array.getElem?_append]
  by_cases h : q < A.size
  · rw [if_pos h, if_pos h, Array.getD_eq_getD_getElem?]
  · rw [if_neg h, if_neg h, Array.getD_eq_getD_getElem?]
theorem toArr_getD (l : List Value) (q : Nat) : l.toArray.getD q undef = l.getD q undef := by simp [List.getD_eq_getElem?_getD, Array.getD_eq_getD_getElem?]

theorem run_append_room_row (w : World) (t ty e : TypeId) (i : TypeInfo) (ht : P.underlying t = some (.slice e)) (hi : P.info? e = some i)
    (g sLen sCap : Nat) (cur : Array Value) (hg : RowAt w g cur e)
    (a : Addr) (m c : Nat) (news : List Value) (hl : news.length = m * i.size) (hnews : ∀ j u, news[j]? = some u → w.cell? (a.add j) = some u) (h1 : ∀ u ∈ news, u.oneCell' = true)
    (hroom : sLen + m ≤ sCap) (hfit : sLen * i.size + news.length ≤ cur.size) :
    (Builtin.append_ #[t, t] ty #[.slice (some ⟨g, 0, none⟩) sLen sCap, .slice (some a) m c]).run P w =
      .ok (.slice (some ⟨g, 0, none⟩) (sLen + m) sCap) (w.setRow g (cur.toList.take (sLen * i.size) ++ news ++ cur.toList.drop (sLen * i.size + news.length)).toArray) := by
  have hf := run_firstCells_some (P := P) w i.size m a m c news hl hnews
  have hst := run_storeCells_row P g (sLen * i.size) e news 0 cur w hg (by simpa using hfit) h1
  simp only [Nat.add_zero] at hst
  simp [Builtin.append_, run_underlying ht, sizeOf, typeInfo, hi, Builtin.lenOf, hroom, hf, Addr.add_lit, hst]

theorem app_out (hi : HInv R w hp ck dn) (hd : ¬ dn me) (he : EnvRep R w a e) {as_ : Array Operand} {ts : Array TypeId} {t el : TypeId} {x y : Operand} {x' y' : Opd} (ho : o.op = .call { callee := .builtin .append, args := as_, argTypes := ts }) (ha : as_.toList = [x, y]) (hts : ts.toList = [t, t]) (ht : P.underlying t = some (.slice el))
    {n bytes : Nat} (hn : szOf P el = some n) (hb : bytesOf P el = some bytes) {z : Value} (hz : zeroOf P el = some z) (hn0 : 0 < n) (hzs : z.cells.size = n) (hz1 : z.cells.all (·.oneCell') = true) (hx : compOpd x = some x') (hy : compOpd y = some y') {r : V} {hp' : HP} (hr : app hp el n bytes ⟨d, ck, me⟩ (x'.ev e) (y'.ev e) = some (r, hp')) :
    Out P o a R w hp dn me r hp' ck := by
  have rx := opd_rep he hx
  have ry := opd_rep he hy
  have ha' : as_ = #[x, y] := by cases as_; simp at ha; simp [ha]
  have ht' : ts = #[t, t] := by cases ts; simp at hts; simp [hts]
  have hrun : ∀ v w', (Builtin.append_ #[t, t] o.type #[a.eval x, a.eval y]).run P w = .ok v w' → (execOp a.eval o).run P w = .ok (.value v) w' := by
    intro v w' h
    simp [execOp, ho, ha', ht', resolve, invoke, builtin, h]
  obtain ⟨ie, hie, hiby⟩ := run_bytesOf hb
  have hsz : ie.size = n := by simpa [szOf, hie] using hn
  have hiz : ie.zero = some z := by simpa [zeroOf, hie] using hz
  unfold app at hr
  split at hr
  · cases hr
  · rename_i ys hys
    obtain ⟨B, c, news, hvy, hmc, hysz, n1, n2, n3, n4, n5⟩ := els_rep hi ry hn0 hys
    split at hr
    · rename_i h1
      rw [h1] at rx
      have hvx : a.eval x = .slice none 0 0 := by generalize a.eval x = u at rx; cases rx; rfl
      rw [hvx, hvy] at hrun
      by_cases hc : ys.length * bytes ≤ 140737488355328 ∧ 0 < bytes
      · rw [if_pos hc] at hr
        cases hr
        obtain ⟨hc1, hc2⟩ := hc
        rcases Nat.eq_zero_or_pos ys.length with h0 | h0
        · have hy0 : ys = [] := List.eq_nil_of_length_eq_zero h0
          subst hy0
          obtain ⟨g1, g2⟩ := alloc_step (w' := w) hi hd ⟨d, ck, me⟩ ⟨rfl, rfl⟩ none (.row el n [] false) rfl rfl rfl (Nat.le_refl _) (fun _ _ => rfl) (by intro g n h; cases h) (fun _ => .inl ⟨updμ_same _ _ _, rfl⟩)
          exact Out.of (.slice none 0 0) w _ (.inl (hrun _ _ (append_run0 t o.type el n ht hn none 0 0 (Nat.le_refl _) B c))) (.owv _ _ (updμ_same _ _ _)) g1 g2
        · obtain ⟨ad, rfl⟩ := n3 h0
          have hm : ys.length ≤ 140737488355328 := by
            have : ys.length * 1 ≤ ys.length * bytes := Nat.mul_le_mul_left _ hc2
            omega
          have h := run_append_nil (P := P) w t o.type el ie z ht hie hiz ad ys.length c news (by rw [hsz]; exact n1) (n2 ad rfl) h0 (by omega) (by rw [hiby]; omega)
          have hge := grownCap_ge w ys.length 0 el
          have hle := grownCap_le_maxLen w ys.length 0 el (by simp only [maxLen]; omega)
          generalize hG : grownCap w ys.length 0 el = G at h hge hle
          have hsize : (news.toArray ++ Builtin.zeroCells z.cells (G - ys.length)).size = G * n := by
            rw [Array.size_append, size_zeroCells, hzs, List.size_toArray, n1, ← Nat.add_mul]; congr 1; omega
          have h4 : ∀ j, j < (news.toArray ++ Builtin.zeroCells z.cells (G - ys.length)).size → ((news.toArray ++ Builtin.zeroCells z.cells (G - ys.length)).getD j undef).oneCell' = true := by
            intro j hj
            rw [getD_append, toArr_getD]
            by_cases hj1 : j < news.toArray.size
            · rw [if_pos hj1]
              have hj2 : j < news.length := by simpa using hj1
              rw [List.getD_eq_getElem?_getD, List.getElem?_eq_getElem hj2]
              exact n4 _ (List.getElem_mem hj2)
            · rw [if_neg hj1]
              rw [Array.size_append] at hj
              exact zeroCells_one _ hz1 (by omega) _ _ (by omega)
          have h5 := app_cells (S := R.S) (w := w) (A := news.toArray ++ Builtin.zeroCells z.cells (G - ys.length)) (arr := #[]) (news := news) (xs := []) (ys := ys) (sz := n) (by simp) hysz (by simp) (fun q hq => by
            rw [List.length_nil, Nat.zero_mul, Nat.zero_add, getD_append, if_pos (by simp [n1]; exact hq), toArr_getD]) (by intro i j t h; simp [at2] at h) n5
          rw [List.nil_append] at h5
          obtain ⟨R', r1, r2, r3⟩ := row_new (d := d) hi hd el n (els := ys) hsize hge hle hysz h4 h5 (w1 := w.drew.alloc (.cells (news.toArray ++ Builtin.zeroCells z.cells (G - ys.length)) el)) rfl rfl rfl rfl
          exact Out.of _ _ R' (.inl (hrun _ _ h)) r1 r2 r3
      · rw [if_neg hc] at hr; cases hr
    · rename_i k sz' off len h1
      rw [h1] at rx
      split at hr
      · rename_i ty' sz2 xs hk
        by_cases hc : sz' = n ∧ sz2 = n ∧ ty' = el ∧ off = 0 ∧ len = xs.length ∧ (len + ys.length) * bytes ≤ 140737488355328 ∧ 0 < bytes
        · rw [if_pos hc] at hr
          cases hr
          obtain ⟨rfl, rfl, rfl, rfl, rfl, hc1, hc2⟩ := hc
          have hm : xs.length + ys.length ≤ 140737488355328 := by
            have : (xs.length + ys.length) * 1 ≤ (xs.length + ys.length) * bytes := Nat.mul_le_mul_left _ hc2
            omega
          -- nothing new: the row goes on under another key
          have hstay : ys.length = 0 → ∀ A cap, a.eval x = .slice A xs.length cap → xs.length ≤ cap → ∀ p, R.μ k = some p → (∀ R' w', R'.μ ⟨k.s, ck, me⟩ = some p → RepV R' w' (.slice A xs.length cap) (.ow ⟨k.s, ck, me⟩ sz2 0 xs.length)) → Out P o a R w hp dn me (.ow ⟨k.s, ck, me⟩ sz2 0 (xs.length + ys.length)) (hp.put k ⟨k.s, ck, me⟩ (.row ty' sz2 (xs ++ ys) false)) ck := by
            intro h0 A cap hvx hl p hμ hrep
            have hy0 : ys = [] := List.eq_nil_of_length_eq_zero h0
            subst hy0
            rw [hvx, hvy] at hrun
            have hob := hi.ob _ _ hk
            obtain ⟨g1, g2⟩ := put_step (w' := w) hi k ⟨k.s, ck, me⟩ (.row ty' sz2 xs false) (.row ty' sz2 (xs ++ []) false) hk rfl p (.inr ⟨rfl, rfl, hd⟩) rfl rfl rfl (Nat.le_refl _) (fun _ _ _ => rfl) (fun g n' h => .inr ⟨n', by rw [hμ, h]⟩) rfl
              (fun ha => by
                rw [List.append_nil]
                have hob' := hob.mono ha (fun _ _ _ => rfl)
                rcases hob with ⟨b1, b2⟩ | ⟨g, tot, arr, b1, b2, b3, b4, b5, b6, b7, b8, b9⟩
                · rw [hμ] at b1; cases b1
                  exact .inl ⟨updμ_same _ _ _, b2⟩
                · rw [hμ] at b1; cases b1
                  exact .inr ⟨g, tot, arr, updμ_same _ _ _, b2, b3, b4, b5, b6, b7, fun i j t ht => (b8 i j t ht).mono ha.S ha.hS, by simp⟩)
            exact Out.of (.slice A xs.length cap) w _ (.inl (hrun _ _ (append_run0 t o.type ty' sz2 ht hn A xs.length cap hl B c))) (hrep _ _ (updμ_same _ _ _)) g1 g2
          -- a new row
          have hgrow : 0 < ys.length → ∀ (G : Nat) (A : Array Value) (w' : World), xs.length + ys.length ≤ G → G ≤ maxLen → w'.heap = (w.alloc (.cells A ty')).heap → w'.os = w.os → w'.tape = w.tape → w'.output = w.output →
              (Builtin.append_ #[t, t] o.type #[a.eval x, a.eval y]).run P w = .ok (.slice (some ⟨w.heap.size, 0, none⟩) (xs.length + ys.length) G) w' → A.size = G * sz2 → (∀ c ∈ xs, c.length = sz2) → (∀ j, j < A.size → (A.getD j undef).oneCell' = true) → (∀ i j t, at2 (xs ++ ys) i j = some t → RepT R.S w (A.getD (i * sz2 + j) undef) t) →
              Out P o a R w hp dn me (.ow ⟨k.s, ck, me⟩ sz2 0 (xs.length + ys.length)) (hp.put k ⟨k.s, ck, me⟩ (.row ty' sz2 (xs ++ ys) false)) ck := by
            intro h0 G A w' hG1 hG2 hh hos htp hout hr2 hsize hxsz h4 h5
            have hold : ∀ g, g < w.heap.size → w'.heap[g]? = w.heap[g]? := fun g hg => by rw [hh]; exact heap_alloc_old w _ g hg
            have hnew : w'.heap[w.heap.size]? = some (.cells A ty' (0, 0)) := by rw [hh]; exact heap_alloc_new w _
            obtain ⟨g1, g2⟩ := put_step (w' := w') hi k ⟨k.s, ck, me⟩ (.row ty' sz2 xs false) (.row ty' sz2 (xs ++ ys) false) hk rfl (some (w.heap.size, G)) (.inr ⟨rfl, rfl, hd⟩) hos htp hout (by rw [hh]; simp) (fun g hg _ => hold g hg) (fun g n' h => by cases h; exact .inl (Nat.le_refl _)) rfl
              (fun ha => .inr ⟨w.heap.size, G, A, updμ_same _ _ _, RowAt.of hnew, hsize, by rw [List.length_append]; exact hG1, hG2, fun c hc => (List.mem_append.1 hc).elim (hxsz c) (hysz c), h4, fun i j t ht => (h5 i j t ht).mono ha.S ha.hS, by simp⟩)
            exact Out.of _ w' _ (.inl (hrun _ _ hr2)) (.ow _ _ _ _ w.heap.size G _ G (updμ_same _ _ _) hG1 (by omega) (fun _ => by rw [Nat.zero_mul])) g1 g2
          rcases repV_ow rx with ⟨g, tot, A, cap, hvx, hμ, hl, hcap, hA⟩ | ⟨hvx, hμ, _, hl0⟩
          · rcases hi.ob _ _ hk with ⟨b1, _⟩ | ⟨g', tot', arr, b1, b2, b3, b4, b5, b6, b7, b8, _⟩
            · rw [hμ] at b1; cases b1
            · rw [hμ] at b1
              cases b1
              obtain rfl : cap = tot := by omega
              rcases Nat.eq_zero_or_pos ys.length with h0 | h0
              · exact hstay h0 A cap hvx hl _ hμ (fun R' w' h => .ow _ _ _ _ g cap A cap h hl (by omega) hA)
              · obtain ⟨ad, rfl⟩ := n3 h0
                have hfit : xs.length * sz2 ≤ arr.size := by rw [b3]; exact Nat.mul_le_mul_right _ hl
                by_cases hroom : xs.length + ys.length ≤ cap
                · have hA' := hA (by omega)
                  rw [Nat.zero_mul] at hA'
                  subst hA'
                  have hfit2 : xs.length * sz2 + news.length ≤ arr.toList.length := by
                    have := Nat.mul_le_mul_right sz2 hroom
                    rw [Nat.add_mul] at this
                    rw [n1, Array.length_toList (xs := arr), b3]; exact this
                  have h := run_append_room_row (P := P) w t o.type ty' ie ht hie g xs.length cap arr b2 ad ys.length c news (by rw [hsz]; exact n1) (n2 ad rfl) n4 hroom (by rw [hsz]; simpa using hfit2)
                  rw [hsz] at h
                  have hg := splice_get arr.toList news (xs.length * sz2)
                  have hs := splice_size arr.toList news (xs.length * sz2) hfit2
                  generalize (arr.toList.take (xs.length * sz2) ++ news ++ arr.toList.drop (xs.length * sz2 + news.length)).toArray = A at h hg hs
                  have hg' := fun j => hg j hfit2
                  rw [Array.length_toList] at hs
                  obtain ⟨g1, g2⟩ := put_step (w' := w.setRow g A) hi k ⟨k.s, ck, me⟩ (.row ty' sz2 xs false) (.row ty' sz2 (xs ++ ys) false) hk rfl (some (g, cap)) (.inr ⟨rfl, rfl, hd⟩) rfl rfl rfl (by simp) (fun q hq hne => setRow_hold _ _ _ _ (fun h => hne cap (by rw [h]; exact hμ))) (fun g' n' h => by cases h; exact .inr ⟨cap, hμ⟩) rfl
                    (fun ha => .inr ⟨g, cap, A, updμ_same _ _ _, b2.set hs, by rw [hs]; exact b3, by rw [List.length_append]; exact hroom, b5, fun c hc => (List.mem_append.1 hc).elim (b6 c) (hysz c), fun q hq => by
                      rw [hs] at hq
                      rw [hg' q]
                      by_cases hh : xs.length * sz2 ≤ q ∧ q < xs.length * sz2 + news.length
                      · rw [if_pos hh, List.getD_eq_getElem?_getD, List.getElem?_eq_getElem (by omega)]
                        exact n4 _ (List.getElem_mem _)
                      · rw [if_neg hh, arr_getD]; exact b7 q hq, fun i j t ht => (app_cells (S := R.S) (w := w) (arr := arr) (news := news) b6 hysz (fun q hq => by rw [hg' q, if_neg (by omega), arr_getD]) (fun q hq => by rw [hg', if_pos (by omega), show xs.length * sz2 + q - xs.length * sz2 = q by omega]) b8 n5 i j t ht).mono ha.S ha.hS, by simp⟩)
                  rw [hvx, hvy] at hrun
                  exact Out.of _ _ _ (.inl (hrun _ _ h)) (.ow _ _ _ _ g cap _ cap (updμ_same _ _ _) hroom (by omega) (fun _ => by rw [Nat.zero_mul])) g1 g2
                · have hxl : xs.length < xs.length + ys.length := by omega
                  have hcapm : Builtin.nextslicecap (xs.length + ys.length) cap * bytes ≤ 281474976710656 := growslice_fits (by omega) hc1
                  have holds : (arr.toList.take (xs.length * sz2)).length = xs.length * sz2 := by rw [List.length_take, Array.length_toList (xs := arr)]; omega
                  have hge := grownCap_ge w (xs.length + ys.length) cap ty'
                  have hle := grownCap_le_maxLen w (xs.length + ys.length) cap ty' (by simp only [maxLen]; omega)
                  have hge0 := grownCap_ge w ys.length 0 ty'
                  have hle0 := grownCap_le_maxLen w ys.length 0 ty' (by simp only [maxLen]; omega)
                  have hfin : ∀ (G : Nat) (A : Array Value), A = (arr.toList.take (xs.length * sz2)).toArray ++ news.toArray ++ Builtin.zeroCells z.cells (G - (xs.length + ys.length)) → xs.length + ys.length ≤ G → A.size = G * sz2 ∧ (∀ j, j < A.size → (A.getD j undef).oneCell' = true) ∧ (∀ i j t, at2 (xs ++ ys) i j = some t → RepT R.S w (A.getD (i * sz2 + j) undef) t) := by
                    intro G A hAA hG
                    have ho1 : (arr.toList.take (xs.length * sz2)).toArray.size = xs.length * sz2 := by rw [List.size_toArray, holds]
                    have hg3 : ∀ q, A.getD q undef = if q < xs.length * sz2 then arr.getD q undef else if q < xs.length * sz2 + ys.length * sz2 then news.getD (q - xs.length * sz2) undef else (Builtin.zeroCells z.cells (G - (xs.length + ys.length))).getD (q - (xs.length * sz2 + ys.length * sz2)) undef := by
                      intro q
                      rw [hAA, getD_append, getD_append, Array.size_append, ho1, List.size_toArray, n1, toArr_getD, toArr_getD]
                      by_cases hq1 : q < xs.length * sz2
                      · rw [if_pos (by omega), if_pos hq1, if_pos hq1, List.getD_eq_getElem?_getD, List.getElem?_take, if_pos hq1, ← List.getD_eq_getElem?_getD, arr_getD]
                      · rw [if_neg hq1, if_neg hq1]
                    have hsA : A.size = G * sz2 := by
                      rw [hAA, Array.size_append, Array.size_append, ho1, List.size_toArray, n1, size_zeroCells, hzs, ← Nat.add_mul, ← Nat.add_mul]; congr 1; omega
                    refine ⟨hsA, fun j hj => ?_, app_cells (arr := arr) (news := news) b6 hysz (fun q hq => by rw [hg3, if_pos hq]) (fun q hq => by rw [hg3, if_neg (by omega), if_pos (by omega), show xs.length * sz2 + q - xs.length * sz2 = q by omega]) b8 n5⟩
                    rw [hg3]
                    by_cases hq1 : j < xs.length * sz2
                    · rw [if_pos hq1]; exact b7 j (by omega)
                    · rw [if_neg hq1]
                      by_cases hq2 : j < xs.length * sz2 + ys.length * sz2
                      · rw [if_pos hq2, List.getD_eq_getElem?_getD, List.getElem?_eq_getElem (by omega)]
                        exact n4 _ (List.getElem_mem _)
                      · rw [if_neg hq2]
                        refine zeroCells_one _ hz1 (by omega) _ _ ?_
                        rw [size_zeroCells, hzs]
                        rw [hsA] at hj
                        have : G * sz2 = xs.length * sz2 + ys.length * sz2 + (G - (xs.length + ys.length)) * sz2 := by rw [← Nat.add_mul, ← Nat.add_mul]; congr 1; omega
                        omega
                  cases A with
                  | some b =>
                    have h := run_append_grow (P := P) w t o.type ty' ie z ht hie hiz b xs.length cap (arr.toList.take (xs.length * sz2)) (by rw [hsz]; exact holds) (fun j v hv => by
                        have hj : j < xs.length * sz2 := by have := (List.getElem?_eq_some_iff.1 hv).1; omega
                        have hxp : 0 < xs.length := by
                          rcases Nat.eq_zero_or_pos xs.length with h | h
                          · rw [h, Nat.zero_mul] at hj; omega
                          · exact h
                        have hA' := hA (by omega)
                        cases hA'
                        rw [List.getElem?_take, if_pos hj] at hv
                        rw [addr_add, Nat.zero_mul, Nat.zero_add, b2.cell]
                        simpa using hv) ad ys.length c news (by rw [hsz]; exact n1) (n2 ad rfl) (by omega) (by omega) (by rw [hiby]; exact hcapm)
                    obtain ⟨f1, f2, f3⟩ := hfin _ _ rfl hge
                    exact hgrow h0 _ _ (w.drew.alloc (.cells _ ty')) hge hle rfl rfl rfl rfl (by rw [hvx, hvy]; exact h) f1 b6 f2 f3
                  | none =>
                    have hcap0 : cap = 0 := by
                      rcases Nat.eq_zero_or_pos cap with h | h
                      · exact h
                      · have := hA h; cases this
                    subst hcap0
                    have hxs0 : xs = [] := List.eq_nil_of_length_eq_zero (by omega)
                    subst hxs0
                    have h := run_append_nil (P := P) w t o.type ty' ie z ht hie hiz ad ys.length c news (by rw [hsz]; exact n1) (n2 ad rfl) h0 (by omega) (by rw [hiby]; simp at hc1; omega)
                    simp only [List.length_nil, Nat.zero_add] at hgrow hfin hvx ⊢
                    obtain ⟨f1, f2, f3⟩ := hfin (grownCap w ys.length 0 ty') (news.toArray ++ Builtin.zeroCells z.cells (grownCap w ys.length 0 ty' - ys.length)) (by simp) hge0
                    exact hgrow h0 _ _ (w.drew.alloc (.cells _ ty')) hge0 hle0 rfl rfl rfl rfl (by rw [hvx, hvy]; exact h) f1 b6 f2 f3
          · have hxs0 : xs = [] := List.eq_nil_of_length_eq_zero hl0
            subst hxs0
            rcases Nat.eq_zero_or_pos ys.length with h0 | h0
            · exact hstay h0 none 0 hvx (Nat.le_refl _) _ hμ (fun R' w' h => .owv _ _ h)
            · obtain ⟨ad, rfl⟩ := n3 h0
              have hge0 := grownCap_ge w ys.length 0 ty'
              have hle0 := grownCap_le_maxLen w ys.length 0 ty' (by simp only [maxLen]; omega)
              have h := run_append_nil (P := P) w t o.type ty' ie z ht hie hiz ad ys.length c news (by rw [hsz]; exact n1) (n2 ad rfl) h0 (by omega) (by rw [hiby]; simp at hc1; omega)
              simp only [List.length_nil, Nat.zero_add] at hgrow hvx ⊢
              generalize hG : grownCap w ys.length 0 ty' = G at h hge0 hle0
              have hsize : (news.toArray ++ Builtin.zeroCells z.cells (G - ys.length)).size = G * sz2 := by
                rw [Array.size_append, size_zeroCells, hzs, List.size_toArray, n1, ← Nat.add_mul]; congr 1; omega
              refine hgrow h0 G _ (w.drew.alloc (.cells (news.toArray ++ Builtin.zeroCells z.cells (G - ys.length)) ty')) hge0 hle0 rfl rfl rfl rfl (by rw [hvx, hvy]; exact h) hsize (by simp) (fun j hj => ?_) (app_cells (arr := #[]) (news := news) (by simp) hysz (by simp) (fun q hq => by
                rw [List.length_nil, Nat.zero_mul, Nat.zero_add, getD_append, if_pos (by simp [n1]; exact hq), toArr_getD]) (by intro i j t h; simp [at2] at h) n5)
              rw [getD_append, toArr_getD]
              by_cases hj1 : j < news.toArray.size
              · rw [if_pos hj1]
                have hj2 : j < news.length := by simpa using hj1
                rw [List.getD_eq_getElem?_getD, List.getElem?_eq_getElem hj2]
                exact n4 _ (List.getElem_mem hj2)
              · rw [if_neg hj1]
                rw [Array.size_append] at hj
                exact zeroCells_one _ hz1 (by omega) _ _ (by omega)
        · rw [if_neg hc] at hr; cases hr
      · cases hr
    · cases hr
end
end Go.Pev
