/- One operation: the pure evaluator's answer is the machine's. -/
import Derived.Test.YthkehbdljckbdaaCall2
set_option linter.unusedVariables false
set_option linter.unusedSimpArgs false
namespace Go.Pev
open Go Go.RowKit

theorem mapH {x : Option V} {h : HP} {ck : Nat} {v : V} {h' : HP} {c' : Nat} (hr : x.map (·, h, ck) = some (v, h', c')) : x = some v ∧ h' = h ∧ c' = ck := by
  cases x with
  | none => cases hr
  | some y => cases hr; exact ⟨rfl, rfl, rfl⟩
theorem someH {x : V} {h : HP} {ck : Nat} {v : V} {h' : HP} {c' : Nat} (hr : some (x, h, ck) = some (v, h', c')) : x = v ∧ h' = h ∧ c' = ck := by
  cases hr; exact ⟨rfl, rfl, rfl⟩
theorem mapS {α β : Type} {x : Option α} {f : α → β} {y : β} (h : x.map f = some y) : ∃ z, x = some z ∧ f z = y := by
  cases x with
  | none => cases h
  | some z => cases h; exact ⟨z, rfl, rfl⟩

section
variable {P : Program} {run : Run} {R : Rl} {w : World} {dn : Nat → Prop} {me d : Nat} {a : Act} {o : Oper} {s : St} {C : Cfg}

theorem po_sound (hrun : RunOk P run) (hi : HInv R w s.hp s.ck dn) (he : EnvRep R w a s.env) (hd : ¬ dn me) {A : Ann} {rid : Nat} {draw : Bool} {p : Po} (hp : compPo P A rid me draw o = some p) {v : V} {h' : HP} {c' : Nat} (hr : evPo C run d me s p = some (v, h', c')) :
    Out P o a R w s.hp dn me v h' c' := by
  unfold compPo at hp
  split at hp
  · rename_i x ho
    obtain ⟨x', hx, rfl⟩ := mapS hp
    obtain ⟨rfl, rfl, rfl⟩ := someH hr
    exact mv_out hi he (.inl ho) hx
  · rename_i x ho
    split at hp
    · split at hp
      · rename_i e ht
        obtain ⟨n, hn, rfl⟩ := mapS hp
        obtain ⟨rfl, rfl, rfl⟩ := hr
        exact nilv_out hi hd ho e n
      · cases hp
    · obtain ⟨x', hx, rfl⟩ := mapS hp
      obtain ⟨rfl, rfl, rfl⟩ := someH hr
      exact mv_out hi he (.inr ho) hx
  · rename_i c x y ho
    split at hp
    · rename_i c' x' y' hc hx hy
      cases hp
      obtain ⟨h1, rfl, rfl⟩ := mapH hr
      exact pick_out hi he ho hc hx hy h1
    · cases hp
  · rename_i e ho
    split at hp
    · rename_i z hz
      obtain ⟨zs, hzs, rfl⟩ := mapS hp
      obtain ⟨rfl, rfl, rfl⟩ := hr
      exact alloc_out hi hd ho hz hzs
    · cases hp
  · rename_i e x ho
    split at hp
    · rename_i n x' hn hx
      cases hp
      simp only [evPo] at hr
      split at hr
      · rename_i cs hcs
        by_cases hl : cs.length = n
        · rw [if_pos hl] at hr
          obtain ⟨rfl, rfl, rfl⟩ := hr
          exact box_out hi hd he ho hx hcs
        · rw [if_neg hl] at hr; cases hr
      · cases hr
    · cases hp
  · rename_i t ps ho
    split at hp
    · rename_i z fs hz ht
      split at hp
      · rename_i zs fo hzs hfo
        split at hp
        · rename_i pl hpl
          obtain ⟨pl', hpl', rfl⟩ := mapS hp
          simp only [evPo] at hr
          obtain ⟨r, hb, h2⟩ := mapS hr
          cases h2
          exact build_out hi he ho hz hzs (.inl ⟨fs, fo, ht, hfo, hpl⟩) hpl' hb
        · cases hp
      · cases hp
    · rename_i z len e hz ht
      split at hp
      · rename_i zs n hzs hn
        obtain ⟨pl', hpl', rfl⟩ := mapS hp
        simp only [evPo] at hr
        obtain ⟨r, hb, h2⟩ := mapS hr
        cases h2
        exact build_out hi he ho hz hzs (.inr ⟨len, e, n, ht, hn, rfl⟩) hpl' hb
      · cases hp
    · cases hp
  · rename_i t len ps ho
    split at hp
    · rename_i e ht
      split at hp
      · rename_i n z xs hn hz hx
        split at hp
        · rename_i hc
          obtain ⟨c1, c2, c3, c4⟩ := hc
          split at hp
          · cases hp
            simp only [evPo] at hr
            obtain ⟨r, hb, h2⟩ := mapS hr
            cases h2
            exact bslO_out hi hd he ho ht hn hz hx c1 c2 c3 c4 hb
          · cases hp
            simp only [evPo] at hr
            obtain ⟨r, hb, h2⟩ := mapS hr
            cases h2
            exact bslT_out hi he ho ht hn hz hx c1 c2 c3 c4 hb
        · cases hp
      · cases hp
    · cases hp
  · rename_i t x ho
    split at hp
    · rename_i ag n x' ha hn hx
      cases hp
      obtain ⟨h1, rfl, rfl⟩ := mapH hr
      exact load_out hi he ho ha hn hx h1
    · cases hp
  · rename_i t x y ho
    split at hp
    · rename_i n x' y' hn hx hy
      cases hp
      simp only [evPo] at hr
      obtain ⟨r, hb, h2⟩ := mapS hr
      cases h2
      exact store_out hi hd he ho hn hx hy hb
    · cases hp
  · rename_i x ho
    obtain ⟨x', hx, rfl⟩ := mapS hp
    simp only [evPo] at hr
    split at hr
    · rename_i k sz i j h1
      cases hr
      exact nchk_out hi he ho hx (.inl ⟨_, _, _, _, h1, rfl⟩)
    · rename_i cs h1
      cases hr
      exact nchk_out hi he ho hx (.inr ⟨_, h1, rfl⟩)
    · cases hr
  · rename_i op t x y u ho
    split at hp
    · rename_i de x' y' hde hx hy
      have hnk : ∀ k, nilKind de y = k → (k = 1 → (∃ ms, de = .interface ms) ∧ y = .const .nilIface) ∧ (k = 2 → (∃ q, de = .pointer q) ∧ y = .const (.pointer none)) ∧ (k = 3 → (∃ q, de = .slice q) ∧ y = .const (.slice none 0 0)) := by
        intro k hk
        unfold nilKind at hk
        split at hk
        · exact ⟨fun _ => ⟨⟨_, rfl⟩, rfl⟩, fun h => by omega, fun h => by omega⟩
        · exact ⟨fun h => by omega, fun _ => ⟨⟨_, rfl⟩, rfl⟩, fun h => by omega⟩
        · exact ⟨fun h => by omega, fun h => by omega, fun _ => ⟨⟨_, rfl⟩, rfl⟩⟩
        · exact ⟨fun h => by omega, fun h => by omega, fun h => by omega⟩
      split at hp
      · rename_i hk
        obtain ⟨⟨ms, rfl⟩, rfl⟩ := (hnk _ hk).1 rfl
        cases hp
        obtain ⟨h1, rfl, rfl⟩ := mapH hr
        exact isnilI_out (neg := false) hi he (by simpa using ho) hde hx h1
      · rename_i hk
        obtain ⟨⟨ms, rfl⟩, rfl⟩ := (hnk _ hk).1 rfl
        cases hp
        obtain ⟨h1, rfl, rfl⟩ := mapH hr
        exact isnilI_out (neg := true) hi he (by simpa using ho) hde hx h1
      · rename_i hk
        obtain ⟨⟨ms, rfl⟩, rfl⟩ := (hnk _ hk).2.1 rfl
        cases hp
        obtain ⟨h1, rfl, rfl⟩ := mapH hr
        exact isnilP_out (neg := false) hi he (by simpa using ho) hde hx h1
      · rename_i hk
        obtain ⟨⟨ms, rfl⟩, rfl⟩ := (hnk _ hk).2.1 rfl
        cases hp
        obtain ⟨h1, rfl, rfl⟩ := mapH hr
        exact isnilP_out (neg := true) hi he (by simpa using ho) hde hx h1
      · rename_i hk
        obtain ⟨⟨ms, rfl⟩, rfl⟩ := (hnk _ hk).2.2 rfl
        cases hp
        obtain ⟨h1, rfl, rfl⟩ := mapH hr
        exact isnilS_out (neg := false) hi he (by simpa using ho) hde hx h1
      · rename_i hk
        obtain ⟨⟨ms, rfl⟩, rfl⟩ := (hnk _ hk).2.2 rfl
        cases hp
        obtain ⟨h1, rfl, rfl⟩ := mapH hr
        exact isnilS_out (neg := true) hi he (by simpa using ho) hde hx h1
      · split at hp
        · cases hp
          obtain ⟨h1, rfl, rfl⟩ := mapH hr
          exact bin_out hi he ho hde rfl hx hy h1
        · cases hp
          obtain ⟨h1, rfl, rfl⟩ := mapH hr
          exact bin_out hi he ho hde rfl hx hy h1
        · split at hp
          · cases hp
            obtain ⟨h1, rfl, rfl⟩ := mapH hr
            exact beq_out (neg := false) hi he (by simpa using ho) hde hx hy h1
          · cases hp
            obtain ⟨h1, rfl, rfl⟩ := mapH hr
            exact beq_out (neg := true) hi he (by simpa using ho) hde hx hy h1
          · cases hp
        · cases hp
    · cases hp
  · rename_i op t x ho
    obtain ⟨x', hx, rfl⟩ := mapS hp
    obtain ⟨h1, rfl, rfl⟩ := mapH hr
    exact un_out hi he ho hx h1
  · rename_i t u x ho
    split at hp
    · rename_i q k x' hs hd' hx
      cases hp
      obtain ⟨h1, rfl, rfl⟩ := mapH hr
      exact cvi_out hi he ho hs hd' hx h1
    · rename_i x' hs hd' hx
      cases hp
      simp only [evPo] at hr
      split at hr
      · rename_i y h1
        cases hr
        exact cvs_out hi he ho hs hd' hx h1
      · cases hr
    · rename_i e x' hs hd' hx
      split at hp
      · rename_i hel
        cases hp
        simp only [evPo] at hr
        split at hr
        · rename_i y h1
          by_cases hl : y.length ≤ 140737488355328
          · rw [if_pos hl] at hr
            cases hr
            exact sbs_out hi hd he ho hs hel hd' hx h1 hl
          · rw [if_neg hl] at hr; cases hr
        · cases hr
      · cases hp
    · rename_i e x' hs hd' hx
      split at hp
      · rename_i hel
        cases hp
        simp only [evPo] at hr
        split at hr
        · rename_i xs hxs
          obtain ⟨r, hb, h2⟩ := mapS hr
          cases h2
          exact cvbs_out hi he ho hs hel hd' hx hxs hb
        · cases hr
      · cases hp
    · cases hp
  · rename_i f first caps ho
    split at hp
    · rename_i hf
      obtain ⟨cs, hcs, rfl⟩ := mapS hp
      obtain ⟨rfl, rfl, rfl⟩ := someH hr
      exact mkfn_out hi he ho hf hcs
    · cases hp
  · rename_i t l c ho
    split at hp
    · rename_i e ht
      split at hp
      · rename_i n by_ z l' c' hn hb hz hl hc
        split at hp
        · rename_i zs hzs
          split at hp
          · rename_i ts hts
            split at hp
            · rename_i hn0
              cases hp
              simp only [evPo] at hr
              split at hr
              · rename_i m m' hm1 hm2
                split at hr
                · rename_i hcc
                  obtain ⟨rfl, c2, c3, c4, c5⟩ := hcc
                  cases hr
                  exact mks_out hi hd he ho ht hn hb hz hzs hts hn0 hl hc hm1 hm2 c2 c3 c4 c5
                · cases hr
              · cases hr
            · cases hp
          · cases hp
        · cases hp
      · cases hp
    · cases hp
  · rename_i t x lo up ho
    split at hp
    · rename_i x' lo' up' ht hx hlo hup
      cases hp
      obtain ⟨h1, rfl, rfl⟩ := mapH hr
      exact slS_out hi he ho ht hx hlo hup h1
    · rename_i e x' lo' up' ht hx hlo hup
      split at hp
      · rename_i n hn
        split at hp
        · rename_i hn0
          cases hp
          obtain ⟨h1, rfl, rfl⟩ := mapH hr
          exact sls_out hi he ho ht hn hn0 hx hlo hup h1
        · cases hp
      · cases hp
    · cases hp
  · rename_i t x f ho
    split at hp
    · rename_i fs x' ht hx
      split at hp
      · rename_i fd hfd
        split at hp
        · rename_i n hn
          split at hp
          · rename_i hn0
            cases hp
            obtain ⟨h1, rfl, rfl⟩ := mapH hr
            exact fad_out hi he ho ht hfd hn hn0 hx h1
          · cases hp
        · cases hp
      · cases hp
    · cases hp
  · rename_i t x f ho
    split at hp
    · rename_i fs x' ht hx
      split at hp
      · rename_i fd hfd
        split at hp
        · rename_i ag n ha hn
          cases hp
          obtain ⟨h1, rfl, rfl⟩ := mapH hr
          exact fld_out hi he ho ht hfd ha hn hx h1
        · cases hp
      · cases hp
    · cases hp
  · rename_i t x j ho
    split at hp
    · rename_i e x' j' ht hx hj
      split at hp
      · rename_i n hn
        split at hp
        · rename_i hn0
          cases hp
          obtain ⟨h1, rfl, rfl⟩ := mapH hr
          exact ixS_out hi he ho ht hn hn0 hx hj h1
        · cases hp
      · cases hp
    · rename_i len e x' j' ht hx hj
      split at hp
      · rename_i n hn
        split at hp
        · rename_i hn0
          cases hp
          obtain ⟨h1, rfl, rfl⟩ := mapH hr
          exact ixA_out hi he ho ht hn hn0 hx hj h1
        · cases hp
      · cases hp
    · cases hp
  · rename_i t x j ho
    split at hp
    · rename_i x' j' ht hx hj
      cases hp
      obtain ⟨h1, rfl, rfl⟩ := mapH hr
      exact ixs_out hi he ho ht hx hj h1
    · rename_i len e x' j' ht hx hj
      split at hp
      · rename_i ag n ha hn
        cases hp
        obtain ⟨h1, rfl, rfl⟩ := mapH hr
        exact ixV_out hi he ho ht ha hn hx hj h1
      · cases hp
    · cases hp
  · rename_i x n ho
    obtain ⟨x', hx, rfl⟩ := mapS hp
    obtain ⟨h1, rfl, rfl⟩ := mapH hr
    exact ext_out hi he ho hx h1
  · rename_i as_ ts ho
    split at hp
    · rename_i x t ha hts
      split at hp
      · rename_i x' ht hx
        cases hp
        obtain ⟨h1, rfl, rfl⟩ := mapH hr
        exact lenS_out hi he ho ha hts ht hx h1
      · rename_i e x' ht hx
        cases hp
        obtain ⟨h1, rfl, rfl⟩ := mapH hr
        exact lenL_out hi he ho ha hts ht hx h1
      · rename_i n e x' ht hx
        cases hp
        obtain ⟨rfl, rfl, rfl⟩ := someH hr
        exact lenc_out hi ho ha hts ht
      · cases hp
    · cases hp
  · rename_i as_ ts ho
    split at hp
    · rename_i x y t u ha hts
      split at hp
      · rename_i e x' y' ht hx hy
        split at hp
        · rename_i n by_ z hn hb hz
          split at hp
          · rename_i hc
            obtain ⟨rfl, c1, c2, c3⟩ := hc
            cases hp
            simp only [evPo] at hr
            obtain ⟨r, hb', h2⟩ := mapS hr
            cases h2
            exact app_out hi hd he ho ha hts ht hn hb hz c1 c2 c3 hx hy hb'
          · cases hp
        · cases hp
      · cases hp
    · cases hp
  · rename_i as_ ts ho
    split at hp
    · rename_i x t ha hts
      split at hp
      · rename_i e x' ht hx
        split at hp
        · rename_i n z hn hz
          split at hp
          · rename_i hc
            obtain ⟨c1, c2, c3⟩ := hc
            cases hp
            simp only [evPo] at hr
            obtain ⟨r, hb', h2⟩ := mapS hr
            cases h2
            exact clr_out hi he ho ha hts ht hz c1 c2 c3 hx hb'
          · cases hp
        · cases hp
      · cases hp
    · cases hp
  · rename_i as_ ts ho
    obtain ⟨xs, hx, rfl⟩ := mapS hp
    simp only [evPo] at hr
    split at hr
    · rename_i v0 r hv
      obtain ⟨h1, rfl, rfl⟩ := mapH hr
      exact mm_out (mx := false) hi he ho hx hv h1
    · cases hr
  · rename_i as_ ts ho
    obtain ⟨xs, hx, rfl⟩ := mapS hp
    simp only [evPo] at hr
    split at hr
    · rename_i v0 r hv
      obtain ⟨h1, rfl, rfl⟩ := mapH hr
      exact mm_out (mx := true) hi he ho hx hv h1
    · cases hr
  · rename_i fv as_ ts ho
    split at hp
    · rename_i f xs hx
      split at hp
      · split at hp
        · cases hp
          obtain ⟨h1, rfl, rfl⟩ := mapH hr
          exact callq_out hrun hi he ho hx h1
        · cases hp
          exact call_out hrun hi he hd ho hx hr
      · cases hp
    · rename_i t xs hx
      split at hp
      · cases hp
      · cases hp
        simp only [evPo] at hr
        split at hr
        · rename_i f caps hf
          exact callv_out hrun hi he hd ho hx hf hr
        · cases hr
    · cases hp
  · cases hp
end
end Go.Pev
