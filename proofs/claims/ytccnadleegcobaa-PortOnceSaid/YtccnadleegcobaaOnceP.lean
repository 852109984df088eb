/- Two ports and a net between them: plain laws. -/
import Derived.Test.YtccnadleegcobaaSPort5
import Derived.Test.YtccnadleegcobaaWinP
set_option linter.unusedVariables false
set_option linter.unusedSimpArgs false
set_option maxRecDepth 10000
namespace Go.Proofs.Ytccnadleegcobaa.Pv
open Go Go.Pev

structure Net where
  a : Prt
  b : Prt
  there : List (List UInt8)
  back : List (List UInt8)
  got : List Int
  sent : Nat
def txt (n : Int) : List UInt8 := [116, UInt8.ofNat n.toNat]
def dP (n : Int) : List UInt8 := packR 68 n (txt n)
def aP (n : Int) : List UInt8 := packR 65 n []
def againP (p : Prt) : List (List UInt8) := (p.q.filter fun f => decide (packOk 68 f.1 f.2)).map fun f => packR 68 f.1 f.2
def bump (g : List Int) (i : Nat) : List Int := g.set i (g.getD i 0 + 1)
def placeN (l : List (List UInt8)) (i : Nat) : Nat := i % l.length
def delivN (w : Net) (i : Nat) (twice : Bool) : Net :=
  if w.there = [] then w else
  { w with b := (recvP w.b (w.there.getD (placeN w.there i) [])).1
           got := if (recvP w.b (w.there.getD (placeN w.there i) [])).2.2.1 = true ∧ (recvP w.b (w.there.getD (placeN w.there i) [])).2.1.length = 2 then bump w.got ((recvP w.b (w.there.getD (placeN w.there i) [])).2.1.getD 1 0).toNat else w.got
           back := if w.back.length < 300 then w.back ++ [(recvP w.b (w.there.getD (placeN w.there i) [])).2.2.2.1] else w.back
           there := if twice then w.there else w.there.eraseIdx (placeN w.there i) }
def tellN (w : Net) (i : Nat) : Net :=
  if w.back = [] then w else { w with a := (recvP w.a (w.back.getD (placeN w.back i) [])).1, back := w.back.eraseIdx (placeN w.back i) }
def sendN (w : Net) : Net :=
  if (sendP w.a (txt w.sent)).2.2 = 0 ∧ w.sent < 250 ∧ w.there.length < 300 then { w with a := (sendP w.a (txt w.sent)).1, there := w.there ++ [(sendP w.a (txt w.sent)).2.1], sent := w.sent + 1 } else w
def actN (w : Net) (kind i : Nat) : Net :=
  if kind = 0 then sendN w
  else if kind = 1 then delivN w i false
  else if kind = 2 then delivN w i true
  else if kind = 3 then (if w.there = [] then w else { w with there := w.there.eraseIdx (placeN w.there i) })
  else if kind = 4 then tellN w i
  else if kind = 5 then (if w.back = [] then w else { w with back := w.back.eraseIdx (placeN w.back i) })
  else (if w.there.length < 200 then { w with there := w.there ++ againP w.a } else w)

/-- What came to the other side. -/
def Came (w : Net) (n : Int) : Prop := n < w.b.low ∨ n ∈ w.b.seen
instance (w : Net) (n : Int) : Decidable (Came w n) := by unfold Came; exact inferInstance
structure NI (w : Net) : Prop where
  next : w.a.next = w.sent
  low0 : w.a.low = 0
  seen0 : w.a.seen = []
  q : ∀ f ∈ w.a.q, f.2 = txt f.1 ∧ 0 ≤ f.1 ∧ f.1 < w.sent ∧ (w.sent : Int) ≤ f.1 + 32
  qup : (w.a.q.map (·.1)).Pairwise (· < ·)
  bnext : w.b.next = 0
  bq : w.b.q = []
  win : WIs ((w.sent : Int) - 1) w.b.low w.b.seen
  above : ∀ x ∈ w.b.seen, w.b.low < x
  glen : w.got.length = 256
  got : ∀ n : Nat, n < 256 → w.got.getD n 0 = if Came w n then 1 else 0
  pend : ∀ n : Int, 0 ≤ n → n < w.sent → ¬ n ∈ w.a.q.map (·.1) → Came w n
  many : w.sent ≤ 250
  there : ∀ s ∈ w.there, ∃ n : Int, 0 ≤ n ∧ n < w.sent ∧ s = dP n
  back : ∀ s ∈ w.back, ∃ n : Int, 0 ≤ n ∧ n < w.sent ∧ s = aP n ∧ Came w n
  tlen : w.there.length ≤ 300
  blen : w.back.length ≤ 300
theorem sorted_len : ∀ (l : List Int) (a b : Int), l.Pairwise (· < ·) → (∀ x ∈ l, a < x ∧ x < b) → a < b → (l.length : Int) ≤ b - a - 1
  | [], a, b, _, _, h => by simp; omega
  | x :: r, a, b, hp, hm, h => by
    have hp' := List.pairwise_cons.1 hp
    have hx := hm x List.mem_cons_self
    have := sorted_len r x b hp'.2 (fun y hy => ⟨hp'.1 y hy, (hm y (List.mem_cons_of_mem _ hy)).2⟩ ) (by omega)
    simp only [List.length_cons]; omega
theorem NI.short {w : Net} (h : NI w) : w.b.seen.length < 32 := by
  obtain ⟨w1, w2, w3, w4, w5⟩ := h.win
  by_cases c : w.b.low < w.sent
  · have hn : ¬ Came w w.b.low := by
      rintro (h1 | h1)
      · omega
      · have := h.above _ h1; omega
    have hq : w.b.low ∈ w.a.q.map (·.1) := by
      by_cases hh : w.b.low ∈ w.a.q.map (·.1)
      · exact hh
      · exact absurd (h.pend _ w1 c hh) hn
    obtain ⟨f, hf, e⟩ := List.mem_map.1 hq
    have := (h.q f hf).2.2.2
    have := sorted_len w.b.seen w.b.low w.sent w3 (fun x hx => ⟨h.above x hx, by have := w4 x hx; omega⟩) c
    omega
  · cases hs : w.b.seen with
    | nil => simp
    | cons x r =>
      have := w4 x (by rw [hs]; exact List.mem_cons_self)
      omega
theorem NI.came_lt {w : Net} (h : NI w) {n : Int} (hc : Came w n) : n < w.sent := by
  obtain ⟨w1, w2, w3, w4, w5⟩ := h.win
  rcases hc with hc | hc
  · omega
  · have := w4 n hc; omega
/-- A packet comes to the other side. -/
theorem recv_new {w : Net} (h : NI w) {n : Int} (h0 : 0 ≤ n) (hn : n < w.sent) : recvP w.b (dP n) = if Came w n then (w.b, [], false, aP n, 0) else ({ w.b with low := (acc w.b.low w.b.seen n).1, seen := (acc w.b.low w.b.seen n).2.1 }, txt n, true, aP n, 0) := by
  have hm := h.many
  have hr : 0 ≤ n ∧ n ≤ 2147483647 := ⟨h0, by omega⟩
  obtain ⟨a1, -⟩ := acc_is (n := n) h.win (by omega) h0 (by omega)
  unfold dP
  rw [recv_data hr, a1]
  by_cases c : Came w n
  · rw [if_pos c, decide_eq_false (by unfold Came at c; exact fun hh => hh c), if_neg (by simp)]; rfl
  · rw [if_neg c, decide_eq_true (by unfold Came at c; exact c), if_pos rfl]; rfl
theorem txt_len (n : Int) : (txt n).length = 2 := rfl
theorem txt_1 {n : Int} (h0 : 0 ≤ n) (h : n < 250) : ((txt n).getD 1 0).toNat = n.toNat := by
  show (UInt8.ofNat n.toNat).toNat = n.toNat
  rw [UInt8.toNat_ofNat']
  exact Nat.mod_eq_of_lt (by omega)
/-- The other side, when one more came. -/
theorem came_new {w : Net} (h : NI w) {n : Int} (h0 : 0 ≤ n) (hn : n < w.sent) : WIs ((w.sent : Int) - 1) (acc w.b.low w.b.seen n).1 (acc w.b.low w.b.seen n).2.1 ∧ (∀ x ∈ (acc w.b.low w.b.seen n).2.1, (acc w.b.low w.b.seen n).1 < x) ∧ ∀ x, (x < (acc w.b.low w.b.seen n).1 ∨ x ∈ (acc w.b.low w.b.seen n).2.1) ↔ (Came w x ∨ x = n) := by
  have hm := h.many
  obtain ⟨a1, a2, a3, a4, a5, a6⟩ := acc_is (n := n) h.win (by omega) h0 (by omega)
  refine ⟨a2, a5 h.above, fun x => ⟨fun hx => ?_, fun hx => ?_⟩⟩
  · rcases a6 h.short x hx with q | q | q
    · exact .inl (.inl q)
    · exact .inl (.inr q)
    · exact .inr q
  · rcases hx with q | rfl
    · exact a3 x q
    · exact a4
theorem erase_mem {l : List (List UInt8)} {i : Nat} {s : List UInt8} (h : s ∈ l.eraseIdx i) : s ∈ l := List.mem_of_mem_eraseIdx h
theorem erase_len (l : List (List UInt8)) (i : Nat) : (l.eraseIdx i).length ≤ l.length := by
  rw [List.length_eraseIdx]; split <;> omega
theorem at_mem {l : List (List UInt8)} (hl : l ≠ []) (i : Nat) : l.getD (placeN l i) [] ∈ l := by
  have hp : 0 < l.length := List.length_pos_iff.2 hl
  have hlt : placeN l i < l.length := Nat.mod_lt _ hp
  have e : l.getD (placeN l i) [] = l[placeN l i] := by simp [List.getD_eq_getElem?_getD, hlt]
  rw [e]; exact List.getElem_mem hlt
theorem ni_same {w w' : Net} (h : NI w) (e1 : w'.a = w.a) (e2 : w'.b = w.b) (e3 : w'.got = w.got) (e4 : w'.sent = w.sent) (t1 : ∀ s ∈ w'.there, s ∈ w.there ∨ ∃ n : Int, 0 ≤ n ∧ n < w.sent ∧ s = dP n) (t2 : ∀ s ∈ w'.back, s ∈ w.back) (l1 : w'.there.length ≤ 300) (l2 : w'.back.length ≤ 300) : NI w' := by
  have hc : ∀ n, Came w' n ↔ Came w n := fun n => by unfold Came; rw [e2]
  refine ⟨by rw [e1, e4]; exact h.next, by rw [e1]; exact h.low0, by rw [e1]; exact h.seen0, by rw [e1, e4]; exact h.q, by rw [e1]; exact h.qup, by rw [e2]; exact h.bnext, by rw [e2]; exact h.bq, by rw [e2, e4]; exact h.win, by rw [e2]; exact h.above, by rw [e3]; exact h.glen, fun n hn => ?_, fun n h0 h1 h2 => ?_, by rw [e4]; exact h.many, fun s hs => ?_, fun s hs => ?_, l1, l2⟩
  · rw [e3, h.got n hn]
    simp only [hc]
  · rw [e4] at h1; rw [e1] at h2
    exact (hc n).2 (h.pend n h0 h1 h2)
  · rw [e4]
    rcases t1 s hs with q | q
    · exact h.there s q
    · exact q
  · obtain ⟨n, a1, a2, a3, a4⟩ := h.back s (t2 s hs)
    rw [e4]
    exact ⟨n, a1, a2, a3, (hc n).2 a4⟩
/-- Delivered: what came, and what goes back. -/
theorem ni_deliv {w : Net} (h : NI w) (i : Nat) (twice : Bool) : NI (delivN w i twice) ∧ (delivN w i twice).a = w.a ∧ (delivN w i twice).sent = w.sent ∧ (∀ n, Came w n → Came (delivN w i twice) n) ∧ (w.there ≠ [] → ∃ n, 0 ≤ n ∧ n < (w.sent : Int) ∧ w.there.getD (placeN w.there i) [] = dP n ∧ Came (delivN w i twice) n ∧ (delivN w i twice).back = if w.back.length < 300 then w.back ++ [aP n] else w.back) := by
  unfold delivN
  by_cases hne : w.there = []
  · rw [if_pos hne]
    exact ⟨h, rfl, rfl, fun n hn => hn, fun hc => absurd hne hc⟩
  rw [if_neg hne]
  obtain ⟨n, h0, hn, hs⟩ := h.there _ (at_mem hne i)
  have hm := h.many
  have hbl := h.blen
  have htl := h.tlen
  rw [hs, recv_new h h0 hn]
  have hth : ∀ s ∈ (if twice = true then w.there else w.there.eraseIdx (placeN w.there i)), s ∈ w.there := by
    intro s hs
    split at hs
    · exact hs
    · exact erase_mem hs
  have hthl : (if twice = true then w.there else w.there.eraseIdx (placeN w.there i)).length ≤ 300 := by
    have := erase_len w.there (placeN w.there i)
    split <;> omega
  have hbkl : (if w.back.length < 300 then w.back ++ [aP n] else w.back).length ≤ 300 := by
    split
    · simp; omega
    · exact hbl
  by_cases c : Came w n
  · rw [if_pos c]
    simp only [Bool.false_eq_true, false_and, if_false]
    refine ⟨⟨h.next, h.low0, h.seen0, h.q, h.qup, h.bnext, h.bq, h.win, h.above, h.glen, h.got, h.pend, h.many, fun s hs => h.there s (hth s hs), fun s hs => ?_, hthl, hbkl⟩, by trivial, by trivial, fun n hn => hn, fun _ => ⟨n, h0, hn, rfl, c, rfl⟩⟩
    simp only at hs
    split at hs
    · rcases List.mem_append.1 hs with hs | hs
      · exact h.back s hs
      · rw [List.mem_singleton] at hs
        exact ⟨n, h0, hn, hs, c⟩
    · exact h.back s hs
  · rw [if_neg c]
    obtain ⟨c1, c2, c3⟩ := came_new h h0 hn
    simp only [txt_len, and_self, if_true]
    rw [txt_1 h0 (by omega)]
    have hc : ∀ x, Came { w with b := { w.b with low := (acc w.b.low w.b.seen n).1, seen := (acc w.b.low w.b.seen n).2.1 }, got := bump w.got n.toNat, back := if w.back.length < 300 then w.back ++ [aP n] else w.back, there := if twice = true then w.there else w.there.eraseIdx (placeN w.there i) } x ↔ (Came w x ∨ x = n) := c3
    refine ⟨⟨h.next, h.low0, h.seen0, h.q, h.qup, h.bnext, h.bq, c1, c2, by simp only [bump, List.length_set]; exact h.glen, fun k hk => ?_, fun k k0 k1 k2 => (hc k).2 (.inl (h.pend k k0 k1 k2)), h.many, fun s hs => h.there s (hth s hs), fun s hs => ?_, hthl, hbkl⟩, by trivial, by trivial, fun k hk => (hc k).2 (.inl hk), fun _ => ⟨n, h0, hn, rfl, (hc n).2 (.inr rfl), rfl⟩⟩
    · simp only [hc]
      have hg := h.got k hk
      simp only [bump]
      by_cases e : n.toNat = k
      · have e2 : (k : Int) = n := by omega
        have hz : w.got.getD k 0 = 0 := by rw [hg, e2, if_neg c]
        rw [List.getD_eq_getElem?_getD, e, List.getElem?_set_self (by rw [h.glen]; exact hk), hz, if_pos (.inr e2)]
        rfl
      · have e2 : ¬ (k : Int) = n := by omega
        rw [List.getD_eq_getElem?_getD, List.getElem?_set_ne e, ← List.getD_eq_getElem?_getD, hg]
        by_cases ck : Came w k
        · rw [if_pos ck, if_pos (.inl ck)]
        · rw [if_neg ck, if_neg (fun q => q.elim ck e2)]
    · simp only at hs
      split at hs
      · rcases List.mem_append.1 hs with hs | hs
        · obtain ⟨k, a1, a2, a3, a4⟩ := h.back s hs
          exact ⟨k, a1, a2, a3, (hc k).2 (.inl a4)⟩
        · rw [List.mem_singleton] at hs
          exact ⟨n, h0, hn, hs, (hc n).2 (.inr rfl)⟩
      · obtain ⟨k, a1, a2, a3, a4⟩ := h.back s hs
        exact ⟨k, a1, a2, a3, (hc k).2 (.inl a4)⟩
theorem fst_filter (n : Int) : ∀ q : List Fr, (q.filter (keepF n)).map (·.1) = (q.map (·.1)).filter (fun x => x != n)
  | [] => rfl
  | f :: q => by
    simp only [List.map_cons, List.filter_cons, keepF]
    split
    · rw [List.map_cons, fst_filter n q]
    · exact fst_filter n q
theorem ni_tell {w : Net} (h : NI w) (i : Nat) : NI (tellN w i) ∧ (tellN w i).b = w.b ∧ (tellN w i).sent = w.sent ∧ (tellN w i).got = w.got ∧ (tellN w i).there = w.there ∧ (w.back ≠ [] → ∃ n, w.back.getD (placeN w.back i) [] = aP n ∧ (0 ≤ n ∧ n < (w.sent : Int)) ∧ (tellN w i).a.q = w.a.q.filter (keepF n) ∧ (tellN w i).back = w.back.eraseIdx (placeN w.back i)) := by
  unfold tellN
  by_cases hne : w.back = []
  · rw [if_pos hne]
    exact ⟨h, rfl, rfl, rfl, rfl, fun hc => absurd hne hc⟩
  rw [if_neg hne]
  obtain ⟨n, h0, hn, hs, hcm⟩ := h.back _ (at_mem hne i)
  have hm := h.many
  have hbl := h.blen
  have hel := erase_len w.back (placeN w.back i)
  rw [hs]
  unfold aP
  rw [recv_told ⟨h0, by omega⟩]
  refine ⟨⟨h.next, h.low0, h.seen0, fun f hf => h.q f (List.mem_filter.1 hf).1, ?_, h.bnext, h.bq, h.win, h.above, h.glen, h.got, fun k k0 k1 k2 => ?_, h.many, h.there, fun s hs => h.back s (erase_mem hs), h.tlen, by simp only; omega⟩, rfl, rfl, rfl, rfl, fun _ => ⟨n, rfl, ⟨h0, hn⟩, rfl, rfl⟩⟩
  · simp only
    rw [fst_filter]
    exact h.qup.filter _
  · simp only at k2
    rw [fst_filter] at k2
    by_cases e : k = n
    · rw [e]; exact hcm
    · refine h.pend k k0 k1 fun hk => k2 (List.mem_filter.2 ⟨hk, by simpa using e⟩)
theorem send_ok {w : Net} (h : NI w) (he : (sendP w.a (txt w.sent)).2.2 = 0) : sendP w.a (txt w.sent) = ({ w.a with next := w.a.next + 1, q := w.a.q ++ [(w.a.next, txt w.sent)] }, packR 68 w.a.next (txt w.sent), 0) ∧ ¬ busyP w.a.next w.a.q := by
  unfold sendP at he ⊢
  split
  · rename_i c; rw [if_pos c] at he; cases he
  · rename_i c
    rw [if_neg c] at he
    split
    · rename_i c2; rw [if_pos c2] at he; cases he
    · rename_i c2
      rw [if_neg c2] at he
      split
      · rename_i c3; rw [if_pos c3] at he; cases he
      · exact ⟨rfl, c2⟩
theorem ni_send {w : Net} (h : NI w) : NI (sendN w) := by
  unfold sendN
  split
  · rename_i hc
    obtain ⟨c1, c2, c3⟩ := hc
    obtain ⟨e, hb⟩ := send_ok h c1
    rw [e]
    have hmin : ∀ f ∈ w.a.q, (w.sent : Int) + 1 ≤ f.1 + 32 := by
      intro f hf
      cases hq : w.a.q with
      | nil => rw [hq] at hf; cases hf
      | cons g r =>
        have hg : w.a.next - g.1 < 32 := by
          by_cases hh : 32 ≤ w.a.next - g.1
          · exact absurd ⟨g, r, hq, hh⟩ hb
          · omega
        rw [h.next] at hg
        rw [hq] at hf
        have hp := h.qup
        rw [hq, List.map_cons, List.pairwise_cons] at hp
        rcases List.mem_cons.1 hf with rfl | hf
        · omega
        · have := hp.1 f.1 (List.mem_map.2 ⟨f, hf, rfl⟩); omega
    obtain ⟨w1, w2, w3, w4, w5⟩ := h.win
    refine ⟨?_, h.low0, h.seen0, fun f hf => ?_, ?_, h.bnext, h.bq, ⟨w1, ?_, w3, fun x hx => ?_, w5⟩, h.above, h.glen, h.got, fun k k0 k1 k2 => ?_, ?_, fun s hs => ?_, fun s hs => ?_, ?_, h.blen⟩
    · simp only [h.next]; omega
    · simp only at hf ⊢
      rcases List.mem_append.1 hf with hf | hf
      · obtain ⟨q1, q2, q3, q4⟩ := h.q f hf
        have := hmin f hf
        exact ⟨q1, q2, by omega, by omega⟩
      · rw [List.mem_singleton] at hf
        rw [hf, h.next]
        exact ⟨rfl, by simp only; omega, by simp only; omega, by simp only; omega⟩
    · simp only
      rw [List.map_append, List.pairwise_append]
      refine ⟨h.qup, by simp, fun x hx y hy => ?_⟩
      obtain ⟨f, hf, rfl⟩ := List.mem_map.1 hx
      have := (h.q f hf).2.2.1
      simp only [List.map_cons, List.map_nil, List.mem_singleton] at hy
      rw [hy, h.next]; exact this
    · simp only; omega
    · have := w4 x hx; simp only; omega
    · simp only at k1 k2
      rw [List.map_append, List.mem_append, h.next] at k2
      simp only [List.map_cons, List.map_nil, List.mem_singleton, not_or] at k2
      exact h.pend k k0 (by omega) k2.1
    · simp only; omega
    · simp only at hs ⊢
      rcases List.mem_append.1 hs with hs | hs
      · obtain ⟨n, a1, a2, a3⟩ := h.there s hs
        exact ⟨n, a1, by omega, a3⟩
      · rw [List.mem_singleton, h.next] at hs
        exact ⟨w.sent, by omega, by omega, hs⟩
    · obtain ⟨n, a1, a2, a3, a4⟩ := h.back s hs
      exact ⟨n, a1, by simp only; omega, a3, a4⟩
    · simp only [List.length_append, List.length_cons, List.length_nil]; omega
  · exact h
theorem q_len {w : Net} (h : NI w) : w.a.q.length ≤ 32 := by
  cases hq : w.a.q.map (·.1) with
  | nil =>
    have : (w.a.q.map (·.1)).length = 0 := by rw [hq]; rfl
    rw [List.length_map] at this; omega
  | cons x r =>
    have hin : ∀ y : Int, y ∈ w.a.q.map (·.1) → y < w.sent ∧ (w.sent : Int) ≤ y + 32 := fun y hy => by
      obtain ⟨f, hf, rfl⟩ := List.mem_map.1 hy
      exact ⟨(h.q f hf).2.2.1, (h.q f hf).2.2.2⟩
    have hx := hin x (by rw [hq]; exact List.mem_cons_self)
    have := sorted_len (w.a.q.map (·.1)) ((w.sent : Int) - 33) w.sent h.qup (fun y hy => by have := hin y hy; omega) (by omega)
    rw [List.length_map] at this
    omega
theorem again_mem {w : Net} (h : NI w) : againP w.a = w.a.q.map fun f => dP f.1 := by
  have hm := h.many
  have hall : ∀ f ∈ w.a.q, decide (packOk 68 f.1 f.2) = true := fun f hf => by
    obtain ⟨q1, q2, q3, q4⟩ := h.q f hf
    exact decide_eq_true ⟨.inl rfl, q2, by omega⟩
  unfold againP
  rw [List.filter_eq_self.2 hall]
  refine List.map_congr_left fun f hf => ?_
  unfold dP
  rw [(h.q f hf).1]
theorem ni_act {w : Net} (h : NI w) (k i : Nat) : NI (actN w k i) := by
  have htl := h.tlen
  have hbl := h.blen
  unfold actN
  split
  · exact ni_send h
  split
  · exact (ni_deliv h i false).1
  split
  · exact (ni_deliv h i true).1
  split
  · split
    · exact h
    · have := erase_len w.there (placeN w.there i)
      exact ni_same h rfl rfl rfl rfl (fun s hs => .inl (erase_mem hs)) (fun s hs => hs) (by simp only; omega) hbl
  split
  · exact (ni_tell h i).1
  split
  · split
    · exact h
    · have := erase_len w.back (placeN w.back i)
      exact ni_same h rfl rfl rfl rfl (fun s hs => .inl hs) (fun s hs => erase_mem hs) htl (by simp only; omega)
  · split
    · have hq := q_len h
      rw [again_mem h]
      refine ni_same h rfl rfl rfl rfl (fun s hs => ?_) (fun s hs => hs) (by simp; omega) hbl
      rcases List.mem_append.1 hs with hs | hs
      · exact .inl hs
      · obtain ⟨f, hf, rfl⟩ := List.mem_map.1 hs
        exact .inr ⟨f.1, (h.q f hf).2.1, (h.q f hf).2.2.1, rfl⟩
    · exact h
def net0 : Net := ⟨⟨0, [], 0, []⟩, ⟨0, [], 0, []⟩, [], [], List.replicate 256 0, 0⟩
theorem ni_0 : NI net0 := by
  refine ⟨rfl, rfl, rfl, by simp [net0], by simp [net0], rfl, rfl, ⟨by simp [net0], by simp [net0], by simp [net0], by simp [net0], by simp [net0]⟩, by simp [net0], by simp [net0], fun n hn => ?_, fun n h0 h1 => ?_, by simp [net0], by simp [net0], by simp [net0], by simp [net0], by simp [net0]⟩
  · have : ¬ Came net0 n := by
      rintro (h | h)
      · simp [net0] at h; omega
      · simp [net0] at h
    rw [if_neg this]
    show (List.replicate 256 (0 : Int)).getD n 0 = 0
    rw [List.getD_eq_getElem?_getD, List.getElem?_replicate, if_pos hn]; rfl
  · simp [net0] at h1; omega
/-- What the law asks for at each act. -/
theorem ni_got {w : Net} (h : NI w) {n : Nat} (hn : n < 256) : w.got.getD n 0 ≤ 1 ∧ (0 < w.got.getD n 0 → n < w.sent) ∧ 0 ≤ w.got.getD n 0 := by
  rw [h.got n hn]
  by_cases c : Came w n
  · rw [if_pos c]
    have := h.came_lt c
    exact ⟨by omega, fun _ => by omega, by omega⟩
  · rw [if_neg c]
    exact ⟨by omega, fun hh => by omega, by omega⟩
end Go.Proofs.Ytccnadleegcobaa.Pv
