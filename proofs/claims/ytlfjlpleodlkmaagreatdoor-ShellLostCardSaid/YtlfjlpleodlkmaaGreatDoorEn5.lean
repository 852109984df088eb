/- What this law leans on, of the framework and of the functions (by claimset.py). -/
import Derived.Test.YtlfjlpleodlkmaaGreatDoorCfg
import Derived.Lib.Split
import Derived.Lib.AtoiAll
import Derived.Lib.ItoaLen
import Derived.Test.YtlfjlpleodlkmaaGreatDoorEn4
set_option linter.unusedVariables false
set_option linter.unusedSimpArgs false
namespace Go.Proofs.YtlfjlpleodlkmaaGreatDoor.Pv
open Go Go.Pev
section
def Step (E : Option (Ex × St)) (N : St → Prop) (Q : Option (Ex × St) → Prop) : Prop := match E with
  | some (.normal, s) => N s
  | some (e, s) => Q (some (e, s))
  | none => False
theorem step_n (s : St) (N : St → Prop) (Q : Option (Ex × St) → Prop) : Step (some (.normal, s)) N Q = N s := id rfl
theorem step_e (i : Nat) (s : St) (N : St → Prop) (Q : Option (Ex × St) → Prop) : Step (some (.exit i, s)) N Q = Q (some (.exit i, s)) := id rfl
theorem step_r (s : St) (N : St → Prop) (Q : Option (Ex × St) → Prop) : Step (some (.ret, s)) N Q = Q (some (.ret, s)) := id rfl
@[congr] theorem step_congr {E E' : Option (Ex × St)} {N : St → Prop} {Q : Option (Ex × St) → Prop} (h : E = E') : Step E N Q = Step E' N Q := by rw [h]
attribute [simp] step_n step_e step_r
theorem loop_q {C : Cfg} {l : Pc} {Q : Option (Ex × St) → Prop} (n : Nat) (P : Nat → St → Prop)
    (hs : ∀ i s, i < n → P i s → Step (evL C l s) (P (i + 1)) Q) (he : ∀ s, P n s → Step (evL C l s) (fun _ => False) Q) (s : St) (h : P 0 s) : Q (evL C (.loop l) s) := by
  have key : ∀ k i s, i + k = n → P i s → Q (evL C (.loop l) s) := by
    intro k
    induction k with
    | zero =>
      intro i s hi hp
      have hi' : i = n := by omega
      subst hi'
      have h1 := he s hp
      cases hE : evL C l s with
      | none => rw [hE] at h1; exact h1.elim
      | some r =>
        obtain ⟨e, s'⟩ := r
        rw [hE] at h1
        cases e with
        | normal => exact h1.elim
        | exit j => rw [evL_loop_x hE (by simp)]; exact h1
        | ret => rw [evL_loop_x hE (by simp)]; exact h1
    | succ k ih =>
      intro i s hi hp
      have h1 := hs i s (by omega) hp
      cases hE : evL C l s with
      | none => rw [hE] at h1; exact h1.elim
      | some r =>
        obtain ⟨e, s'⟩ := r
        rw [hE] at h1
        cases e with
        | normal => rw [evL_loop_n hE]; exact ih (i + 1) s' (by omega) h1
        | exit j => rw [evL_loop_x hE (by simp)]; exact h1
        | ret => rw [evL_loop_x hE (by simp)]; exact h1
  exact key n 0 s (by omega) h
def RetR (E : Option (V × HP × Nat)) (x : V) : Prop := match E with
  | some (r, h, _) => resOf h r = some x
  | none => False
theorem retR_some (r : V) (h : HP) (c : Nat) (x : V) : RetR (some (r, h, c)) x = (resOf h r = some x) := id rfl
@[congr] theorem retR_congr {E E' : Option (V × HP × Nat)} {x : V} (h : E = E') : RetR E x = RetR E' x := by rw [h]
attribute [simp] retR_some
theorem retT_r {C : Cfg} {f : Nat} {args : List V} {x : V} : RetT C f args x ↔ RetR (runL C f args [] 0) x := by
  constructor
  · rintro ⟨r, h, c, h1, h2⟩
    rw [h1]; exact h2
  · intro h
    cases hE : runL C f args [] 0 with
    | none => rw [hE] at h; exact h.elim
    | some y =>
      obtain ⟨r, hh, c⟩ := y
      rw [hE] at h
      exact ⟨r, hh, c, hE, h⟩
theorem treesOf_t (h : HP) : ∀ ts : List T, treesOf h (ts.map .t) = some ts
  | [] => rfl
  | t :: ts => by simp [treesOf, treeOf, treesOf_t h ts]
theorem keys1_t (h : HP) (ts : List T) : (ts.map V.t).flatMap (keysOf1 h) = [] := by
  induction ts with
  | nil => rfl
  | cons t ts ih => simp [keysOf1, ih]
def fidx {α : Type} (p : α → Bool) : List α → Int
  | [] => -1
  | x :: r => if p x then 0 else if fidx p r < 0 then -1 else fidx p r + 1
theorem fidx_neg {α : Type} (p : α → Bool) : ∀ l : List α, fidx p l < 0 ↔ l.any p = false
  | [] => by simp [fidx]
  | x :: r => by
    have ih := fidx_neg p r
    unfold fidx
    by_cases h : p x = true
    · simp [h]
    · have h' : p x = false := by simpa using h
      rw [if_neg h]
      by_cases h2 : fidx p r < 0
      · rw [if_pos h2]; simp [h', ih.1 h2]
      · rw [if_neg h2]
        have : ¬ (r.any p = false) := fun e => h2 (ih.2 e)
        simp [h', this]; omega
theorem fidx_ge {α : Type} (p : α → Bool) (l : List α) : -1 ≤ fidx p l := by
  cases l with
  | nil => simp [fidx]
  | cons x r => unfold fidx; split; · omega
                split <;> omega
theorem fidx_at {α : Type} (p : α → Bool) : ∀ (l : List α) (i : Nat) (h : i < l.length), (∀ (j : Nat) (hj : j < i), p (l[j]'(by omega)) = false) → p l[i] = true → fidx p l = i
  | x :: r, 0, h, _, h2 => by simp at h2; simp [fidx, h2]
  | x :: r, i + 1, h, h1, h2 => by
    have h0 := h1 0 (by omega)
    simp at h0
    have ih := fidx_at p r i (by simpa using h) (fun j hj => by have := h1 (j + 1) (by omega); simpa using this) (by simpa using h2)
    unfold fidx
    rw [if_neg (by simp [h0]), ih, if_neg (by omega)]
    omega
theorem fidx_none {α : Type} (p : α → Bool) (l : List α) (h : ∀ (j : Nat) (hj : j < l.length), p l[j] = false) : fidx p l = -1 := by
  have : l.any p = false := by
    rw [List.any_eq_false]
    intro x hx
    obtain ⟨j, hj, rfl⟩ := List.getElem_of_mem hx
    simp [h j hj]
  have h1 := (fidx_neg p l).2 this
  have h2 := fidx_ge p l
  omega
def ixo0 : List (Nat × Pop) := [(0, ⟨some 4, .mv (.c (.t (.i .i64 0))), none⟩)]
def ixo1 : List (Nat × Pop) := [(0, ⟨some 6, .mv (.tmp 0), none⟩), (1, ⟨some 7, .lenL (.tmp 6), none⟩), (2, ⟨some 8, .mv (.c (.t (.i .i64 0))), none⟩)]
def ixo2 : List (Nat × Pop) := [(0, ⟨some 9, .bin .lss (.tmp 8) (.tmp 7), none⟩)]
def ixo3 : List (Nat × Pop) := [(0, ⟨some 10, .mv (.tmp 8), none⟩), (1, ⟨some 5, .mv (.tmp 10), none⟩)]
def ixo4 (ag : Bool) (sz : Nat) : List (Nat × Pop) := [(0, ⟨some 11, .mv (.tmp 1), none⟩), (1, ⟨some 12, .mv (.tmp 0), none⟩), (2, ⟨some 13, .mv (.tmp 5), none⟩), (3, ⟨some 14, .ixS sz (.tmp 12) (.tmp 13), none⟩), (4, ⟨some 15, .load ag sz (.tmp 14), none⟩), (5, ⟨some 16, .callv (.tmp 11) [.tmp 15], none⟩)]
def ixo5 : List (Nat × Pop) := [(0, ⟨some 17, .mv (.tmp 5), none⟩), (1, ⟨some 4, .mv (.tmp 17), none⟩)]
def ixo6 : List (Nat × Pop) := [(0, ⟨some 18, .bin .add (.tmp 8) (.c (.t (.i .i64 1))), none⟩), (1, ⟨some 8, .mv (.tmp 18), none⟩)]
def ixo7 : List (Nat × Pop) := [(0, ⟨some 4, .mv (.c (.t (.i .i64 (-1)))), none⟩)]
def ixl (ag : Bool) (sz : Nat) : Pc := .seq (.reg ixo2 [0, 1, 7, 8, 9] []) (.seq (.cond (.tmp 9) .skip (.exit 0)) (.seq (.block 1 (.seq (.reg ixo3 [0, 1, 5, 7, 8] []) (.seq (.reg (ixo4 ag sz) [0, 1, 5, 7, 8, 16] []) (.cond (.tmp 16) (.seq (.reg ixo5 [4] []) .ret) .skip)))) (.reg ixo6 [0, 1, 7, 8] [])))
def ixfF (ag : Bool) (sz : Nat) : Pfn := ⟨2, 19, [.tmp 4], .seq (.reg ixo0 [0, 1] []) (.seq (.seq (.reg ixo1 [0, 1, 7, 8] []) (.block 0 (.loop (ixl ag sz)))) (.seq (.reg ixo7 [4] []) .ret))⟩
section
variable {C : Cfg}
variable {α : Type}
def ixP (g : Nat) (caps : List V) (mk : α → List T) (xs : List α) (p : α → Bool) (i : Nat) (s : St) : Prop := (∀ (j : Nat) (hj : j < xs.length), j < i → p xs[j] = false) ∧ ∃ ck, s = ⟨[(0, .t (.l (xs.map mk))), (1, .fn g caps), (7, .t (.i .i64 xs.length)), (8, .t (.i .i64 (i : Int)))], [], ck⟩
def ixQ (xs : List α) (p : α → Bool) (E : Option (Ex × St)) : Prop := (∃ e c, E = some (.exit 0, ⟨e, [], c⟩) ∧ fidx p xs = -1) ∨ (∃ c, E = some (.ret, ⟨[(4, .t (.i .i64 (fidx p xs)))], [], c⟩))
theorem ixf_run {f g : Nat} {caps : List V} {ag : Bool} {sz : Nat} (mk : α → List T) {xs : List α} (p : α → Bool) (arg : α → V) (hpf : C.pf f = some (ixfF ag sz)) (hex : C.ex f = none) (hsz : ∀ a ∈ xs, (mk a).length = sz) (hld : ∀ a ∈ xs, loadOf ag sz ((mk a).map .t) = some (arg a)) (hl : xs.length ≤ 1000000)
    (hp : ∀ a ∈ xs, ∀ (s : St) (k : Key), s.hp = [] → ∃ ck', callEv C (runL C) g (arg a :: caps) s k = some (.t (.b (p a)), [], ck')) : RetT C f [.t (.l (xs.map mk)), .fn g caps] (.t (.i .i64 (fidx p xs))) := by
  have hL : ∀ ck, ixQ xs p (evL C (.loop (ixl ag sz)) ⟨[(0, .t (.l (xs.map mk))), (1, .fn g caps), (7, .t (.i .i64 xs.length)), (8, .t (.i .i64 0))], [], ck⟩) := by
    intro ck
    refine loop_q xs.length (ixP g caps mk xs p) ?_ ?_ _ ⟨fun j hj h => absurd h (Nat.not_lt_zero j), ck, rfl⟩
    · rintro i s hi ⟨h1, ck, rfl⟩
      have hm := List.getElem_mem hi
      have hw : IntKind.i64.wrap ((i : Int) + 1) = (i : Int) + 1 := wrap_id (by omega) (by omega)
      obtain ⟨ck', hc⟩ := hp xs[i] hm ⟨[], [], ck + 2⟩ ⟨16, ck + 2, 5⟩ rfl
      have hc2 : ∀ e, callEv C (runL C) g (arg xs[i] :: caps) ⟨e, [], ck + 1 + 1⟩ ⟨16, ck + 1 + 1, 5⟩ = some (.t (.b (p xs[i])), [], ck') := fun e => hc
      by_cases hx : p xs[i] = true
      · have hid := fidx_at p xs i hi (fun j hj => h1 j (by omega) hj) hx
        rw [hx] at hc2
        simp [-loadOf, ixl, ixo2, ixo3, ixo4, ixo5, ixo6, hi, hsz _ hm, hld _ hm, hc2]
        exact .inr ⟨_, by rw [hid]⟩
      · have hx' : p xs[i] = false := by simpa using hx
        rw [hx'] at hc2
        simp [-loadOf, ixl, ixo2, ixo3, ixo4, ixo5, ixo6, hi, hsz _ hm, hld _ hm, hc2, hw]
        refine ⟨fun j hj hji => ?_, _, rfl⟩
        by_cases e : j = i
        · subst e; exact hx'
        · exact h1 j hj (by omega)
    · rintro s ⟨h1, ck, rfl⟩
      simp [ixl, ixo2]
      exact .inl ⟨_, _, rfl, fidx_none p xs fun j hj => h1 j hj hj⟩
  refine RetT.of ?_
  rw [runL_pf hex hpf]
  have h2 := hL 2
  rcases h2 with ⟨e, c, h2, h3⟩ | ⟨c, h2⟩
  · simp [ixfF, ixo0, ixo1, ixo7, h2, h3]
  · simp [ixfF, ixo0, ixo1, ixo7, h2]
end
def cto0 : List (Nat × Pop) := [(0, ⟨some 4, .mv (.c (.t (.b false))), none⟩)]
def cto1 (ix : Nat) : List (Nat × Pop) := [(0, ⟨some 5, .mv (.tmp 0), none⟩), (1, ⟨some 6, .mv (.tmp 1), none⟩), (2, ⟨some 7, .call ix [.tmp 5, .tmp 6], none⟩), (3, ⟨some 8, .bin .geq (.tmp 7) (.c (.t (.i .i64 0))), none⟩), (4, ⟨some 4, .mv (.tmp 8), none⟩)]
def ctfF (ix : Nat) : Pfn := ⟨2, 9, [.tmp 4], .seq (.reg cto0 [0, 1] []) (.seq (.reg (cto1 ix) [4] []) .ret)⟩
section
variable {C : Cfg}
theorem callEv_fn {f g : Nat} {x : T} {caps caps0 : List V} {v : V} (h : RetT C f [.t x, .fn g caps] v) (hv : flatV v = true) (hm : C.hpm f = false) (ho : C.own f = false) (s : St) (k : Key) (hc : capsOf s.hp caps0 = some caps) : callEv C (runL C) f [.t x, .fn g caps0] s k = some (v, s.hp, s.ck) :=
  callEv_t hm ho (by simp [puresOf, pureOf, hc]) h (.inl hv)
theorem ctf_run {α : Type} {f ix g : Nat} {caps : List V} {x : T} {xs : List α} {p : α → Bool} (hpf : C.pf f = some (ctfF ix)) (hex : C.ex f = none) (hm : C.hpm ix = false) (ho : C.own ix = false) (hc : ∀ h, capsOf h caps = some caps) (hr : RetT C ix [.t x, .fn g caps] (.t (.i .i64 (fidx p xs)))) : RetT C f [.t x, .fn g caps] (.t (.b (xs.any p))) := by
  have h1 := fun s k => callEv_fn (C := C) hr rfl hm ho s k (hc s.hp)
  refine RetT.of ?_
  rw [runL_pf hex hpf]
  have h2 : decide (0 ≤ fidx p xs) = xs.any p := by
    have := fidx_neg p xs
    cases ha : xs.any p with
    | false => have := this.2 ha; simp; omega
    | true => have : ¬ fidx p xs < 0 := fun e => by rw [this.1 e] at ha; cases ha
              simp; omega
  simp [ctfF, cto0, cto1, h1, h2]
end
end
end Go.Proofs.YtlfjlpleodlkmaaGreatDoor.Pv
namespace Go.Pev
open Go
def spl (c : UInt8) : List UInt8 → List (List UInt8)
  | [] => [[]]
  | b :: r => if b = c then [] :: spl c r else match spl c r with
    | x :: xs => (b :: x) :: xs
    | [] => [[b]]
theorem spl_ne (c : UInt8) : ∀ s, spl c s ≠ []
  | [] => by simp [spl]
  | b :: r => by
    unfold spl
    split
    · simp
    · split <;> simp
theorem index1 (c b : UInt8) (l : List UInt8) : Lib.index (b :: l) [c] = if b = c then 0 else if Lib.index l [c] = -1 then -1 else Lib.index l [c] + 1 := by
  rw [Lib.index]
  by_cases h : b = c
  · subst h; simp [List.isPrefixOf]
  · have h' : ¬ c = b := fun e => h e.symm
    simp [List.isPrefixOf, h, h']
theorem split_miss {s : List UInt8} {c : UInt8} (h : Lib.index s [c] = -1) : Lib.split s [c] = [s] := by
  unfold Lib.split
  rw [Lib.count_miss h]
  rfl
theorem split_hit {s : List UInt8} {c : UInt8} {i : Nat} (h : Lib.index s [c] = i) : Lib.split s [c] = s.take i :: Lib.split (s.drop (i + 1)) [c] := by
  have hc := Lib.count_hit (sub := [c]) (by simp) h
  unfold Lib.split
  rw [hc, Nat.add_comm 1, show ([c] : List UInt8).length = 1 from rfl]
  have hm : ¬ (Lib.index s [c] == -1) = true := fun e => by have := beq_iff_eq.1 e; omega
  conv => lhs; unfold Lib.splitK
  rw [if_neg hm, h]
  rfl
theorem split_spl (c : UInt8) : ∀ s, Lib.split s [c] = spl c s
  | [] => split_miss rfl
  | b :: l => by
    have ih := split_spl c l
    have hi := index1 c b l
    by_cases hb : b = c
    · rw [if_pos hb] at hi
      rw [split_hit (i := 0) hi]
      simp [spl, hb, ih]
    · rw [if_neg hb] at hi
      by_cases hn : Lib.index l [c] = -1
      · rw [if_pos hn] at hi
        rw [split_miss hi]
        rw [split_miss hn] at ih
        simp [spl, hb, ← ih]
      · rw [if_neg hn] at hi
        have hg := Lib.index_ge l [c]
        obtain ⟨i, he⟩ : ∃ i : Nat, Lib.index l [c] = i := ⟨(Lib.index l [c]).toNat, by omega⟩
        rw [he] at hi
        rw [split_hit (i := i + 1) (by rw [hi]; omega)]
        rw [split_hit he] at ih
        simp [spl, hb, ← ih]
theorem spl_flat (c : UInt8) : ∀ s, ((spl c s).map fun x => x.length + 1).sum = s.length + 1
  | [] => rfl
  | b :: r => by
    have ih := spl_flat c r
    unfold spl
    by_cases hb : b = c
    · rw [if_pos hb]; simp [ih]; omega
    · rw [if_neg hb]
      split
      · next x xs hx => rw [hx] at ih; simp at ih ⊢; omega
      · next hx => exact absurd hx (spl_ne c r)
theorem spl_le {c : UInt8} {s : List UInt8} : (spl c s).length ≤ s.length + 1 := by
  have h := spl_flat c s
  have : ∀ l : List (List UInt8), l.length ≤ (l.map fun x => x.length + 1).sum := by
    intro l
    induction l with
    | nil => simp
    | cons x l ih => simp; omega
  have := this (spl c s)
  omega
theorem spl_mem {c : UInt8} {s x : List UInt8} (h : x ∈ spl c s) : x.length ≤ s.length := by
  have h1 := spl_flat c s
  have : ∀ l : List (List UInt8), x ∈ l → x.length + 1 ≤ (l.map fun x => x.length + 1).sum := by
    intro l
    induction l with
    | nil => simp
    | cons y l ih =>
      intro hx
      rcases List.mem_cons.1 hx with rfl | hx
      · simp
      · have := ih hx
        simp; omega
  have := this _ h
  omega
def valD (n : Nat) : List UInt8 → Option Nat
  | [] => some n
  | c :: r => if c.toNat < 48 ∨ 57 < c.toNat then none else valD (10 * n + (c.toNat - 48)) r
def rnum (s : List UInt8) : Int × Bool :=
  if s.length = 0 ∨ 9 < s.length ∨ (s.head? = some 48 ∧ 1 < s.length) then (0, false) else match valD 0 s with
  | some n => ((n : Int), true)
  | none => (0, false)
theorem valD_app : ∀ (a b : List UInt8) (n : Nat), valD n (a ++ b) = (valD n a).bind fun m => valD m b
  | [], b, n => rfl
  | c :: a, b, n => by
    simp only [List.cons_append, valD]
    split
    · rfl
    · exact valD_app a b _
theorem dig_nat {d : Nat} (h : d < 10) : (UInt8.ofNat (48 + d)).toNat = 48 + d := by
  rw [UInt8.toNat_ofNat']
  omega
theorem valD_dec : ∀ u : Nat, valD 0 (Lib.decDigits u) = some u := by
  intro u
  induction u using Nat.strongRecOn with
  | ind u ih =>
    by_cases h : u < 10
    · rw [Lib.decDigits_one h]
      simp only [valD, dig_nat h]
      rw [if_neg (by omega)]
      congr 1
      omega
    · rw [Lib.decDigits, dif_neg h, valD_app, ih (u / 10) (by omega)]
      simp only [Option.bind_some, valD, dig_nat (d := u % 10) (by omega)]
      rw [if_neg (by omega)]
      congr 1
      omega
theorem dec_head : ∀ u : Nat, 10 ≤ u → (Lib.decDigits u).head? ≠ some 48 := by
  intro u
  induction u using Nat.strongRecOn with
  | ind u ih =>
    intro h
    rw [Lib.decDigits, dif_neg (by omega)]
    by_cases h2 : u / 10 < 10
    · rw [Lib.decDigits_one h2]
      intro e
      have e2 : UInt8.ofNat (48 + u / 10) = 48 := by simpa using e
      have := congrArg UInt8.toNat e2
      rw [dig_nat h2] at this
      have : (48 : UInt8).toNat = 48 := rfl
      omega
    · have h3 := ih (u / 10) (by omega) (by omega)
      have h4 := Lib.decDigits_length (u / 10)
      have h5 := Lib.nDigits_pos (u / 10)
      intro e
      apply h3
      cases hd : Lib.decDigits (u / 10) with
      | nil => rw [hd] at h4; simp at h4; omega
      | cons x l => rw [hd] at e; simpa using e
theorem dig_back {c : UInt8} (h1 : 48 ≤ c.toNat) (h2 : c.toNat ≤ 57) : UInt8.ofNat (48 + (c.toNat - 48)) = c := by
  apply UInt8.toNat_inj.1
  rw [dig_nat (by omega)]
  omega
theorem valD_back : ∀ (r : List UInt8) (acc n : Nat), 0 < acc → valD acc r = some n → Lib.decDigits n = Lib.decDigits acc ++ r
  | [], acc, n, ha, h => by simp only [valD] at h; cases h; simp
  | c :: r, acc, n, ha, h => by
    simp only [valD] at h
    split at h
    · cases h
    · next hc =>
      have ih := valD_back r _ n (by omega) h
      rw [ih]
      rw [Lib.decDigits, dif_neg (by omega)]
      have e1 : (10 * acc + (c.toNat - 48)) / 10 = acc := by omega
      have e2 : (10 * acc + (c.toNat - 48)) % 10 = c.toNat - 48 := by omega
      rw [e1, e2, dig_back (by omega) (by omega)]
      simp
theorem valD_lt : ∀ (r : List UInt8) (acc n : Nat), valD acc r = some n → n < (acc + 1) * 10 ^ r.length
  | [], acc, n, h => by simp only [valD] at h; cases h; simp
  | c :: r, acc, n, h => by
    simp only [valD] at h
    split at h
    · cases h
    · next hc =>
      have ih := valD_lt r _ n h
      have : (10 * acc + (c.toNat - 48) + 1) * 10 ^ r.length ≤ ((acc + 1) * 10) * 10 ^ r.length := Nat.mul_le_mul_right _ (by omega)
      rw [List.length_cons, Nat.pow_succ, Nat.mul_comm (10 ^ r.length) 10, ← Nat.mul_assoc]
      omega
theorem valD_ge : ∀ (r : List UInt8) (acc n : Nat), valD acc r = some n → acc ≤ n
  | [], acc, n, h => by simp only [valD] at h; cases h; exact Nat.le_refl _
  | c :: r, acc, n, h => by
    simp only [valD] at h
    split at h
    · cases h
    · next hc => have := valD_ge r _ n h; omega
theorem valD_parse : ∀ (r : List UInt8) (acc n : Nat), valD acc r = some n → n < 10000000000 → Lib.parseUint10 acc r = .ok n
  | [], acc, n, h, _ => by simp only [valD] at h; cases h; rfl
  | c :: r, acc, n, h, hn => by
    simp only [valD] at h
    split at h
    · cases h
    · next hc =>
      have hg := valD_ge r _ n h
      unfold Lib.parseUint10
      rw [if_pos (by omega), if_neg (by omega), if_neg (by omega), Nat.mul_comm acc 10]
      exact valD_parse r _ n h hn
def isNum (s : List UInt8) : Bool := match Lib.atoiAll s with
  | .ok v => decide (0 ≤ v) && decide (s.length ≤ 9) && decide (Lib.itoa v = s)
  | _ => false
theorem itoa_pos {v : Int} (h : 0 ≤ v) : Lib.itoa v = Lib.decDigits v.toNat := by unfold Lib.itoa; rw [if_neg (by omega)]
theorem rnum_of {s : List UInt8} {v : Int} (h0 : 0 ≤ v) (hl : s.length ≤ 9) (he : Lib.itoa v = s) : rnum s = (v, true) := by
  rw [itoa_pos h0] at he
  have h1 := valD_dec v.toNat
  rw [he] at h1
  have h2 := Lib.decDigits_length v.toNat
  have h3 := Lib.nDigits_pos v.toNat
  rw [he] at h2
  unfold rnum
  rw [if_neg, h1]
  · show ((v.toNat : Int), true) = (v, true)
    rw [Int.toNat_of_nonneg h0]
  · rintro (h | h | ⟨h, h'⟩)
    · omega
    · omega
    · by_cases h10 : v.toNat < 10
      · rw [Lib.nDigits_small h10] at h2; omega
      · exact dec_head v.toNat (by omega) (by rw [he]; exact h)
theorem of_rnum {s : List UInt8} {v : Int} (h : rnum s = (v, true)) : 0 ≤ v ∧ v < 1000000000 ∧ s.length ≤ 9 ∧ Lib.itoa v = s ∧ Lib.atoiAll s = .ok v := by
  unfold rnum at h
  split at h
  · cases h
  · next hc =>
    cases hv : valD 0 s with
    | none => rw [hv] at h; cases h
    | some n =>
      rw [hv] at h
      simp only [Prod.mk.injEq, and_true] at h
      subst h
      have hlt := valD_lt s 0 n hv
      have hle : s.length ≤ 9 := by omega
      have hp : (0 + 1) * 10 ^ s.length ≤ 10 ^ 9 := by rw [Nat.zero_add, Nat.one_mul]; exact Nat.pow_le_pow_right (by decide) hle
      have hn : n < 1000000000 := by omega
      refine ⟨by omega, by omega, hle, ?_, ?_⟩
      · rw [itoa_pos (by omega), Int.toNat_natCast]
        cases s with
        | nil => simp at hc
        | cons c r =>
          have hv0 := hv
          simp only [valD] at hv
          split at hv
          · cases hv
          · next hd =>
            by_cases h48 : c = 48
            · subst h48
              cases r with
              | nil =>
                simp only [valD] at hv
                cases hv
                exact Lib.decDigits_one (by decide)
              | cons d r => exact absurd (Or.inr (Or.inr ⟨rfl, by simp⟩)) hc
            · have hne : c.toNat ≠ 48 := fun e => h48 (UInt8.toNat_inj.1 e)
              have := valD_back r _ n (by omega) hv
              rw [this, Nat.mul_zero, Nat.zero_add, Lib.decDigits_one (by omega), dig_back (by omega) (by omega)]
              rfl
      · cases s with
        | nil => simp at hc
        | cons c r =>
          have hd : ¬ (c.toNat < 48 ∨ 57 < c.toNat) := by
            intro hd
            simp only [valD] at hv
            rw [if_pos hd] at hv
            cases hv
          have hp := valD_parse (c :: r) 0 n hv (by omega)
          unfold Lib.atoiAll
          simp only
          have e1 : ¬ (c.toNat = 43 ∨ c.toNat = 45) := by omega
          have e2 : ¬ c.toNat = 45 := by omega
          rw [if_neg e1]
          unfold Lib.parseMag
          rw [if_neg (by simp), hp]
          simp only
          rw [if_neg (by omega), if_neg (fun h => e2 h.1), if_neg e2]
theorem isNum_rnum (s : List UInt8) : isNum s = (rnum s).2 := by
  cases h : (rnum s).2 with
  | true =>
    have h' : rnum s = ((rnum s).1, true) := by rw [← h]
    obtain ⟨a, b, c, d, e⟩ := of_rnum h'
    unfold isNum
    rw [e]
    simp [a, c, d]
  | false =>
    unfold isNum
    cases ha : Lib.atoiAll s
    case ok v =>
      simp only
      cases hx : (decide (0 ≤ v) && decide (s.length ≤ 9) && decide (Lib.itoa v = s)) with
      | false => rfl
      | true =>
        simp only [Bool.and_eq_true, decide_eq_true_eq] at hx
        rw [rnum_of hx.1.1 hx.1.2 hx.2] at h
        cases h
    all_goals rfl
end Go.Pev
namespace Go.Proofs.YtlfjlpleodlkmaaGreatDoor.Pv
open Go Go.Pev
theorem dig_loop : ∀ (n ck : Nat) (t : List UInt8), n < 9223372036854775808 → t.length + Lib.nDigits n ≤ 100 → ∃ m ck', evL cfg (.loop f16l0) ⟨[(0, iv (n : Int)), (3, .t (.s (UInt8.ofNat (48 + n % 10) :: t)))], [], ck⟩ = some (.exit 0, ⟨[(0, iv m), (3, .t (.s (Lib.decDigits n ++ t))), (11, bv false)], [], ck'⟩) := by
  intro n
  induction n using Nat.strongRecOn with
  | ind n ih =>
    intro ck t hn ht
    by_cases h : n < 10
    · refine ⟨n, ck + 1, ?_⟩
      rw [evL_loop, Lib.decDigits_one h, Nat.mod_eq_of_lt h]
      have e1 : ¬ (9 : Int) < n := by omega
      simp [f16l0e, e1]
    · obtain ⟨m, ck', hc⟩ := ih (n / 10) (by omega) (ck + 3) (UInt8.ofNat (48 + n % 10) :: t) (by omega) (by rw [Lib.nDigits_big h] at ht; rw [List.length_cons]; omega)
      refine ⟨m, ck', ?_⟩
      have hd : Lib.decDigits n ++ t = Lib.decDigits (n / 10) ++ (UInt8.ofNat (48 + n % 10) :: t) := by
        rw [Lib.decDigits, dif_neg h]; simp
      rw [hd, ← hc]
      have e1 : (9 : Int) < n := by omega
      have e2 : IntKind.i64.wrap ((n : Int) / 10) = ((n / 10 : Nat) : Int) := by
        rw [wrap_id (by omega) (by omega)]; omega
      have e3 : Int.tmod ((n / 10 : Nat) : Int) 10 = ((n / 10 % 10 : Nat) : Int) := by
        rw [Int.tmod_eq_emod_of_nonneg (by omega)]; omega
      have e4 : IntKind.u8.wrap (48 + ((n / 10 % 10 : Nat) : Int)) = ((48 + n / 10 % 10 : Nat) : Int) := by rw [IntKind.wrap_u8]; omega
      have e5 : IntKind.i64.wrap (48 + ((n / 10 % 10 : Nat) : Int)) = 48 + ((n / 10 % 10 : Nat) : Int) := wrap_id (by omega) (by omega)
      have hp : n / 10 % 10 < 10 := by omega
      have e7 : ¬ i64max < 1 + ((t.length : Int) + 1) := by unfold i64max; omega
      rw [evL_loop_n (s1 := ⟨[(0, iv ((n / 10 : Nat) : Int)), (3, .t (.s (UInt8.ofNat (48 + n / 10 % 10) :: UInt8.ofNat (48 + n % 10) :: t)))], [], ck + 3⟩)]
      generalize n / 10 = q at *
      generalize UInt8.ofNat (48 + n % 10) = d at *
      generalize q % 10 = p at *
      have e6 : (48 + (p : Int)).toNat = 48 + p := by omega
      simp [-UInt8.ofNat_add, e6, e7, f16l0e, e1, e2, e3, e4, e5, rowsOf, keysOfs, treesC, treesOf, treeOf, freezeAll, elsOf, u8s]
theorem dig_ret (n : Int) (h0 : 0 ≤ n) (h1 : n < 9223372036854775808) : RetT cfg 16 [iv n] (.t (.s (Lib.itoa n))) := by
  obtain ⟨k, rfl⟩ : ∃ k : Nat, n = k := ⟨n.toNat, by omega⟩
  rw [itoa_pos h0, Int.toNat_natCast]
  have hk : k < 9223372036854775808 := by omega
  refine RetT.of ?_
  rw [runL_pf (fn := f16) rfl rfl]
  have e3 : Int.tmod (k : Int) 10 = ((k % 10 : Nat) : Int) := by
    rw [Int.tmod_eq_emod_of_nonneg (by omega)]; omega
  have e4 : IntKind.u8.wrap (48 + ((k % 10 : Nat) : Int)) = ((48 + k % 10 : Nat) : Int) := by rw [IntKind.wrap_u8]; omega
  have e5 : IntKind.i64.wrap (48 + ((k % 10 : Nat) : Int)) = 48 + ((k % 10 : Nat) : Int) := wrap_id (by omega) (by omega)
  obtain ⟨m, ck', hc⟩ := dig_loop k 2 [] hk (by have := Lib.nDigits_le20 k (by omega); simp; omega)
  rw [List.append_nil] at hc
  simp only [iv, bv] at hc
  generalize k % 10 = p at *
  have e6 : (48 + (p : Int)).toNat = 48 + p := by omega
  simp [-UInt8.ofNat_add, e6, e3, e4, e5, hc, rowsOf, keysOfs, treesC, treesOf, treeOf, freezeAll, elsOf, u8s]
def cl (m : List Int) : List (List T) := m.map fun n => [.i .i64 n]
def gl (h : List (List Int)) : T := .l (h.map fun r => [.l (r.map fun n => [.i .i64 n])])
def slc (l : List (List UInt8)) : List (List T) := l.map fun s => [.s s]
def sl (l : List (List UInt8)) : T := .l (slc l)
theorem slc_one (l : List (List UInt8)) : ∀ c ∈ slc l, c.length = 1 := by
  intro c hc
  obtain ⟨n, _, rfl⟩ := List.mem_map.1 hc
  rfl
theorem slc_len (l : List (List UInt8)) : (slc l).length = l.length := by simp [slc]
theorem clones_ret (l : List (List UInt8)) (hl : l.length ≤ 1000000) : RetO cfg 57 [.t (sl l)] 9 1 (slc l) := by
  refine ⟨⟨0, 0, 0⟩, [(⟨0, 0, 0⟩, .row 9 1 (slc l) false)], 9, ?_, by simp [HP.get]⟩
  rw [runL_ex (p := cloneP 9 1 16) rfl]
  unfold cloneP sl
  have h1 : ((slc l).all fun c => c.length == 1) = true := List.all_eq_true.2 fun c hc => by simpa using slc_one l c hc
  have h2 : (slc l).length * 16 ≤ 140737488355328 := by rw [slc_len]; omega
  simp only [h1, h2]
  simp
theorem clones_o (l : List (List UInt8)) (hl : l.length ≤ 1000000) (hp : HP) (k : Key) : callO cfg (runL cfg) 57 [.t (sl l)] hp k = some (.ow k 1 0 l.length, .row 9 1 (slc l) false) := by
  rw [callO_tr (C := cfg) (clones_ret l hl) rfl rfl rfl hp k, slc_len]
theorem clones_tro (l : List (List UInt8)) (hl : l.length ≤ 1000000) (s : St) (k : Key) : callEv cfg (runL cfg) 57 [.t (sl l)] s k = some (.ow k 1 0 l.length, (k, .row 9 1 (slc l) false) :: s.hp, s.ck) := by
  rw [callEv_tro (C := cfg) (clones_ret l hl) rfl rfl rfl s k, slc_len]
def bagPut (l : List (List UInt8)) (s : List UInt8) : List (List UInt8) := if l.length < 200 then l ++ [s] else l
theorem bput_ret (l : List (List UInt8)) (s : List UInt8) (hl : l.length ≤ 1000000) : RetT cfg 83 [.t (sl l), .t (.s s)] (.t (sl (bagPut l s))) := by
  have hc := fun s k => clones_tro l hl s k
  rw [retT_r, runL_pf (fn := f83) rfl rfl]
  have hlen := slc_len l
  have htk : (slc l).take l.length = slc l := List.take_of_length_le (by omega)
  have hb : (l.length + 1) * 16 ≤ 140737488355328 := by omega
  unfold bagPut
  simp only [sl] at hc
  by_cases c : l.length < 200
  · have c' : (l.length : Int) < 200 := by omega
    rw [if_pos c]
    have e : slc (l ++ [s]) = slc l ++ [[.s s]] := by simp [slc]
    have htk2 : (slc l ++ [[T.s s]]).take (l.length + 1) = slc l ++ [[.s s]] := List.take_of_length_le (by simp; omega)
    simp [sl, hc, c', rowsOf, keysOfs, treesC, treesOf, treeOf, freezeAll, app, elsOf, hlen, hb, resOf, resOf1, e, htk2]
  · have c' : ¬ (l.length : Int) < 200 := by omega
    rw [if_neg c]
    simp [sl, hc, c', resOf, resOf1, treeOf, hlen, htk]
def bagTake (l : List (List UInt8)) (i : Int) : List UInt8 × List (List UInt8) × Bool := if 0 ≤ i ∧ i < l.length then (l.getD i.toNat [], l.take i.toNat ++ l.drop (i.toNat + 1), true) else ([], l, false)
theorem btake_ret (l : List (List UInt8)) (i : Int) (hl : l.length ≤ 1000000) : RetT cfg 50 [.t (sl l), iv i] (.tu [.t (.s (bagTake l i).1), .t (sl (bagTake l i).2.1), bv (bagTake l i).2.2]) := by
  have hc := fun s k => clones_tro l hl s k
  have hc2 := fun hp k => clones_o l hl hp k
  rw [retT_r, runL_pf (fn := f50) rfl rfl]
  have hlen := slc_len l
  have htk : (slc l).take l.length = slc l := List.take_of_length_le (by omega)
  unfold bagTake
  simp only [sl] at hc hc2
  by_cases c1 : i < 0
  · rw [if_neg (by omega)]
    simp [sl, hc, c1, resOf, resOfs, resOf1, treeOf, hlen, htk]
  by_cases c2 : (l.length : Int) ≤ i
  · rw [if_neg (by omega)]
    simp [sl, hc, c1, c2, resOf, resOfs, resOf1, treeOf, hlen, htk]
  obtain ⟨j, rfl⟩ : ∃ j : Nat, i = j := ⟨i.toNat, by omega⟩
  have hj : j < l.length := by omega
  have hw : IntKind.i64.wrap ((j : Int) + 1) = ((j + 1 : Nat) : Int) := by rw [wrap_id (by omega) (by omega)]; rfl
  have hd : ∀ (s : St) (k k' : Key), s.hp.get k = some (.row 9 1 (slc l) false) → callEv cfg (runL cfg) 84 [.ow k 1 0 l.length, .t (.i .i64 (j : Int)), .t (.i .i64 ((j + 1 : Nat) : Int))] s k' = some (.ow k 1 0 (l.take j ++ l.drop (j + 1)).length, s.hp.put k k (.row 9 1 (slc (l.take j ++ l.drop (j + 1))) false), s.ck + 3) := by
    intro s k k' hg
    refine callEv_h (C := cfg) (c' := s.ck + 1 + 1) rfl ?_ k'
    rw [runL_ex (p := delP) rfl]
    unfold delP
    have hst : strsOf (slc l) = some l := strsOf_map l
    have h1 : l.length = (slc l).length ∧ 0 < l.length ∧ l.length ≤ 140737488355328 ∧ 0 ≤ (j : Int) ∧ (j : Int) ≤ ((j + 1 : Nat) : Int) ∧ ((j + 1 : Nat) : Int) ≤ (l.length : Int) := ⟨hlen.symm, by omega, by omega, by omega, by omega, by omega⟩
    simp only [hg, hst, if_pos h1, Int.toNat_natCast]
    rfl
  rw [if_pos (by omega)]
  have hgd : l.getD j [] = l[j] := by simp [List.getD_eq_getElem?_getD, hj]
  have hgs : (slc l)[j]? = some [.s l[j]] := by simp [slc, hj]
  have hgs2 : (slc l)[j]'(by rw [hlen]; exact hj) = [.s l[j]] := by simp [slc]
  rw [Int.toNat_natCast, hgd]
  generalize hr : l.take j ++ l.drop (j + 1) = r at *
  have hrl := slc_len r
  have htk2 : (slc r).take r.length = slc r := List.take_of_length_le (by omega)
  generalize hj1 : j + 1 = j1 at *
  have d0 : decide ((j : Int) < 0) = false := decide_eq_false (by omega)
  have c2n : ¬ l.length ≤ j := by omega
  simp [sl, d0, c2n, hlen, hj, hgs, hgs2, hc2, noFn, isBox, hw, hd, keptB, resOf, resOfs, resOf1, treeOf, hrl, htk2]
def bagTwice (l : List (List UInt8)) (i : Int) : List (List UInt8) := if 0 ≤ i ∧ i < l.length then bagPut l (l.getD i.toNat []) else l
theorem btwice_ret (l : List (List UInt8)) (i : Int) (hl : l.length ≤ 1000000) : RetT cfg 54 [.t (sl l), iv i] (.t (sl (bagTwice l i))) := by
  have hc := fun s k => clones_tro l hl s k
  rw [retT_r, runL_pf (fn := f54) rfl rfl]
  have hlen := slc_len l
  have htk : (slc l).take l.length = slc l := List.take_of_length_le (by omega)
  unfold bagTwice
  simp only [sl] at hc
  by_cases c1 : i < 0
  · rw [if_neg (by omega)]
    simp [sl, hc, c1, resOf, resOf1, treeOf, hlen, htk]
  by_cases c2 : (l.length : Int) ≤ i
  · rw [if_neg (by omega)]
    simp [sl, hc, c1, c2, resOf, resOf1, treeOf, hlen, htk]
  obtain ⟨j, rfl⟩ : ∃ j : Nat, i = j := ⟨i.toNat, by omega⟩
  have hj : j < l.length := by omega
  have hgd : l.getD j [] = l[j] := by simp [List.getD_eq_getElem?_getD, hj]
  have hgs : (slc l)[j]? = some [.s l[j]] := by simp [slc, hj]
  have hgs2 : (slc l)[j]'(by rw [hlen]; exact hj) = [.s l[j]] := by simp [slc]
  have hp := fun s k => callEv_tr (C := cfg) (bput_ret l l[j] hl) rfl rfl rfl s k
  rw [if_pos (by omega), Int.toNat_natCast, hgd]
  have d0 : decide ((j : Int) < 0) = false := decide_eq_false (by omega)
  have c2n : ¬ l.length ≤ j := by omega
  simp only [sl] at hp
  simp [sl, d0, c2n, hlen, hj, hgs, hgs2, hp, resOf, resOf1]
theorem filt_tt {α : Type} (l : List α) : List.filter (fun _ => true) l = l := List.filter_eq_self.2 fun _ _ => rfl
def AccI (l : List Int) (v : V) (h : HP) : Prop := (l = [] ∧ v = .nl ∧ h = []) ∨ ∃ k, v = .ow k 1 0 l.length ∧ h = [(k, .row 3 1 (cl l) false)]
def numsP : List (List UInt8) → Option (List Int)
  | [] => some []
  | w :: r => if (rnum w).2 then (numsP r).map ((rnum w).1 :: ·) else none
def numsV (o : Option (List Int)) : V := match o with
  | some l => .tu [.t (il l), bv true]
  | none => .tu [.t (il []), bv false]
theorem accI_res {l : List Int} {v : V} {h : HP} (ha : AccI l v h) : resOf1 h v = some (.t (il l)) := by
  rcases ha with ⟨rfl, rfl, rfl⟩ | ⟨k, rfl, rfl⟩
  · rfl
  · have ht : (l.map fun n => [T.i .i64 n]).take l.length = l.map fun n => [T.i .i64 n] := List.take_of_length_le (by simp)
    simp [resOf1, treeOf, ht, il, cl]
theorem numsP_drop {ws : List (List UInt8)} {i : Nat} (hi : i < ws.length) : numsP (ws.drop i) = if (rnum ws[i]).2 then (numsP (ws.drop (i + 1))).map ((rnum ws[i]).1 :: ·) else none := by
  rw [List.drop_eq_getElem_cons hi]; rfl
theorem res1_t (h : HP) (x : T) : resOf1 h (.t x) = some (.t x) := rfl
theorem atoi_le {s : List UInt8} {v : Int} (h : Lib.atoiAll s = .ok v) : v ≤ 9223372036854775807 := by
  unfold Lib.atoiAll at h
  split at h
  · cases h
  · simp only at h
    split at h
    · cases h
    · cases h
    · split at h
      · cases h
      · split at h
        · cases h
        · simp only [Lib.NumEnd.ok.injEq] at h
          subst h
          split
          · omega
          · omega
theorem itoa_ret (n : Int) (h1 : -9223372036854775808 ≤ n) (h2 : n ≤ 9223372036854775807) : RetT cfg 63 [iv n] (.t (.s (Lib.itoa n))) := by
  refine ⟨.t (.s (Lib.itoa n)), [], 1, ?_, rfl⟩
  rw [runL_ex (p := itoaP) rfl]
  show (if -9223372036854775808 ≤ n ∧ n ≤ 9223372036854775807 then some (V.t (.s (Lib.itoa n)), ([] : HP), 0 + 1) else none) = _
  rw [if_pos ⟨h1, h2⟩]
theorem atoi_ret (s : List UInt8) (h : s.length ≤ 281474976710656) : RetT cfg 138 [.t (.s s)] (atoiV s) := by
  refine ⟨atoiV s, [], 1, ?_, ?_⟩
  · rw [runL_ex (p := atoiP) rfl]
    unfold atoiP
    simp only [if_pos h]
  · unfold atoiV
    cases Lib.atoiAll s <;> rfl
def atoiN (s : List UInt8) : Int := match Lib.atoiAll s with
  | .ok v => v
  | .range => Lib.atoiSat s
  | _ => 0
theorem snum_ret (s : List UInt8) (hl : s.length ≤ 100000) : RetT cfg 107 [.t (.s s)] (.tu [iv (atoiN s), bv (isNum s)]) := by
  have ha := fun st k => callEv_tr (C := cfg) (atoi_ret s (by omega)) rfl rfl rfl st k
  rw [retT_r, runL_pf (fn := f107) rfl rfl]
  unfold atoiV at ha
  unfold atoiN isNum
  cases hx : Lib.atoiAll s
  case range =>
    rw [hx] at ha
    simp [ha, resOf, resOfs, resOf1]
  case ok v =>
    rw [hx] at ha
    have hv := atoi_le hx
    by_cases h0 : 0 ≤ v
    · have hi := fun st k => callEv_tr (C := cfg) (itoa_ret v (by omega) hv) rfl rfl rfl st k
      simp only [iv] at hi
      by_cases h9 : s.length ≤ 9
      · have h9' : (s.length : Int) ≤ 9 := by omega
        simp [ha, h0, h9, h9', hi, resOf, resOfs, resOf1]
        by_cases he : Lib.itoa v = s
        · simp [he]
        · simp [he]
      · have h9' : ¬ (s.length : Int) ≤ 9 := by omega
        simp [ha, h0, h9, h9', hi, resOf, resOfs, resOf1]
    · simp [ha, h0, resOf, resOfs, resOf1]
  · rw [hx] at ha
    simp [ha, resOf, resOfs, resOf1]
theorem isNum_val {s : List UInt8} (h : isNum s = true) : atoiN s = (rnum s).1 := by
  rw [isNum_rnum] at h
  have h' : rnum s = ((rnum s).1, true) := by rw [← h]
  obtain ⟨_, _, _, _, e⟩ := of_rnum h'
  unfold atoiN
  rw [e]
def snumsI (ws : List (List UInt8)) (i : Nat) (s : St) : Prop := ∃ acc v h ck, acc.length = i ∧ numsP ws = (numsP (ws.drop i)).map (acc ++ ·) ∧ AccI acc v h ∧ s = ⟨[(4, v), (9, .t (sl ws)), (10, iv ws.length), (11, iv (i : Int))], h, ck⟩
def snumsQ (ws : List (List UInt8)) (E : Option (Ex × St)) : Prop := match numsP ws with
  | some l => ∃ v h ck e, AccI l v h ∧ E = some (.exit 0, ⟨(4, v) :: e, h, ck⟩)
  | none => ∃ ck h x, resOf1 h x = some (.t (il [])) ∧ E = some (.ret, ⟨[(2, x), (3, bv false)], h, ck⟩)
theorem snums_loop (ws : List (List UInt8)) (hl : ws.length ≤ 100000) (hw : ∀ w ∈ ws, w.length ≤ 100000) {v : V} {h : HP} (hv : AccI [] v h) (ck : Nat) : snumsQ ws (evL cfg (.loop f61l0) ⟨[(4, v), (9, .t (sl ws)), (10, iv ws.length), (11, iv 0)], h, ck⟩) := by
  refine loop_q ws.length (snumsI ws) ?_ ?_ _ ⟨[], v, h, ck, rfl, by simp, hv, rfl⟩
  · rintro i s hi ⟨acc, v, h, ck, ha, hn, hv, rfl⟩
    have hw1 : IntKind.i64.wrap ((i : Int) + 1) = (i : Int) + 1 := wrap_id (by omega) (by omega)
    have hr := fun st k => callEv_tr (C := cfg) (snum_ret ws[i] (hw _ (List.getElem_mem hi))) rfl rfl rfl st k
    simp only [iv, bv] at hr
    rw [numsP_drop hi] at hn
    cases hx : isNum ws[i] with
    | true =>
      have hxv := isNum_val hx
      rw [hx, hxv] at hr
      rw [← isNum_rnum, hx] at hn
      rw [if_pos rfl, Option.map_map] at hn
      generalize (rnum ws[i]).1 = n at *
      have hb : (acc.length + 1) * 8 ≤ 140737488355328 := by omega
      have hb2 : acc.length * 8 + 8 ≤ 140737488355328 := by omega
      rcases hv with ⟨rfl, rfl, rfl⟩ | ⟨k, rfl, rfl⟩
      · simp [f61l0e, sl, slc, hi, hw1, hr, over, rowsOf, treesC, treesOf, treeOf, keysOfs, freezeAll, app, elsOf]
        exact ⟨[n], _, _, _, by rw [← ha]; rfl, by rw [hn]; congr 1, .inr ⟨_, rfl, rfl⟩, by simp [sl, slc]; exact ⟨rfl, ⟨rfl, rfl⟩, rfl⟩⟩
      · simp [f61l0e, sl, slc, hi, hw1, hr, over, rowsOf, treesC, treesOf, treeOf, keysOfs, freezeAll, app, elsOf, cl, hb, hb2]
        exact ⟨acc ++ [n], .ow ⟨k.s, ck + 1 + 1 + 1 + 1, 3⟩ 1 0 (acc ++ [n]).length, [(⟨k.s, ck + 1 + 1 + 1 + 1, 3⟩, .row 3 1 (cl (acc ++ [n])) false)], _, by simp [ha], by rw [hn]; congr 1; funext x; simp, .inr ⟨_, rfl, rfl⟩, by simp [cl, sl, slc]; rfl⟩
    | false =>
      rw [hx] at hr
      rw [← isNum_rnum, hx] at hn
      have hn2 : numsP ws = none := hn
      simp [f61l0e, sl, slc, hi, hw1, hr]
      unfold snumsQ
      rw [hn2]
      exact ⟨_, _, _, by simp [resOf1, treeOf, il], rfl⟩
  · rintro s ⟨acc, v, h, ck, ha, hn, hv, rfl⟩
    rw [List.drop_eq_nil_of_le (Nat.le_refl _)] at hn
    have hn2 : numsP ws = some acc := by rw [hn]; simp [numsP]
    simp [f61l0e, sl, slc, filt_tt]
    unfold snumsQ
    rw [hn2]
    exact ⟨_, _, _, _, hv, rfl⟩
theorem snums_ret (ws : List (List UInt8)) (hl : ws.length ≤ 100000) (hw : ∀ w ∈ ws, w.length ≤ 100000) : RetT cfg 61 [.t (sl ws)] (numsV (numsP ws)) := by
  rw [retT_r, runL_pf (fn := f61) rfl rfl]
  have hL := fun v h hv ck => snums_loop ws hl hw (v := v) (h := h) hv ck
  unfold snumsQ at hL
  cases hn : numsP ws with
  | some l =>
    rw [hn] at hL
    obtain ⟨v, h, ck, e, hv, hE⟩ := hL (.ow ⟨4, 1, 0⟩ 1 0 0) [(⟨4, 1, 0⟩, .row 3 1 [] false)] (.inr ⟨_, rfl, rfl⟩) 3
    have hr := accI_res hv
    simp only [iv, bv, sl] at hE
    simp only [il] at hr
    simp [hE, numsV, resOf, resOfs, hr, res1_t, filt_tt, il, sl, slc_len]
  | none =>
    rw [hn] at hL
    obtain ⟨ck, h, x, hx, hE⟩ := hL (.ow ⟨4, 1, 0⟩ 1 0 0) [(⟨4, 1, 0⟩, .row 3 1 [] false)] (.inr ⟨_, rfl, rfl⟩) 3
    simp only [iv, bv, sl] at hE
    simp only [il] at hx
    simp [hE, numsV, resOf, resOfs, hx, res1_t, filt_tt, il, sl, slc_len]
theorem split_ret (s : List UInt8) (c : UInt8) (hl : s.length ≤ 1000000) : RetT cfg 30 [.t (.s s), .t (.s [c])] (.t (sl (spl c s))) := by
  refine ⟨.t (sl (spl c s)), [], 1, ?_, rfl⟩
  rw [runL_ex (p := splitP) rfl]
  show (if s.length < 4294967281 ∧ 1 ≤ [c].length then some (V.t (.l ((Lib.split s [c]).map fun x => [.s x])), ([] : HP), 0 + 1) else none) = _
  rw [if_pos ⟨by omega, Nat.le_refl _⟩, split_spl]
  rfl
theorem trim_ret (s p : List UInt8) (hl : s.length ≤ 1000000) : RetT cfg 31 [.t (.s s), .t (.s p)] (.t (.s (Lib.trimSuffix s p))) := by
  refine ⟨.t (.s (Lib.trimSuffix s p)), [], 1, ?_, rfl⟩
  rw [runL_ex (p := trimP) rfl]
  show (if s.length ≤ 281474976710656 then some (V.t (.s (Lib.trimSuffix s p)), ([] : HP), 0 + 1) else none) = _
  rw [if_pos (by omega)]
def prep (p : List UInt8) : List (List UInt8) → List (List UInt8)
  | x :: xs => (p ++ x) :: xs
  | [] => [p]
theorem spl_cons_ne {c b : UInt8} {r : List UInt8} (h : b ≠ c) : spl c (b :: r) = prep [b] (spl c r) := by
  simp only [spl]
  rw [if_neg h]
  cases hs : spl c r with
  | nil => exact absurd hs (spl_ne c r)
  | cons x l => rfl
def I64 (n : Int) : Prop := -9223372036854775808 ≤ n ∧ n ≤ 9223372036854775807
def nsB (l : List Int) : List UInt8 := l.flatMap fun n => 32 :: Lib.itoa n
def okB : List UInt8 := [111, 107]
def errB : List UInt8 := [101, 114, 114, 111, 114, 32]
def toldP (e : Int) (l : List Int) : List UInt8 := if e = 0 then okB ++ nsB l else errB ++ Lib.itoa e
theorem nsB_take {l : List Int} {i : Nat} (hi : i < l.length) : nsB (l.take (i + 1)) = nsB (l.take i) ++ (32 :: Lib.itoa l[i]) := by
  unfold nsB
  rw [List.take_succ_eq_append_getElem hi, List.flatMap_append, List.flatMap_singleton]
theorem nsB_len : ∀ l : List Int, (∀ n ∈ l, I64 n) → (nsB l).length ≤ 22 * l.length
  | [], _ => by simp [nsB]
  | n :: l, h => by
    have h1 := h n List.mem_cons_self
    have := Lib.itoa_length_le n h1.1 h1.2
    have ih := nsB_len l (fun m hm => h m (List.mem_cons_of_mem _ hm))
    rw [show nsB (n :: l) = (32 :: Lib.itoa n) ++ nsB l from rfl, List.length_append, List.length_cons, List.length_cons]
    omega
def tdI (l : List Int) (i : Nat) (s : St) : Prop := ∃ ck x, x = okB ++ nsB (l.take i) ∧ s = ⟨[(5, .t (.s x)), (13, .t (il l)), (14, iv l.length), (15, iv (i : Int))], [], ck⟩
def tdQ (l : List Int) (E : Option (Ex × St)) : Prop := ∃ ck e, E = some (.exit 0, ⟨(5, .t (.s (okB ++ nsB l))) :: e, [], ck⟩)
theorem td_loop (l : List Int) (hl : l.length ≤ 100000) (hn : ∀ n ∈ l, I64 n) (ck : Nat) : tdQ l (evL cfg (.loop f62l0) ⟨[(5, .t (.s okB)), (13, .t (il l)), (14, iv l.length), (15, iv 0)], [], ck⟩) := by
  refine loop_q l.length (tdI l) ?_ ?_ _ ⟨ck, okB, by simp [nsB], rfl⟩
  · rintro i s hi ⟨ck, x, hx, rfl⟩
    have hw : IntKind.i64.wrap ((i : Int) + 1) = (i : Int) + 1 := wrap_id (by omega) (by omega)
    have hni := hn _ (List.getElem_mem hi)
    have hlen := Lib.itoa_length_le l[i] hni.1 hni.2
    have hxl : x.length ≤ 3000000 := by
      rw [hx, List.length_append]
      have := nsB_len (l.take i) (fun n hm => hn n (List.mem_of_mem_take hm))
      rw [List.length_take] at this
      simp [okB]; omega
    have hf := fun s k => callEv_tr (C := cfg) (itoa_ret l[i] hni.1 hni.2) rfl rfl rfl s k
    have hT := nsB_take hi
    simp only [iv] at hf
    generalize Lib.itoa l[i] = z at *
    have hb0 : ¬ i64max < 1 + (z.length : Int) := by unfold i64max; omega
    have hb1 : ¬ i64max < (x.length : Int) + ((z.length : Int) + 1) := by unfold i64max; omega
    simp [f62l0e, il, hi, hw, hf, hb0, hb1]
    exact ⟨_, _, by rw [hT, ← List.append_assoc, ← hx], rfl⟩
  · rintro s ⟨ck, x, h1, rfl⟩
    rw [List.take_length] at h1
    subst h1
    simp [f62l0e]
    exact ⟨_, _, rfl⟩
theorem told_ret (e : Int) (l : List Int) (he : I64 e) (hl : l.length ≤ 100000) (hn : ∀ n ∈ l, I64 n) : RetT cfg 62 [iv e, .t (il l)] (.t (.s (toldP e l))) := by
  have hf := fun s k => callEv_tr (C := cfg) (itoa_ret e he.1 he.2) rfl rfl rfl s k
  have hlen := Lib.itoa_length_le e he.1 he.2
  obtain ⟨ck, e', hE⟩ := td_loop l hl hn 4
  refine RetT.of ?_
  rw [runL_pf (fn := f62) rfl rfl]
  unfold toldP
  simp only [iv, bv, il, okB] at hf hE
  by_cases h0 : e = 0
  · subst h0
    simp [hE, il, okB]
  · have h0' : (e != 0) = true := bne_iff_ne.2 h0
    generalize Lib.itoa e = z at *
    have hb1 : ¬ i64max < 6 + (z.length : Int) := by unfold i64max; omega
    simp [h0, h0', hf, hb1, errB, il]
end Go.Proofs.YtlfjlpleodlkmaaGreatDoor.Pv
namespace Go.Proofs.YtlfjlpleodlkmaaGreatDoor.Pv
def hold (n : Int) : Int := if 2147483647 < n then 2147483647 else if n < -2147483647 then -2147483647 else n
theorem hold_in (n : Int) : -2147483647 ≤ hold n ∧ hold n ≤ 2147483647 := by
  unfold hold; split
  · omega
  · split <;> omega
theorem hold_id {n : Int} (h : -2147483647 ≤ n ∧ n ≤ 2147483647) : hold n = n := by
  unfold hold; rw [if_neg (by omega), if_neg (by omega)]
theorem hold_mm (n : Int) : (if -2147483647 < (if n < 2147483647 then n else 2147483647) then (if n < 2147483647 then n else 2147483647) else -2147483647) = hold n := by
  unfold hold
  by_cases h1 : n < 2147483647
  · rw [if_pos h1]
    by_cases h2 : -2147483647 < n
    · rw [if_pos h2, if_neg (by omega), if_neg (by omega)]
    · rw [if_neg h2, if_neg (by omega)]
      by_cases h3 : n < -2147483647
      · rw [if_pos h3]
      · rw [if_neg h3]; omega
  · rw [if_neg h1, if_pos (by omega)]
    by_cases h3 : 2147483647 < n
    · rw [if_pos h3]
    · rw [if_neg h3, if_neg (by omega)]; omega
def fmul (a b : Int) : Int := hold ((hold a * hold b).tdiv 65536)
def rmul (a b : Int) : Int :=
  let n := ((if hold a < 0 then -hold a else hold a) * (if hold b < 0 then -hold b else hold b)).tdiv 65536
  hold (if (decide (hold a < 0) != decide (hold b < 0)) then -n else n)
theorem rmul_is (a b : Int) : rmul a b = fmul a b := by
  unfold rmul fmul
  generalize hold a = x
  generalize hold b = y
  by_cases hx : x < 0 <;> by_cases hy : y < 0 <;> simp [hx, hy, Int.neg_mul, Int.mul_neg, Int.neg_tdiv]
theorem held_mul (a b : Int) : -4611686018427387904 < hold a * hold b ∧ hold a * hold b < 4611686018427387904 := by
  have h1 := hold_in a
  have h2 := hold_in b
  have h3 : (hold a * hold b).natAbs ≤ 2147483647 * 2147483647 := by
    rw [Int.natAbs_mul]
    exact Nat.mul_le_mul (by omega) (by omega)
  omega
def dot : List Int → List Int → Int → Int
  | x :: a, y :: b, s => dot a b (hold (hold s + hold (fmul x y)))
  | _, _, s => s
theorem dot_in : ∀ (a b : List Int) (s : Int), (-2147483647 ≤ s ∧ s ≤ 2147483647) → -2147483647 ≤ dot a b s ∧ dot a b s ≤ 2147483647
  | [], b, s, h => by unfold dot; exact h
  | x :: a, [], s, h => by unfold dot; exact h
  | x :: a, y :: b, s, h => by unfold dot; exact dot_in a b _ (hold_in _)
def scoresP (rows : List (List Int)) (v : List Int) : List Int := rows.map fun l => dot l v 0
def bes (v : List Int) (but : Int) : List Int → Nat → Int → Int
  | [], _, best => best
  | x :: r, i, best => bes v but r (i + 1) (if (i : Int) ≠ but ∧ (best < 0 ∨ v.getD best.toNat 0 < x) then i else best)
def ahead (v : List Int) (at_ i : Nat) : Bool := decide (v.getD at_ 0 < v.getD i 0) || (decide (v.getD i 0 = v.getD at_ 0) && decide (i < at_))
def rankP (v : List Int) (at_ : Nat) : Nat := ((List.range v.length).filter fun i => ahead v at_ i).length
def ofP (v : List Int) (rank : Nat) : Int := match (List.range v.length).find? fun i => rankP v i == rank with
  | some i => i
  | none => -1
def Top1 (v : List Int) (but : Int) (n : Nat) (b : Int) : Prop := (b = -1 ∧ ∀ i : Nat, i < n → (i : Int) = but) ∨ (0 ≤ b ∧ b < n ∧ b ≠ but ∧ ∀ i : Nat, i < n → (i : Int) ≠ but → (i : Int) ≠ b → ahead v i b.toNat = true)
theorem bes_top (v : List Int) (but : Int) : ∀ (r : List Int) (i : Nat) (best : Int), v.drop i = r → i ≤ v.length → Top1 v but i best → Top1 v but v.length (bes v but r i best)
  | [], i, best, hd, hi, h => by
    have : i = v.length := by
      have := congrArg List.length hd
      simp at this; omega
    subst this
    unfold bes; exact h
  | x :: r, i, best, hd, hi, h => by
    have hlt : i < v.length := by
      have := congrArg List.length hd
      simp at this; omega
    have hx : v.getD i 0 = x := by
      rw [List.drop_eq_getElem_cons hlt] at hd
      rw [List.getD_eq_getElem?_getD, List.getElem?_eq_getElem hlt]
      exact (List.cons.inj hd).1
    have hr : v.drop (i + 1) = r := by
      rw [List.drop_eq_getElem_cons hlt] at hd
      exact (List.cons.inj hd).2
    unfold bes
    refine bes_top v but r (i + 1) _ hr (by omega) ?_
    by_cases hb : (i : Int) = but
    · rw [if_neg (fun q => q.1 hb)]
      rcases h with ⟨h1, h2⟩ | ⟨h1, h2, h3, h4⟩
      · refine .inl ⟨h1, fun j hj => ?_⟩
        by_cases e : j = i
        · subst e; exact hb
        · exact h2 j (by omega)
      · refine .inr ⟨h1, by omega, h3, fun j hj hjb hjn => ?_⟩
        by_cases e : j = i
        · subst e; exact absurd hb hjb
        · exact h4 j (by omega) hjb hjn
    · by_cases hc : best < 0 ∨ v.getD best.toNat 0 < x
      · rw [if_pos ⟨hb, hc⟩]
        refine .inr ⟨by omega, by omega, hb, fun j hj hjb hjn => ?_⟩
        have hji : j < i := by omega
        rw [Int.toNat_natCast]
        rcases h with ⟨h1, h2⟩ | ⟨h1, h2, h3, h4⟩
        · exact absurd (h2 j hji) hjb
        · have hgt : v.getD best.toNat 0 < x := hc.resolve_left (by omega)
          by_cases e : (j : Int) = best
          · have : best.toNat = j := by omega
            rw [this] at hgt
            simp only [ahead, hx, Bool.or_eq_true, decide_eq_true_eq]
            exact .inl hgt
          · have := h4 j hji hjb e
            simp only [ahead, Bool.or_eq_true, Bool.and_eq_true, decide_eq_true_eq] at this ⊢
            rw [hx]
            rcases this with h | h
            · exact .inl (by omega)
            · exact .inl (by omega)
      · rw [if_neg (fun q => hc q.2)]
        rw [not_or] at hc
        rcases h with ⟨h1, h2⟩ | ⟨h1, h2, h3, h4⟩
        · exact absurd h1 (by omega)
        · refine .inr ⟨h1, by omega, h3, fun j hj hjb hjn => ?_⟩
          by_cases e : j = i
          · subst e
            simp only [ahead, hx, Bool.or_eq_true, Bool.and_eq_true, decide_eq_true_eq]
            by_cases he : x = v.getD best.toNat 0
            · exact .inr ⟨by omega, by omega⟩
            · exact .inl (by omega)
          · exact h4 j (by omega) hjb hjn
def twoP (v : List Int) : Int × Int := (bes v (-1) v 0 (-1), bes v (bes v (-1) v 0 (-1)) v 0 (-1))
theorem ahead_irr (v : List Int) (i : Nat) : ahead v i i = false := by simp [ahead]
theorem ahead_anti {v : List Int} {i j : Nat} (h : ahead v i j = true) : ahead v j i = false := by
  simp only [ahead, Bool.or_eq_true, Bool.and_eq_true, decide_eq_true_eq] at h
  simp only [ahead, Bool.or_eq_false_iff, Bool.and_eq_false_iff, decide_eq_false_iff_not]
  rcases h with h | h
  · exact ⟨by omega, .inl (by omega)⟩
  · exact ⟨by omega, .inr (by omega)⟩
theorem of_is {v : List Int} {rank : Nat} {b : Nat} (hb : b < v.length) (h1 : rankP v b = rank) (h2 : ∀ i, i < v.length → i ≠ b → rankP v i ≠ rank) : ofP v rank = b := by
  unfold ofP
  have : (List.range v.length).find? (fun i => rankP v i == rank) = some b := by
    rw [List.find?_eq_some_iff_append]
    refine ⟨by simp [h1], List.range b, (List.range' (b + 1) (v.length - b - 1)), ?_, fun i hi => ?_⟩
    · rw [List.range_eq_range', List.range_eq_range', show v.length = b + (v.length - b - 1 + 1) by omega, ← List.range'_append_1, List.range'_succ]
      simp
    · have := List.mem_range.1 hi
      simp [h2 i (by omega) (by omega)]
  rw [this]
theorem of_none {v : List Int} {rank : Nat} (h2 : ∀ i, i < v.length → rankP v i ≠ rank) : ofP v rank = -1 := by
  unfold ofP
  have : (List.range v.length).find? (fun i => rankP v i == rank) = none := by
    rw [List.find?_eq_none]
    intro i hi
    simp [h2 i (List.mem_range.1 hi)]
  rw [this]
theorem rank_nd (v : List Int) (b : Nat) : ((List.range v.length).filter fun i => ahead v b i).Nodup := List.Pairwise.filter _ List.nodup_range
theorem rank_mem {v : List Int} {b i : Nat} : i ∈ ((List.range v.length).filter fun i => ahead v b i) ↔ i < v.length ∧ ahead v b i = true := by
  rw [List.mem_filter, List.mem_range]
theorem rank_zero {v : List Int} {b : Nat} (h : ∀ i, i < v.length → ahead v b i = false) : rankP v b = 0 := by
  unfold rankP
  rw [List.length_eq_zero_iff, List.filter_eq_nil_iff]
  intro i hi
  rw [h i (List.mem_range.1 hi)]
  simp
theorem rank_pos {v : List Int} {b i : Nat} (hi : i < v.length) (h : ahead v b i = true) : 0 < rankP v b := List.length_pos_of_mem (rank_mem.2 ⟨hi, h⟩)
theorem rank_two {v : List Int} {b i j : Nat} (hi : i < v.length) (hj : j < v.length) (hij : i ≠ j) (h1 : ahead v b i = true) (h2 : ahead v b j = true) : 1 < rankP v b := by
  have a1 := rank_mem.2 ⟨hi, h1⟩
  have a2 := rank_mem.2 ⟨hj, h2⟩
  unfold rankP
  generalize ((List.range v.length).filter fun i => ahead v b i) = l at *
  match l, a1, a2 with
  | [x], a1, a2 =>
    rw [List.mem_singleton] at a1 a2
    exact absurd (a1.trans a2.symm) hij
  | x :: y :: r, _, _ => simp
theorem rank_one {v : List Int} {b i : Nat} (hi : i < v.length) (h1 : ahead v b i = true) (h2 : ∀ j, j < v.length → ahead v b j = true → j = i) : rankP v b = 1 := by
  have a1 := rank_mem.2 ⟨hi, h1⟩
  have nd := rank_nd v b
  have all : ∀ j ∈ ((List.range v.length).filter fun i => ahead v b i), j = i := fun j hj => h2 j (rank_mem.1 hj).1 (rank_mem.1 hj).2
  unfold rankP
  generalize ((List.range v.length).filter fun i => ahead v b i) = l at *
  match l, a1, nd, all with
  | [x], _, _, _ => rfl
  | x :: y :: r, _, nd, all =>
    have e1 := all x (by simp)
    have e2 := all y (by simp)
    rw [e1, e2] at nd
    simp at nd
theorem two_is {v : List Int} (hv : v ≠ []) : twoP v = (ofP v 0, ofP v 1) := by
  have hlen : 0 < v.length := List.length_pos_iff.2 hv
  have t0 := bes_top v (-1) v 0 (-1) rfl (by omega) (.inl ⟨rfl, fun i hi => by omega⟩)
  unfold twoP
  generalize bes v (-1) v 0 (-1) = b0 at *
  rcases t0 with ⟨_, h⟩ | ⟨h1, h2, _, h4⟩
  · have := h 0 hlen; omega
  obtain ⟨a, rfl⟩ : ∃ a : Nat, b0 = a := ⟨b0.toNat, by omega⟩
  rw [Int.toNat_natCast] at h4
  have ha : a < v.length := by omega
  have hf : ∀ j, j < v.length → j ≠ a → ahead v j a = true := fun j hj hn => h4 j hj (by omega) (by omega)
  have r0 : rankP v a = 0 := rank_zero fun i hi => by
    by_cases e : i = a
    · subst e; exact ahead_irr v i
    · exact ahead_anti (hf i hi e)
  have e0 : ofP v 0 = a := of_is ha r0 fun i hi hn => by have := rank_pos ha (hf i hi hn); omega
  have t1 := bes_top v a v 0 (-1) rfl (by omega) (.inl ⟨rfl, fun i hi => by omega⟩)
  generalize bes v a v 0 (-1) = b1 at *
  rw [e0]
  rcases t1 with ⟨rfl, h⟩ | ⟨g1, g2, g3, g4⟩
  · have e1 : ofP v 1 = -1 := of_none fun i hi => by
      have := h i hi
      have : i = a := by omega
      rw [this, r0]; omega
    rw [e1]
  · obtain ⟨b, rfl⟩ : ∃ b : Nat, b1 = b := ⟨b1.toNat, by omega⟩
    rw [Int.toNat_natCast] at g4
    have hb : b < v.length := by omega
    have hba : b ≠ a := by omega
    have hg : ∀ j, j < v.length → j ≠ a → j ≠ b → ahead v j b = true := fun j hj q1 q2 => g4 j hj (by omega) (by omega)
    have r1 : rankP v b = 1 := rank_one ha (hf b hb hba) fun j hj hq => by
      apply Classical.byContradiction
      intro hn
      by_cases e : j = b
      · subst e; rw [ahead_irr] at hq; cases hq
      · have := ahead_anti (hg j hj hn e); rw [hq] at this; cases this
    have e1 : ofP v 1 = b := of_is hb r1 fun i hi hn => by
      by_cases e : i = a
      · subst e; rw [r0]; omega
      · have := rank_two ha hb (Ne.symm hba) (hf i hi e) (hg i hi e hn); omega
    rw [e1]
def partP (n : Int) : Int := if hold n < 0 then 1 else hold n + 1
theorem partP_is (n : Int) : (if n < 0 then 1 else if 2147483647 < n then 2147483648 else n + 1) = partP n := by
  unfold partP hold
  repeat' split
  all_goals omega
theorem partP_in (n : Int) : 1 ≤ partP n ∧ partP n ≤ 2147483648 := by
  have := hold_in n
  unfold partP; split <;> omega
def shareP (a b : Int) : Int := (partP a * 65536).tdiv (partP a + partP b)
def bitsP (d : Int) : Nat → Int → Int → Int
  | 0, q, left => q
  | k + 1, q, left => if d ≤ 2 * left then bitsP d k (2 * q + 1) (2 * left - d) else bitsP d k (2 * q) (2 * left)
theorem bits_is (x d : Int) (hd : 0 < d) : ∀ (k i : Nat) (q left : Int), x * 2 ^ i = q * d + left → 0 ≤ left → left < d → bitsP d k q left = (x * 2 ^ (i + k)) / d
  | 0, i, q, left, h, h0, h1 => by
    unfold bitsP
    rw [Nat.add_zero, h, Int.add_comm, Int.add_mul_ediv_right _ _ (by omega), Int.ediv_eq_zero_of_lt h0 h1]; omega
  | k + 1, i, q, left, h, h0, h1 => by
    unfold bitsP
    have e : x * 2 ^ (i + 1) = 2 * (q * d) + 2 * left := by rw [Int.pow_succ, ← Int.mul_assoc, h]; omega
    have e2 : i + (k + 1) = (i + 1) + k := by omega
    split
    · rw [e2]
      exact bits_is x d hd k (i + 1) _ _ (by rw [e, Int.add_mul, Int.mul_assoc]; omega) (by omega) (by omega)
    · rw [e2]
      exact bits_is x d hd k (i + 1) _ _ (by rw [e, Int.mul_assoc]) (by omega) (by omega)
theorem share_is (a b : Int) : bitsP (partP a + partP b) 16 0 (partP a) = shareP a b := by
  have h1 := partP_in a
  have h2 := partP_in b
  rw [bits_is (partP a) _ (by omega) 16 0 0 (partP a) (by omega) (by omega) (by omega)]
  unfold shareP
  rw [Int.tdiv_eq_ediv_of_nonneg (by omega)]
  rfl
end Go.Proofs.YtlfjlpleodlkmaaGreatDoor.Pv
namespace Go.Proofs.YtlfjlpleodlkmaaGreatDoor.Pv
open Go Go.Pev
theorem callEv_cl {C : Cfg} {f : Nat} {args : List V} {x : V} (h : RetT C f args x) (hm : C.hpm f = false) (ho : C.own f = false) (hx : flatV x = true) (s : St) (k : Key) (hps : puresOf s.hp args = some args) : callEv C (runL C) f args s k = some (x, s.hp, s.ck) := callEv_t hm ho hps h (.inl hx)
theorem hold_ret (n : Int) : RetT cfg 77 [iv n] (iv (hold n)) := by
  refine RetT.of ?_
  rw [runL_pf (fn := f77) rfl rfl]
  have h := hold_mm n
  simp [minmax, h]
theorem hold_call (n : Int) (s : St) (k : Key) : callEv cfg (runL cfg) 77 [.t (.i .i64 n)] s k = some (.t (.i .i64 (hold n)), s.hp, s.ck) := callEv_tr (C := cfg) (hold_ret n) rfl rfl rfl s k
def fadd (a b : Int) : Int := hold (hold a + hold b)
theorem fadd_ret (a b : Int) : RetT cfg 149 [iv a, iv b] (iv (fadd a b)) := by
  have h1 := hold_in a
  have h2 := hold_in b
  have hw : IntKind.i64.wrap (hold a + hold b) = hold a + hold b := wrap_id (by omega) (by omega)
  refine RetT.of ?_
  rw [runL_pf (fn := f149) rfl rfl]
  simp [hold_call, hw, fadd]
theorem fadd_call (a b : Int) (s : St) (k : Key) : callEv cfg (runL cfg) 149 [.t (.i .i64 a), .t (.i .i64 b)] s k = some (.t (.i .i64 (fadd a b)), s.hp, s.ck) := callEv_tr (C := cfg) (fadd_ret a b) rfl rfl rfl s k
theorem tdiv_le (x : Int) : (x.tdiv 65536).natAbs ≤ x.natAbs := by
  rw [Int.natAbs_tdiv]; exact Nat.div_le_self _ _
theorem fmul_ret (a b : Int) : RetT cfg 151 [iv a, iv b] (iv (fmul a b)) := by
  have h1 := held_mul a b
  have h2 := tdiv_le (hold a * hold b)
  have hw : IntKind.i64.wrap (hold a * hold b) = hold a * hold b := wrap_id (by omega) (by omega)
  have hw2 : IntKind.i64.wrap ((hold a * hold b).tdiv 65536) = (hold a * hold b).tdiv 65536 := wrap_id (by omega) (by omega)
  refine RetT.of ?_
  rw [runL_pf (fn := f151) rfl rfl]
  simp [hold_call, hw, hw2, fmul]
theorem fmul_call (a b : Int) (s : St) (k : Key) : callEv cfg (runL cfg) 151 [.t (.i .i64 a), .t (.i .i64 b)] s k = some (.t (.i .i64 (fmul a b)), s.hp, s.ck) := callEv_tr (C := cfg) (fmul_ret a b) rfl rfl rfl s k
theorem dot_drop {a b : List Int} {i : Nat} (ha : i < a.length) (hb : i < b.length) (s : Int) : dot (a.drop i) (b.drop i) s = dot (a.drop (i + 1)) (b.drop (i + 1)) (fadd s (fmul a[i] b[i])) := by
  rw [List.drop_eq_getElem_cons ha, List.drop_eq_getElem_cons hb]; rfl
theorem dot_ret (a b : List Int) (hl : a.length ≤ 1000000) : RetT cfg 153 [.t (il a), .t (il b)] (.tu [iv (if a.length = b.length then dot a b 0 else 0), bv (decide (a.length = b.length))]) := by
  by_cases hab : a.length = b.length
  · have hL : ∀ ck, ∃ c, evL cfg (.loop f153l0) ⟨[(1, .t (il b)), (6, iv 0), (14, .t (il a)), (15, iv a.length), (16, iv 0)], [], ck⟩ = some (.exit 0, ⟨[(1, .t (il b)), (6, iv (dot a b 0)), (14, .t (il a)), (15, iv a.length), (16, iv a.length), (17, bv false)], [], c⟩) := by
      intro ck
      refine loop_q (Q := fun E => ∃ c, E = some (.exit 0, ⟨[(1, .t (il b)), (6, iv (dot a b 0)), (14, .t (il a)), (15, iv a.length), (16, iv a.length), (17, bv false)], [], c⟩)) a.length (fun i s => ∃ acc ck, dot (a.drop i) (b.drop i) acc = dot a b 0 ∧ s = ⟨[(1, .t (il b)), (6, iv acc), (14, .t (il a)), (15, iv a.length), (16, iv (i : Int))], [], ck⟩) ?_ ?_ _ ⟨0, ck, rfl, rfl⟩
      · rintro i s hi ⟨acc, ck, h1, rfl⟩
        have hib : i < b.length := by omega
        have hw : IntKind.i64.wrap ((i : Int) + 1) = (i : Int) + 1 := wrap_id (by omega) (by omega)
        rw [dot_drop hi hib] at h1
        simp [f153l0e, il, hi, hib, hw, fmul_call, fadd_call]
        exact h1
      · rintro s ⟨acc, ck, h1, rfl⟩
        simp [dot] at h1
        subst h1
        simp [f153l0e]
    obtain ⟨c, hc⟩ := hL 4
    simp [il] at hc
    rw [if_pos hab, decide_eq_true hab]
    rw [retT_r, runL_pf (fn := f153) rfl rfl]
    have hne : ((a.length : Int) != (b.length : Int)) = false := by simp [hab]
    simp [il, hne, hc, resOf, resOfs, resOf1]
  · rw [if_neg hab]
    rw [retT_r, runL_pf (fn := f153) rfl rfl]
    have hne : ((a.length : Int) != (b.length : Int)) = true := by simp; omega
    simp [il, hne, hab, resOf, resOfs, resOf1]
theorem dot_call (a b : List Int) (hl : a.length ≤ 1000000) (s : St) (k : Key) : callEv cfg (runL cfg) 153 [.t (.l (a.map fun n => [.i .i64 n])), .t (.l (b.map fun n => [.i .i64 n]))] s k = some (.tu [.t (.i .i64 (if a.length = b.length then dot a b 0 else 0)), .t (.b (decide (a.length = b.length)))], s.hp, s.ck) := callEv_tr (C := cfg) (dot_ret a b hl) rfl rfl rfl s k
def eachQ (g : Nat) (caps : List V) (a : List Int) (φ : Nat → Int → Int) (E : Option (Ex × St)) : Prop := ∃ c o ck, E = some (.exit 0, ⟨[(1, .fn g caps), (5, .ow ⟨5, c, o⟩ 1 0 a.length), (8, .t (il a)), (9, iv a.length), (10, iv a.length), (11, bv false)], [(⟨5, c, o⟩, .row 3 1 (cl (a.mapIdx φ)) false)], ck⟩)
def eachP (g : Nat) (caps : List V) (a : List Int) (φ : Nat → Int → Int) (i : Nat) (s : St) : Prop := ∃ c o ck els, els = cl ((a.mapIdx φ).take i) ∧ s = ⟨[(1, .fn g caps), (5, .ow ⟨5, c, o⟩ 1 0 i), (8, .t (il a)), (9, iv a.length), (10, iv (i : Int))], [(⟨5, c, o⟩, .row 3 1 els false)], ck⟩
theorem take_mapIdx {a : List Int} (φ : Nat → Int → Int) {i : Nat} (hi : i < a.length) : cl ((a.mapIdx φ).take (i + 1)) = cl ((a.mapIdx φ).take i) ++ [[.i .i64 (φ i a[i])]] := by
  rw [List.take_succ_eq_append_getElem (by simpa using hi)]
  simp [cl]
theorem each_ret (a : List Int) (g : Nat) (caps : List V) (φ : Nat → Int → Int) (hl : a.length ≤ 1000000) (hp : ∀ (i : Nat) (hi : i < a.length) (s : St) (k : Key), callEv cfg (runL cfg) g (iv i :: iv a[i] :: caps) s k = some (iv (φ i a[i]), s.hp, s.ck)) : RetT cfg 147 [.t (il a), .fn g caps] (.t (il (a.mapIdx φ))) := by
  have hL : ∀ c o ck, eachQ g caps a φ (evL cfg (.loop f147l0) ⟨[(1, .fn g caps), (5, .ow ⟨5, c, o⟩ 1 0 0), (8, .t (il a)), (9, iv a.length), (10, iv 0)], [(⟨5, c, o⟩, .row 3 1 [] false)], ck⟩) := by
    intro c o ck
    refine loop_q a.length (eachP g caps a φ) ?_ ?_ _ ⟨c, o, ck, [], rfl, rfl⟩
    · rintro i s hi ⟨c, o, ck, els, h1, rfl⟩
      have hw : IntKind.i64.wrap ((i : Int) + 1) = (i : Int) + 1 := wrap_id (by omega) (by omega)
      have hlen : els.length = i := by rw [h1]; simp [cl]; omega
      have hb : (i + 1) * 8 ≤ 140737488355328 := by omega
      have hc := hp i hi
      simp only [iv] at hc
      have ht := take_mapIdx φ hi
      simp [f147l0e, il, hi, hw, hc, rowsOf, keysOfs, treesC, treesOf, treeOf, freezeAll, app, elsOf, over, hb, hlen]
      exact ⟨_, _, _, _, by rw [ht, h1], rfl⟩
    · rintro s ⟨c, o, ck, els, h1, rfl⟩
      have h2 : (a.mapIdx φ).take a.length = a.mapIdx φ := List.take_of_length_le (by simp)
      rw [h2] at h1
      subst h1
      simp [f147l0e]
      exact ⟨_, _, _, rfl⟩
  obtain ⟨c, o, ck, hc⟩ := hL 1 0 3
  simp [il] at hc
  rw [retT_r, runL_pf (fn := f147) rfl rfl]
  simp [il, hc, resOf, resOf1, treeOf, cl, List.take_of_length_le]
theorem clone_ret (xs : List (List T)) (h : ∀ c ∈ xs, c.length = 1) (hl : xs.length ≤ 1000000) : RetO cfg 97 [.t (.l xs)] 3 1 xs := by
  refine ⟨⟨0, 0, 0⟩, [(⟨0, 0, 0⟩, .row 3 1 xs false)], 9, ?_, by simp [HP.get]⟩
  rw [runL_ex (p := cloneP 3 1 8) rfl]
  unfold cloneP
  have h1 : (xs.all fun c => c.length == 1) = true := List.all_eq_true.2 fun c hc => by simpa using h c hc
  have h2 : xs.length * 8 ≤ 140737488355328 := by omega
  simp only [h1, h2]
  simp
structure LKey where
  batch : Int
  layer : Int
  token : Int
  rank : Int
  deriving DecidableEq
structure Ent where
  key : LKey
  vec : List Int
def enT (e : Ent) : List T := [.i .i64 e.key.batch, .i .i64 e.key.layer, .i .i64 e.key.token, .i .i64 e.key.rank, il e.vec]
def enl (l : List Ent) : T := .l (l.map enT)
def keyT (k : LKey) : List T := [.i .i64 k.batch, .i .i64 k.layer, .i .i64 k.token, .i .i64 k.rank]
def keyV (k : LKey) : V := .ag [iv k.batch, iv k.layer, iv k.token, iv k.rank]
def enV (e : Ent) : V := .ag [iv e.key.batch, iv e.key.layer, iv e.key.token, iv e.key.rank, .t (il e.vec)]
theorem find1_ret (e : Ent) (k : LKey) : RetT cfg 128 [enV e, .pr (keyT k)] (bv (decide (e.key = k))) := by
  obtain ⟨⟨a, b, c, d⟩, v⟩ := e
  obtain ⟨a', b', c', d'⟩ := k
  refine RetT.of ?_
  rw [runL_pf (fn := f128) rfl rfl]
  have hd : decide ((⟨a, b, c, d⟩ : LKey) = ⟨a', b', c', d'⟩) = (decide (a = a') && decide (b = b') && decide (c = c') && decide (d = d')) := by
    simp only [LKey.mk.injEq, ← Bool.decide_and, and_assoc]
  simp only [hd]
  by_cases h1 : a = a'
  case neg => simp [enV, keyT, beqS, cellsEq, h1]
  by_cases h2 : b = b'
  case neg => simp [enV, keyT, beqS, cellsEq, h1, h2]
  by_cases h3 : c = c'
  case neg => simp [enV, keyT, beqS, cellsEq, h1, h2, h3]
  by_cases h4 : d = d'
  · simp [enV, keyT, beqS, cellsEq, h1, h2, h3, h4]
  · simp [enV, keyT, beqS, cellsEq, h1, h2, h3, h4]
def atKey (k : LKey) (e : Ent) : Bool := decide (e.key = k)
def ent0 : Ent := ⟨⟨0, 0, 0, 0⟩, []⟩
def findP (l : List Ent) (k : LKey) : List Int × Bool := if fidx (atKey k) l < 0 then ([], false) else ((l.getD (fidx (atKey k) l).toNat ent0).vec, true)
theorem fidx_lt {α : Type} (p : α → Bool) : ∀ l : List α, fidx p l < l.length
  | [] => by simp [fidx]
  | x :: r => by
    have := fidx_lt p r
    unfold fidx
    split
    · simp only [List.length_cons]; omega
    · split
      · simp only [List.length_cons]; omega
      · simp only [List.length_cons]; omega
theorem find_ret (l : List Ent) (k : LKey) (hl : l.length ≤ 1000000) (hv : ∀ e ∈ l, e.vec.length ≤ 1000000) : RetT cfg 93 [.t (enl l), keyV k] (.tu [.t (il (findP l k).1), bv (findP l k).2]) := by
  have h1 : RetT cfg 127 [.t (enl l), .fn 128 [.pr (keyT k)]] (.t (.i .i64 (fidx (atKey k) l))) := by
    refine ixf_run (ag := true) (sz := 5) enT (atKey k) enV rfl rfl (by simp [enT]) (by simp [enT, enV]) hl ?_
    intro e _ s kk hs
    exact ⟨s.ck, by rw [callEv_cl (C := cfg) (find1_ret e k) rfl rfl rfl s kk (by simp [puresOf, pureOf, enV, treesOf, treeOf]), hs]; rfl⟩
  have h2 := fun (s : St) (kk : Key) => callEv_fn (C := cfg) (caps0 := [.pt ⟨3, 0, 0⟩ 4 0 0]) h1 rfl rfl rfl s kk
  rw [retT_r, runL_pf (fn := f93) rfl rfl]
  unfold findP
  have hlt := fidx_lt (atKey k) l
  simp only [enl, keyT] at h2
  by_cases c : fidx (atKey k) l < 0
  · rw [if_pos c]
    simp [keyV, enl, h2, c, capsOf, capOf, treesOf, treeOf, resOf, resOfs, resOf1]
  · rw [if_neg c]
    obtain ⟨j, hj⟩ : ∃ j : Nat, fidx (atKey k) l = j := ⟨(fidx (atKey k) l).toNat, by omega⟩
    rw [hj] at h2 hlt
    rw [hj, Int.toNat_natCast]
    have hjl : j < l.length := by omega
    have hg : l.getD j ent0 = l[j] := by simp [List.getD_eq_getElem?_getD, hjl]
    have hvl := hv _ (List.getElem_mem hjl)
    rw [hg]
    have hc := fun s kk => callEv_tro (C := cfg) (clone_ret (l[j].vec.map fun n => [.i .i64 n]) (by simp) (by simpa using hvl)) rfl rfl rfl s kk
    have d0 : decide ((j : Int) < 0) = false := decide_eq_false (by omega)
    simp only [List.length_map] at hc
    simp [keyV, enl, enT, h2, d0, hjl, hc, capsOf, capOf, treesOf, treeOf, resOf, resOfs, resOf1, List.take_of_length_le]
def entP (l : List Ent) (k : LKey) (v : List Int) : List Ent × Bool := if (findP l k).2 then (l, false) else (l ++ [⟨k, v⟩], true)
theorem clonee_ret (l : List Ent) (hl : l.length ≤ 1000000) : RetO cfg 131 [.t (enl l)] 176 5 (l.map enT) := by
  refine ⟨⟨0, 0, 0⟩, [(⟨0, 0, 0⟩, .row 176 5 (l.map enT) false)], 9, ?_, by simp [HP.get]⟩
  rw [runL_ex (p := cloneP 176 5 56) rfl]
  unfold cloneP enl
  have h1 : ((l.map enT).all fun c => c.length == 5) = true := List.all_eq_true.2 fun c hc => by
    obtain ⟨e, _, rfl⟩ := List.mem_map.1 hc
    rfl
  have h2 : (l.map enT).length * 56 ≤ 140737488355328 := by simp; omega
  simp only [h1, h2]
  simp
theorem enter_ret (l : List Ent) (k : LKey) (v : List Int) (hl : l.length ≤ 1000000) (hv : ∀ e ∈ l, e.vec.length ≤ 1000000) (hvl : v.length ≤ 1000000) : RetT cfg 95 [.t (enl l), keyV k, .t (il v)] (.tu [.t (enl (entP l k v).1), bv (entP l k v).2]) := by
  have hf := fun s kk => callEv_tr (C := cfg) (find_ret l k hl hv) rfl rfl rfl s kk
  have hc := fun hp kk => callO_tr (C := cfg) (clonee_ret l hl) rfl rfl rfl hp kk
  have hq := fun hp => callQ_o (C := cfg) (h := hp) (args := [.t (.l (v.map fun n => [.i .i64 n]))]) (ps := [.t (.l (v.map fun n => [.i .i64 n]))]) rfl (clone_ret (v.map fun n => [.i .i64 n]) (by simp) (by simpa using hvl)) (by simp [flatT])
  rw [retT_r, runL_pf (fn := f95) rfl rfl]
  unfold entP
  have hb : (l.length + 1) * 56 ≤ 140737488355328 := by omega
  obtain ⟨k1, k2, k3, k4⟩ := k
  generalize findP l ⟨k1, k2, k3, k4⟩ = r at *
  obtain ⟨w, ok⟩ := r
  simp only [enl, keyV, iv, bv, List.length_map] at hf hc
  cases ok with
  | true => simp [keyV, enl, hf, resOf, resOfs, resOf1]
  | false =>
    simp [keyV, enl, hf, hc, hq, noFn, isBox, rowsOf, keysOfs, keysOf1, treesC, treesOf, treeOf, freezeAll, app, elsOf, buildV, over, hb, resOf, resOfs, resOf1, List.take_of_length_le]
    simp [enT]
abbrev B32 := BitVec 32
def crcBit (c : B32) : B32 := (c >>> 1) ^^^ (if c.toNat % 2 = 1 then 3988292384#32 else 0#32)
def crcK : Nat → B32 → B32
  | 0, c => c
  | k + 1, c => crcK k (crcBit c)
def crcByte (c : B32) (b : UInt8) : B32 := crcK 8 (c ^^^ BitVec.ofNat 32 b.toNat)
def crcL : B32 → List UInt8 → B32
  | c, [] => c
  | c, b :: s => crcL (crcByte c b) s
def crcI (s : List UInt8) : Int := ((crcL 4294967295#32 s ^^^ 4294967295#32).toNat : Int)
theorem ofInt_nat (c : B32) : BitVec.ofInt 32 (c.toNat : Int) = c := by simp
theorem wrap32 (c : B32) : IntKind.u32.wrap (c.toNat : Int) = (c.toNat : Int) := IntWalk.u32_in _ (by have := c.isLt; omega)
theorem wrapN {n : Nat} (h : n < 4294967296) : IntKind.u32.wrap (n : Int) = (n : Int) := IntWalk.u32_in _ (by omega)
theorem shr_toNat (c : B32) : (c >>> 1).toNat = c.toNat / 2 := by
  rw [BitVec.toNat_ushiftRight, Nat.shiftRight_eq_div_pow]
theorem xor_u32 (c d : B32) : bin .xor (.t (.i .u32 (c.toNat : Int))) (.t (.i .u32 (d.toNat : Int))) = some (.t (.i .u32 ((c ^^^ d).toNat : Int))) := by
  rw [bin_xor]
  show some (V.t (.i .u32 (IntKind.u32.wrap ((BitVec.ofInt 32 (c.toNat : Int) ^^^ BitVec.ofInt 32 (d.toNat : Int)).toNat : Int)))) = _
  rw [ofInt_nat, ofInt_nat, wrap32]
theorem crc_ops (c : B32) : ∃ o m p : Nat,
    bin .and (.t (.i .u32 (c.toNat : Int))) (.t (.i .u32 1)) = some (.t (.i .u32 (o : Int))) ∧
    bin .shr (.t (.i .u32 (c.toNat : Int))) (.t (.i .u64 1)) = some (.t (.i .u32 (m : Int))) ∧
    bin .mul (.t (.i .u32 3988292384)) (.t (.i .u32 (o : Int))) = some (.t (.i .u32 (p : Int))) ∧
    bin .xor (.t (.i .u32 (m : Int))) (.t (.i .u32 (p : Int))) = some (.t (.i .u32 ((crcBit c).toNat : Int))) := by
  have hlt := c.isLt
  refine ⟨c.toNat % 2, c.toNat / 2, (if c.toNat % 2 = 1 then 3988292384#32 else 0#32 : B32).toNat, ?_, ?_, ?_, ?_⟩
  · rw [bin_and]
    show some (V.t (.i .u32 (IntKind.u32.wrap ((BitVec.ofInt 32 (c.toNat : Int) &&& BitVec.ofInt 32 1).toNat : Int)))) = _
    rw [ofInt_nat, show BitVec.ofInt 32 1 = 1#32 from rfl, BitVec.toNat_and, show (1#32 : B32).toNat = 1 from rfl, Nat.and_one_is_mod, wrapN (by omega)]
  · rw [bin_shr]
    show (if (1 : Int) < 0 then none else some (V.t (.i .u32 (Int.fdiv (c.toNat : Int) (2 ^ (min (1 : Int).toNat 32)))))) = _
    rw [if_neg (by omega), Int.fdiv_eq_ediv_of_nonneg _ (by decide)]
    rfl
  · rw [bin_mul]
    rcases Nat.mod_two_eq_zero_or_one c.toNat with h | h
    · rw [h]; rfl
    · rw [h]; rfl
  · have := xor_u32 (c >>> 1) (if c.toNat % 2 = 1 then 3988292384#32 else 0#32)
    rw [shr_toNat] at this
    exact this
def crcN (s : List UInt8) : Nat := (crcL 4294967295#32 s ^^^ 4294967295#32).toNat
theorem crcI_N (s : List UInt8) : crcI s = (crcN s : Int) := rfl
theorem crcN_lt (s : List UInt8) : crcN s < 4294967296 := (crcL 4294967295#32 s ^^^ 4294967295#32).isLt
def fourN (n : Nat) : List UInt8 := [UInt8.ofNat (n % 256), UInt8.ofNat (n / 256 % 256), UInt8.ofNat (n / 65536 % 256), UInt8.ofNat (n / 16777216 % 256)]
def fourD (a b c d : UInt8) : Nat := a.toNat + 256 * b.toNat + 65536 * c.toNat + 16777216 * d.toNat
theorem four_fourD {n : Nat} (h : n < 4294967296) : ∃ a b c d, fourN n = [a, b, c, d] ∧ fourD a b c d = n := by
  refine ⟨_, _, _, _, rfl, ?_⟩
  unfold fourD
  simp only [UInt8.toNat_ofNat', Nat.reducePow]
  omega
def packOk (kind : UInt8) (seq : Int) (text : List UInt8) : Prop := (kind = 68 ∨ (kind = 65 ∧ text = [])) ∧ 0 ≤ seq ∧ seq ≤ 2147483647
instance (kind : UInt8) (seq : Int) (text : List UInt8) : Decidable (packOk kind seq text) := by unfold packOk; exact inferInstance
theorem callEv_fnk {C : Cfg} {f g : Nat} {x : T} {caps caps0 : List V} {v : V} (h : RetT C f [.t x, .fn g caps] v) (hm : C.hpm f = false) (ho : C.own f = false) (s : St) (k : Key) (hc : capsOf s.hp caps0 = some caps) (hk : caps0.flatMap (keysOf1 s.hp) = []) : callEv C (runL C) f [.t x, .fn g caps0] s k = some (v, s.hp, s.ck) :=
  callEv_t hm ho (by simp [puresOf, pureOf, hc]) h (.inr (by simp [keysOf, hk]))
def scaleR (a : List Int) (k : Int) : List Int := a.map fun x => fmul x k
def reluR (a : List Int) : List Int := a.map fun x => if hold x < 0 then 0 else hold x
def addR (a b : List Int) : List Int := List.zipWith fadd a b
theorem scale1_ret (i x n : Int) : RetT cfg 150 [iv i, iv x, .pr [.i .i64 n]] (iv (fmul x n)) := by
  refine RetT.of ?_
  rw [runL_pf (fn := f150) rfl rfl]
  simp [fmul_call]
theorem scale_ret (a : List Int) (n : Int) (hl : a.length ≤ 1000000) : RetT cfg 123 [.t (il a), iv n] (.t (il (scaleR a n))) := by
  have he := each_ret a 150 [.pr [.i .i64 n]] (fun _ x => fmul x n) hl (fun i hi s k => callEv_cl (C := cfg) (scale1_ret i a[i] n) rfl rfl rfl s k (by simp [puresOf, pureOf]))
  have e : a.mapIdx (fun _ x => fmul x n) = scaleR a n := List.ext_getElem (by simp [scaleR]) (by simp [scaleR])
  rw [e] at he
  have hE := fun (s : St) (k : Key) => callEv_fnk (C := cfg) (caps0 := [.pt ⟨3, 0, 0⟩ 1 0 0]) he rfl rfl s k
  simp only [il] at hE
  rw [retT_r, runL_pf (fn := f123) rfl rfl]
  simp [il, hE, capsOf, capOf, treesOf, treeOf, keysOf1, resOf, resOf1]
theorem relu1_ret (i x : Int) : RetT cfg 154 [iv i, iv x] (iv (if hold x < 0 then 0 else hold x)) := by
  refine RetT.of ?_
  rw [runL_pf (fn := f154) rfl rfl]
  simp [hold_call, minmax]
theorem relu_ret (a : List Int) (hl : a.length ≤ 1000000) : RetT cfg 130 [.t (il a)] (.t (il (reluR a))) := by
  have he := each_ret a 154 [] (fun _ x => if hold x < 0 then 0 else hold x) hl (fun i hi s k => callEv_cl (C := cfg) (relu1_ret i a[i]) rfl rfl rfl s k (by simp [puresOf, pureOf]))
  have e : a.mapIdx (fun _ x => if hold x < 0 then 0 else hold x) = reluR a := List.ext_getElem (by simp [reluR]) (by simp [reluR])
  rw [e] at he
  have hE := fun (s : St) (k : Key) => callEv_fnk (C := cfg) (caps0 := []) he rfl rfl s k rfl rfl
  simp only [il] at hE
  rw [retT_r, runL_pf (fn := f130) rfl rfl]
  simp [il, hE, resOf, resOf1]
theorem add1_ret (i : Nat) (x : Int) (b : List Int) (hi : i < b.length) : RetT cfg 148 [iv i, iv x, .pr [il b]] (iv (fadd x b[i])) := by
  refine RetT.of ?_
  rw [runL_pf (fn := f148) rfl rfl]
  simp [fadd_call, il, hi]
theorem vadd_ret (a b : List Int) (hl : a.length ≤ 1000000) : RetT cfg 122 [.t (il a), .t (il b)] (.tu [.t (il (if a.length = b.length then addR a b else [])), bv (decide (a.length = b.length))]) := by
  rw [retT_r, runL_pf (fn := f122) rfl rfl]
  by_cases hab : a.length = b.length
  · have he := each_ret a 148 [.pr [il b]] (fun i x => fadd x (b.getD i 0)) hl (fun i hi s k => by
      have hib : i < b.length := by omega
      have hg : b.getD i 0 = b[i] := by simp [List.getD_eq_getElem?_getD, hib]
      rw [hg]
      exact callEv_cl (C := cfg) (add1_ret i a[i] b hib) rfl rfl rfl s k (by simp [puresOf, pureOf]))
    have e : a.mapIdx (fun i x => fadd x (b.getD i 0)) = addR a b := List.ext_getElem (by simp [addR]; omega) (fun i h1 h2 => by
      simp at h1
      have hib : i < b.length := by omega
      simp [addR, List.getD_eq_getElem?_getD, hib])
    rw [e] at he
    have hE := fun (s : St) (k : Key) => callEv_fnk (C := cfg) (caps0 := [.pt ⟨3, 0, 0⟩ 1 0 0]) he rfl rfl s k
    simp only [il] at hE
    have hne : ((a.length : Int) != (b.length : Int)) = false := by simp [hab]
    rw [if_pos hab, decide_eq_true hab]
    simp [il, hE, hne, capsOf, capOf, treesOf, treeOf, keysOf1, resOf, resOfs, resOf1]
  · have hne : ((a.length : Int) != (b.length : Int)) = true := by simp; omega
    rw [if_neg hab]
    simp [il, hne, hab, resOf, resOfs, resOf1, treeOf]
def matOk (m : List (List Int)) (n : Nat) : Bool := m.all fun l => decide (l.length = n)
def apQ (m : List (List Int)) (v : List Int) (E : Option (Ex × St)) : Prop :=
  (matOk m v.length = true ∧ ∃ c o ck, E = some (.exit 0, ⟨[(1, .t (il v)), (6, .ow ⟨6, c, o⟩ 1 0 m.length), (11, .t (gl m)), (12, iv m.length), (13, iv m.length), (14, bv false)], [(⟨6, c, o⟩, .row 3 1 (cl (scoresP m v)) false)], ck⟩)) ∨
  (matOk m v.length = false ∧ ∃ c r ck, E = some (.ret, ⟨[(4, .ow ⟨4, c, 0⟩ 1 0 0), (5, bv false)], (⟨4, c, 0⟩, .row 3 1 [] false) :: r, ck⟩))
def apP (m : List (List Int)) (v : List Int) (i : Nat) (s : St) : Prop := ∃ c o ck els, els = cl ((scoresP m v).take i) ∧ (∀ (j : Nat) (hj : j < m.length), j < i → m[j].length = v.length) ∧ s = ⟨[(1, .t (il v)), (6, .ow ⟨6, c, o⟩ 1 0 i), (11, .t (gl m)), (12, iv m.length), (13, iv (i : Int))], [(⟨6, c, o⟩, .row 3 1 els false)], ck⟩
theorem apply_ret (m : List (List Int)) (v : List Int) (hl : m.length ≤ 1000000) (hr : ∀ r ∈ m, r.length ≤ 1000000) : RetT cfg 129 [.t (gl m), .t (il v)] (.tu [.t (il (if matOk m v.length then scoresP m v else [])), bv (matOk m v.length)]) := by
  have hL : ∀ c o ck, apQ m v (evL cfg (.loop f129l0) ⟨[(1, .t (il v)), (6, .ow ⟨6, c, o⟩ 1 0 0), (11, .t (gl m)), (12, iv m.length), (13, iv 0)], [(⟨6, c, o⟩, .row 3 1 [] false)], ck⟩) := by
    intro c o ck
    refine loop_q m.length (apP m v) ?_ ?_ _ ⟨c, o, ck, [], rfl, fun j hj h => absurd h (Nat.not_lt_zero j), rfl⟩
    · rintro i s hi ⟨c, o, ck, els, h1, h2, rfl⟩
      have hw : IntKind.i64.wrap ((i : Int) + 1) = (i : Int) + 1 := wrap_id (by omega) (by omega)
      have hlen : els.length = i := by rw [h1]; simp [cl, scoresP]; omega
      have hb : (i + 1) * 8 ≤ 140737488355328 := by omega
      have hd := fun s k => dot_call m[i] v (hr _ (List.getElem_mem hi)) s k
      by_cases hx : m[i].length = v.length
      · have ht : cl ((scoresP m v).take (i + 1)) = cl ((scoresP m v).take i) ++ [[.i .i64 (dot m[i] v 0)]] := by
          rw [List.take_succ_eq_append_getElem (by simpa [scoresP] using hi)]
          simp [cl, scoresP]
        simp [f129l0e, il, gl, hi, hw, hd, hx, rowsOf, keysOfs, treesC, treesOf, treeOf, freezeAll, app, elsOf, over, hb, hlen]
        refine ⟨_, _, _, _, by rw [ht, h1], fun j hj hji => ?_, rfl⟩
        by_cases e : j = i
        · subst e; exact hx
        · exact h2 j hj (by omega)
      · have hno : matOk m v.length = false := by
          unfold matOk
          rw [List.all_eq_false]
          exact ⟨m[i], List.getElem_mem hi, by simpa using hx⟩
        simp [f129l0e, il, gl, hi, hw, hd, hx]
        exact .inr ⟨hno, _, _, _, rfl⟩
    · rintro s ⟨c, o, ck, els, h1, h2, rfl⟩
      have h3 : (scoresP m v).take m.length = scoresP m v := List.take_of_length_le (by simp [scoresP])
      rw [h3] at h1
      subst h1
      have hok : matOk m v.length = true := by
        unfold matOk
        rw [List.all_eq_true]
        intro l hl
        obtain ⟨j, hj, rfl⟩ := List.getElem_of_mem hl
        simpa using h2 j hj hj
      simp [f129l0e]
      exact .inl ⟨hok, _, _, _, rfl⟩
  have hq := hL 1 0 3
  rw [retT_r, runL_pf (fn := f129) rfl rfl]
  rcases hq with ⟨hok, c, o, ck, hc⟩ | ⟨hok, c, r, ck, hc⟩
  · simp [il, gl] at hc
    simp [il, gl, hc, hok, resOf, resOfs, resOf1, treeOf, cl, List.take_of_length_le, scoresP]
  · simp [il, gl] at hc
    simp [il, gl, hc, hok, resOf, resOfs, resOf1, treeOf]
def heldRow (l : List Int) : Bool := l.all fun n => decide (hold n = n)
def mrightP (m : List (List Int)) (r c : Int) : Bool := decide ((m.length : Int) = r) && m.all fun l => decide ((l.length : Int) = c) && heldRow l
theorem mr11_ret (n : Int) : RetT cfg 143 [iv n] (bv (hold n != n)) := by
  refine RetT.of ?_
  rw [runL_pf (fn := f143) rfl rfl]
  simp [hold_call]
theorem notheld_ret {g : Nat} (hm : cfg.hpm g = false) (ho : cfg.own g = false) (hg : ∀ n, RetT cfg g [iv n] (bv (hold n != n))) (l : List Int) (hl : l.length ≤ 1000000) : RetT cfg 75 [.t (il l), .fn g []] (bv (!heldRow l)) := by
  have e : (!heldRow l) = l.any fun n => hold n != n := by
    unfold heldRow
    rw [List.not_all_eq_any_not]
    congr 1
  rw [e]
  refine ctf_run (ix := 118) rfl rfl rfl rfl (fun _ => rfl) ?_
  refine ixf_run (ag := false) (sz := 1) (fun n : Int => [.i .i64 n]) _ iv rfl rfl (by simp) (by simp) hl ?_
  intro n _ s k hs
  exact ⟨s.ck, by rw [callEv_cl (C := cfg) (hg n) hm ho rfl s k (by simp [puresOf, pureOf]), hs]; rfl⟩
theorem mr1_ret (l : List Int) (c : Int) (hl : l.length ≤ 1000000) : RetT cfg 142 [.t (il l), .pr [.i .i64 c]] (bv (!(decide ((l.length : Int) = c) && heldRow l))) := by
  have h1 := fun s k => callEv_fn (C := cfg) (caps0 := []) (notheld_ret (g := 143) rfl rfl mr11_ret l hl) rfl rfl rfl s k rfl
  simp only [il, bv] at h1
  refine RetT.of ?_
  rw [runL_pf (fn := f142) rfl rfl]
  by_cases hc : (l.length : Int) = c
  · have hb : ((l.length : Int) != c) = false := by simp [hc]
    simp [il, h1, hb, hc]
  · have hb : ((l.length : Int) != c) = true := by simp [hc]
    simp [il, h1, hb, hc]
theorem mright_ret (m : List (List Int)) (r c : Int) (hl : m.length ≤ 1000000) (hr : ∀ l ∈ m, l.length ≤ 1000000) : RetT cfg 113 [.t (gl m), iv r, iv c] (bv (mrightP m r c)) := by
  have h1 : RetT cfg 73 [.t (gl m), .fn 142 [.pr [.i .i64 c]]] (bv (!(m.all fun l => decide ((l.length : Int) = c) && heldRow l))) := by
    rw [List.not_all_eq_any_not]
    refine ctf_run (ix := 117) rfl rfl rfl rfl (fun _ => rfl) ?_
    refine ixf_run (ag := false) (sz := 1) (fun l : List Int => [il l]) _ (fun l => .t (il l)) rfl rfl (by simp) (by simp) hl ?_
    intro l hlm s k hs
    exact ⟨s.ck, by rw [callEv_cl (C := cfg) (mr1_ret l c (hr l hlm)) rfl rfl rfl s k (by simp [puresOf, pureOf, capsOf, capOf]), hs]; rfl⟩
  have h2 := fun s k => callEv_fn (C := cfg) (caps0 := [.pt ⟨5, 0, 0⟩ 1 0 0]) h1 rfl rfl rfl s k
  simp only [gl, bv] at h2
  refine RetT.of ?_
  rw [runL_pf (fn := f113) rfl rfl]
  unfold mrightP
  by_cases hc : (m.length : Int) = r
  · simp [gl, h2, hc, capsOf, capOf, treesOf, treeOf]
  · have hb : ((m.length : Int) == r) = false := by simp [hc]
    simp [gl, h2, hc, hb, capsOf, capOf, treesOf, treeOf]
theorem mright_call (m : List (List Int)) (r c : Int) (hl : m.length ≤ 1000000) (hr : ∀ l ∈ m, l.length ≤ 1000000) (s : St) (k : Key) : callEv cfg (runL cfg) 113 [.t (.l (m.map fun r => [.l (r.map fun n => [.i .i64 n])])), .t (.i .i64 r), .t (.i .i64 c)] s k = some (.t (.b (mrightP m r c)), s.hp, s.ck) := callEv_tr (C := cfg) (mright_ret m r c hl hr) rfl rfl rfl s k
structure Exp where
  inn : List (List Int)
  out : List (List Int)
def exT (x : Exp) : List T := [gl x.inn, gl x.out]
def exV (x : Exp) : V := .ag [.t (gl x.inn), .t (gl x.out)]
def Few (m : List (List Int)) : Prop := m.length ≤ 1000000 ∧ ∀ l ∈ m, l.length ≤ 1000000
def exRight (x : Exp) (dim : Int) : Bool := decide (1 ≤ dim) && decide (dim ≤ 8) && decide (1 ≤ x.inn.length) && decide (x.inn.length ≤ 8) && mrightP x.inn x.inn.length dim && mrightP x.out dim x.inn.length
theorem eright_ret (x : Exp) (dim : Int) (h1 : Few x.inn) (h2 : Few x.out) : RetT cfg 116 [exV x, iv dim] (bv (exRight x dim)) := by
  have hA := fun s k => mright_call x.inn x.inn.length dim h1.1 h1.2 s k
  have hB := fun s k => mright_call x.out dim x.inn.length h2.1 h2.2 s k
  refine RetT.of ?_
  rw [runL_pf (fn := f116) rfl rfl]
  unfold exRight exV
  by_cases c1 : 1 ≤ dim
  case neg => simp [gl, c1]
  by_cases c2 : dim ≤ 8
  case neg => simp [gl, c1, c2]
  by_cases c3 : 1 ≤ x.inn.length
  case neg =>
    have c3' : ¬ (1 : Int) ≤ x.inn.length := by omega
    simp [gl, c1, c2, c3, c3']
  have c3' : (1 : Int) ≤ x.inn.length := by omega
  by_cases c4 : x.inn.length ≤ 8
  case neg =>
    have c4' : ¬ (x.inn.length : Int) ≤ 8 := by omega
    simp [gl, c1, c2, c3, c3', c4, c4']
  have c4' : (x.inn.length : Int) ≤ 8 := by omega
  by_cases c5 : mrightP x.inn x.inn.length dim = true
  · simp [gl, c1, c2, c3, c3', c4, c4', c5, hA, hB]
  · simp [gl, c1, c2, c3, c3', c4, c4', c5, hA, hB]
theorem mrightP_ok {m : List (List Int)} {r c : Int} (h : mrightP m r c = true) : (m.length : Int) = r ∧ (∀ l ∈ m, (l.length : Int) = c) ∧ ∀ l ∈ m, heldRow l = true := by
  simp only [mrightP, Bool.and_eq_true, decide_eq_true_eq, List.all_eq_true] at h
  exact ⟨h.1, fun l hl => (h.2 l hl).1, fun l hl => (h.2 l hl).2⟩
theorem matOk_of {m : List (List Int)} {n : Nat} (h : ∀ l ∈ m, l.length = n) : matOk m n = true := by
  unfold matOk
  rw [List.all_eq_true]
  intro l hl
  simpa using h l hl
def runP (x : Exp) (v : List Int) : List Int := scoresP x.out (reluR (scoresP x.inn v))
theorem run_ret (x : Exp) (v : List Int) (h1 : Few x.inn) (h2 : Few x.out) : RetT cfg 94 [exV x, .t (il v)] (.tu [.t (il (if exRight x v.length then runP x v else [])), bv (exRight x v.length)]) := by
  have hr := fun s k => callEv_tr (C := cfg) (eright_ret x v.length h1 h2) rfl rfl rfl s k
  have hA := fun s k => callEv_tr (C := cfg) (apply_ret x.inn v h1.1 h1.2) rfl rfl rfl s k
  rw [retT_r, runL_pf (fn := f94) rfl rfl]
  by_cases hx : exRight x v.length = true
  · have hx2 := hx
    simp only [exRight, Bool.and_eq_true, decide_eq_true_eq] at hx2
    obtain ⟨⟨⟨_, c4⟩, c5⟩, c6⟩ := hx2
    have ok1 : matOk x.inn v.length = true := matOk_of fun l hl => by have := (mrightP_ok c5).2.1 l hl; omega
    have hsl : (reluR (scoresP x.inn v)).length = x.inn.length := by simp [reluR, scoresP]
    have ok2 : matOk x.out (reluR (scoresP x.inn v)).length = true := matOk_of fun l hl => by have := (mrightP_ok c6).2.1 l hl; omega
    have hR := fun hp => callQ_tr (C := cfg) (relu_ret (scoresP x.inn v) (by simp [scoresP]; omega)) rfl hp
    have hB := fun hp => callQ_tr (C := cfg) (apply_ret x.out (reluR (scoresP x.inn v)) h2.1 h2.2) rfl hp
    rw [ok1] at hA
    rw [ok2] at hB
    rw [hx] at hr ⊢
    rw [if_pos rfl]
    unfold runP
    generalize reluR (scoresP x.inn v) = u at *
    simp only [exV, gl, il, iv, bv, if_true] at hr hA hR hB
    simp [exV, gl, il, hr, hA, hR, hB, resOf, resOfs, resOf1]
  · have hx' : exRight x v.length = false := by simpa using hx
    rw [hx'] at hr ⊢
    simp only [exV, gl, il, iv, bv] at hr
    simp [exV, gl, il, hr, resOf, resOfs, resOf1, treeOf]
theorem bes_drop {v : List Int} {but : Int} {i : Nat} (hi : i < v.length) (best : Int) : bes v but (v.drop i) i best = bes v but (v.drop (i + 1)) (i + 1) (if (i : Int) ≠ but ∧ (best < 0 ∨ v.getD best.toNat 0 < v[i]) then i else best) := by
  rw [List.drop_eq_getElem_cons hi]; rfl
def besI (v : List Int) (but : Int) (i : Nat) (s : St) : Prop := ∃ (best : Int) (ck : Nat), (best = -1 ∨ 0 ≤ best ∧ best < v.length) ∧ bes v but (v.drop i) i best = bes v but v 0 (-1) ∧ s = ⟨[(0, .t (il v)), (1, iv but), (5, iv best), (8, .t (il v)), (9, iv v.length), (10, iv (i : Int))], [], ck⟩
theorem beside_ret (v : List Int) (but : Int) (hl : v.length ≤ 1000000) : RetT cfg 178 [.t (il v), iv but] (iv (bes v but v 0 (-1))) := by
  have hL : ∀ ck, ∃ c, evL cfg (.loop f178l0) ⟨[(0, .t (il v)), (1, iv but), (5, iv (-1)), (8, .t (il v)), (9, iv v.length), (10, iv 0)], [], ck⟩ = some (.exit 0, ⟨[(0, .t (il v)), (1, iv but), (5, iv (bes v but v 0 (-1))), (8, .t (il v)), (9, iv v.length), (10, iv v.length), (11, bv false)], [], c⟩) := by
    intro ck
    refine loop_q (Q := fun E => ∃ c, E = some (.exit 0, ⟨[(0, .t (il v)), (1, iv but), (5, iv (bes v but v 0 (-1))), (8, .t (il v)), (9, iv v.length), (10, iv v.length), (11, bv false)], [], c⟩)) v.length (besI v but) ?_ ?_ _ ⟨-1, ck, .inl rfl, rfl, rfl⟩
    · rintro i s hi ⟨best, ck, h0, h1, rfl⟩
      have hw : IntKind.i64.wrap ((i : Int) + 1) = (i : Int) + 1 := wrap_id (by omega) (by omega)
      rw [bes_drop hi] at h1
      by_cases e : (i : Int) = but
      · rw [if_neg (fun q => q.1 e)] at h1
        have hb : ((i : Int) != but) = false := by simp [e]
        simp [f178l0e, il, hi, hw, hb]
        exact ⟨_, _, h0, h1, rfl⟩
      · have hb : ((i : Int) != but) = true := by simp [e]
        by_cases hn : best < 0
        · rw [if_pos ⟨e, .inl hn⟩] at h1
          simp [f178l0e, il, hi, hw, hb, hn]
          exact ⟨_, _, .inr ⟨by omega, by omega⟩, h1, rfl⟩
        · have h2 : 0 ≤ best ∧ best < v.length := by rcases h0 with h | h <;> omega
          obtain ⟨b, rfl⟩ : ∃ b : Nat, best = b := ⟨best.toNat, by omega⟩
          have hbl : b < v.length := by omega
          have hg : v.getD b 0 = v[b] := by simp [List.getD_eq_getElem?_getD, hbl]
          simp only [Int.toNat_natCast, hg] at h1
          by_cases hx : v[b] < v[i]
          · rw [if_pos ⟨e, .inr hx⟩] at h1
            simp [f178l0e, il, hi, hw, hb, hn, hbl, hx]
            exact ⟨_, _, .inr ⟨by omega, by omega⟩, h1, rfl⟩
          · rw [if_neg (by rintro ⟨_, h | h⟩; · omega
                           · exact hx h)] at h1
            simp [f178l0e, il, hi, hw, hb, hn, hbl, hx]
            exact ⟨_, _, .inr ⟨by omega, by omega⟩, h1, rfl⟩
    · rintro s ⟨best, ck, h0, h1, rfl⟩
      simp [bes] at h1
      subst h1
      simp [f178l0e]
  obtain ⟨c, hc⟩ := hL 3
  simp [il] at hc
  refine RetT.of ?_
  rw [runL_pf (fn := f178) rfl rfl]
  simp [il, hc]
theorem two_ret (v : List Int) (hl : v.length ≤ 1000000) : RetT cfg 145 [.t (il v)] (.tu [iv (twoP v).1, iv (twoP v).2]) := by
  have hb := fun but s k => callEv_tr (C := cfg) (beside_ret v but hl) rfl rfl rfl s k
  simp only [il, iv] at hb
  have hB : RetT cfg 177 [.t (il v)] (iv (bes v (-1) v 0 (-1))) := by
    refine RetT.of ?_
    rw [runL_pf (fn := f177) rfl rfl]
    simp [il, hb]
  have h2 := fun s k => callEv_tr (C := cfg) hB rfl rfl rfl s k
  simp only [il, iv] at h2
  rw [retT_r, runL_pf (fn := f145) rfl rfl]
  simp [il, hb, h2, twoP, resOf, resOfs, resOf1]
theorem partP_mm (n : Int) : (if hold n < 0 then 0 else hold n) + 1 = partP n := by unfold partP; split <;> omega
theorem share_mul (a b : Int) : 0 ≤ shareP a b ∧ shareP a b ≤ 65536 := by
  have h1 := partP_in a
  have h2 := partP_in b
  unfold shareP
  rw [Int.tdiv_eq_ediv_of_nonneg (by omega)]
  refine ⟨Int.ediv_nonneg (by omega) (by omega), ?_⟩
  have : partP a * 65536 / (partP a + partP b) ≤ (partP a + partP b) * 65536 / (partP a + partP b) := Int.ediv_le_ediv (by omega) (by omega)
  rw [Int.mul_ediv_cancel_left _ (by omega)] at this
  exact this
theorem shares_ret (a b : Int) : RetT cfg 146 [iv a, iv b] (.tu [iv (shareP a b), iv (65536 - shareP a b)]) := by
  have h1 := partP_in a
  have h2 := partP_in b
  have h3 := share_mul a b
  have w1 : IntKind.i64.wrap ((if hold a < 0 then 0 else hold a) + 1) = partP a := by rw [partP_mm]; exact wrap_id (by omega) (by omega)
  have w2 : IntKind.i64.wrap ((if hold b < 0 then 0 else hold b) + 1) = partP b := by rw [partP_mm]; exact wrap_id (by omega) (by omega)
  have w3 : IntKind.i64.wrap (partP a * 65536) = partP a * 65536 := wrap_id (by omega) (by omega)
  have w4 : IntKind.i64.wrap (partP a + partP b) = partP a + partP b := wrap_id (by omega) (by omega)
  have w5 : IntKind.i64.wrap (shareP a b) = shareP a b := wrap_id (by omega) (by omega)
  have w6 : IntKind.i64.wrap (65536 - shareP a b) = 65536 - shareP a b := wrap_id (by omega) (by omega)
  have hne : ¬ partP a + partP b = 0 := by omega
  have hs : (partP a * 65536).tdiv (partP a + partP b) = shareP a b := rfl
  rw [retT_r, runL_pf (fn := f146) rfl rfl]
  simp [hold_call, minmax, w1, w2, w3, w4, hne, hs, w5, w6, resOf, resOfs, resOf1]
structure Cho where
  first : Int
  second : Int
  w1 : Int
  w2 : Int
  deriving DecidableEq
def choP (rows : List (List Int)) (v : List Int) : Cho :=
  if matOk rows v.length = false ∨ rows = [] then ⟨0, 0, 0, 0⟩
  else if 0 ≤ (twoP (scoresP rows v)).2 then ⟨(twoP (scoresP rows v)).1, (twoP (scoresP rows v)).2, shareP ((scoresP rows v).getD (twoP (scoresP rows v)).1.toNat 0) ((scoresP rows v).getD (twoP (scoresP rows v)).2.toNat 0), 65536 - shareP ((scoresP rows v).getD (twoP (scoresP rows v)).1.toNat 0) ((scoresP rows v).getD (twoP (scoresP rows v)).2.toNat 0)⟩
  else ⟨(twoP (scoresP rows v)).1, (twoP (scoresP rows v)).2, 65536, 0⟩
def choOk (rows : List (List Int)) (v : List Int) : Bool := matOk rows v.length && !rows.isEmpty
def choC (c : Cho) : List V := [iv c.first, iv c.second, iv c.w1, iv c.w2]
theorem bes_in (v : List Int) (but : Int) : bes v but v 0 (-1) = -1 ∨ 0 ≤ bes v but v 0 (-1) ∧ bes v but v 0 (-1) < v.length := by
  have h := bes_top v but v 0 (-1) rfl (by omega) (.inl ⟨rfl, fun i hi => by omega⟩)
  rcases h with ⟨h, _⟩ | ⟨h1, h2, _⟩
  · exact .inl h
  · exact .inr ⟨h1, h2⟩
theorem bes_some {v : List Int} (hv : v ≠ []) : 0 ≤ bes v (-1) v 0 (-1) := by
  have h := bes_top v (-1) v 0 (-1) rfl (by omega) (.inl ⟨rfl, fun i hi => by omega⟩)
  have hl := List.length_pos_iff.2 hv
  rcases h with ⟨_, h⟩ | ⟨h1, h2, _⟩
  · have := h 0 hl; omega
  · exact h1
theorem two_in {v : List Int} (hv : v ≠ []) : (0 ≤ (twoP v).1 ∧ (twoP v).1 < v.length) ∧ ((twoP v).2 = -1 ∨ 0 ≤ (twoP v).2 ∧ (twoP v).2 < v.length) := by
  have h1 := bes_some hv
  have h2 := bes_in v (-1)
  refine ⟨⟨h1, ?_⟩, bes_in v _⟩
  show bes v (-1) v 0 (-1) < v.length
  omega
theorem choose_ret (rows : List (List Int)) (v : List Int) (hr : Few rows) : RetT cfg 119 [.t (gl rows), .t (il v)] (.tu [.ag (choC (choP rows v)), bv (choOk rows v)]) := by
  have hA := fun s k => callEv_tr (C := cfg) (apply_ret rows v hr.1 hr.2) rfl rfl rfl s k
  rw [retT_r, runL_pf (fn := f119) rfl rfl]
  by_cases hok : matOk rows v.length = true
  case neg =>
    have hok' : matOk rows v.length = false := by simpa using hok
    rw [hok'] at hA
    have e : choP rows v = ⟨0, 0, 0, 0⟩ := by unfold choP; rw [if_pos (.inl hok')]
    simp only [gl, il, bv] at hA
    simp [gl, il, hA, e, choOk, hok', choC, over, buildV, resOf, resOfs, resOf1, treesOf, treeOf]
  rw [hok] at hA
  by_cases hn : rows = []
  · subst hn
    have e : choP [] v = ⟨0, 0, 0, 0⟩ := by unfold choP; rw [if_pos (.inr rfl)]
    simp only [gl, il, bv] at hA
    simp [gl, il] at hA
    simp [gl, il, hA, e, choOk, hok, choC, over, buildV, resOf, resOfs, resOf1, treesOf, treeOf]
  have hl0 : ¬ rows.length = 0 := fun e => hn (List.length_eq_zero_iff.1 e)
  have hb0 : ((rows.length : Int) == 0) = false := by simp [hn]
  have hie : rows.isEmpty = false := by cases rows with
    | nil => exact absurd rfl hn
    | cons _ _ => rfl
  have hlen : (scoresP rows v).length = rows.length := by simp [scoresP]
  have hsn : scoresP rows v ≠ [] := fun e => hl0 (by rw [← hlen, e]; rfl)
  have hT := fun s k => callEv_tr (C := cfg) (two_ret (scoresP rows v) (by rw [hlen]; exact hr.1)) rfl rfl rfl s k
  have p1 := (two_in hsn).1
  have p3 := (two_in hsn).2
  have e : choP rows v = if 0 ≤ (twoP (scoresP rows v)).2 then ⟨(twoP (scoresP rows v)).1, (twoP (scoresP rows v)).2, shareP ((scoresP rows v).getD (twoP (scoresP rows v)).1.toNat 0) ((scoresP rows v).getD (twoP (scoresP rows v)).2.toNat 0), 65536 - shareP ((scoresP rows v).getD (twoP (scoresP rows v)).1.toNat 0) ((scoresP rows v).getD (twoP (scoresP rows v)).2.toNat 0)⟩ else ⟨(twoP (scoresP rows v)).1, (twoP (scoresP rows v)).2, 65536, 0⟩ := by
    unfold choP; rw [if_neg (by rw [hok]; simp [hn])]
  rw [e]
  clear e
  generalize scoresP rows v = sc at hT hA p1 p3 hlen hsn ⊢
  obtain ⟨a, b, hab⟩ : ∃ a b, twoP sc = (a, b) := ⟨_, _, rfl⟩
  rw [hab] at hT p1 p3 ⊢
  simp only at hT p1 p3 ⊢
  obtain ⟨x, rfl⟩ : ∃ x : Nat, a = x := ⟨a.toNat, by omega⟩
  have hx : x < sc.length := by omega
  have gx : sc.getD x 0 = sc[x] := by simp [List.getD_eq_getElem?_getD, hx]
  by_cases hb : 0 ≤ b
  · obtain ⟨y, rfl⟩ : ∃ y : Nat, b = y := ⟨b.toNat, by omega⟩
    have hy : y < sc.length := by omega
    have gy : sc.getD y 0 = sc[y] := by simp [List.getD_eq_getElem?_getD, hy]
    have hS := fun hp => callQ_tr (C := cfg) (shares_ret sc[x] sc[y]) rfl hp
    rw [if_pos hb]
    simp only [Int.toNat_natCast, gx, gy]
    simp only [gl, il, iv, bv, if_true] at hA hT hS
    simp [gl, il, hA, hT, hS, hb0, hie, hok, hb, hx, hy, choOk, choC, over, buildV, resOf, resOfs, resOf1, treesOf, treeOf]
  · rw [if_neg hb]
    simp only [gl, il, iv, bv, if_true] at hA hT
    simp [gl, il, hA, hT, hb0, hie, hok, hb, hx, choOk, choC, over, buildV, resOf, resOfs, resOf1, treesOf, treeOf]
structure Lay where
  gate : List (List Int)
  exps : List Exp
  cap : Int
def layT (l : Lay) : List T := [gl l.gate, .l (l.exps.map exT), .i .i64 l.cap]
def layV (l : Lay) : V := .ag [.t (gl l.gate), .t (.l (l.exps.map exT)), iv l.cap]
structure Mod where
  dim : Int
  lays : List Lay
def laysT (m : Mod) : T := .l (m.lays.map layT)
def modV (m : Mod) : V := .ag [iv m.dim, .t (laysT m)]
def FewX (x : Exp) : Prop := Few x.inn ∧ Few x.out
def FewL (l : Lay) : Prop := Few l.gate ∧ l.exps.length ≤ 1000000 ∧ ∀ x ∈ l.exps, FewX x
def FewM (m : Mod) : Prop := m.lays.length ≤ 1000000 ∧ ∀ l ∈ m.lays, FewL l
def layRight (l : Lay) (dim : Int) : Bool := decide (1 ≤ l.exps.length) && decide (l.exps.length ≤ 8) && mrightP l.gate l.exps.length dim && decide (1 ≤ l.cap) && decide (l.cap ≤ 32) && l.exps.all fun x => exRight x dim
def modRight (m : Mod) : Bool := decide (1 ≤ m.dim) && decide (m.dim ≤ 8) && decide (1 ≤ m.lays.length) && decide (m.lays.length ≤ 4) && m.lays.all fun l => layRight l m.dim
def tokRight (m : Mod) (ts : List (List Int)) : Bool := decide (1 ≤ ts.length) && decide (ts.length ≤ 16) && ts.all fun v => decide ((v.length : Int) = m.dim) && heldRow v
theorem layer1_ret (x : Exp) (dim : Int) (h : FewX x) : RetT cfg 115 [exV x, .pr [.i .i64 dim]] (bv (!exRight x dim)) := by
  have h1 := fun s k => callEv_tr (C := cfg) (eright_ret x dim h.1 h.2) rfl rfl rfl s k
  simp only [exV, iv, bv] at h1
  refine RetT.of ?_
  rw [runL_pf (fn := f115) rfl rfl]
  simp [exV, h1]
theorem layer_ret (l : Lay) (dim : Int) (h : FewL l) : RetT cfg 72 [layV l, iv dim] (bv (layRight l dim)) := by
  have hA := fun s k => mright_call l.gate l.exps.length dim h.1.1 h.1.2 s k
  have h1 : RetT cfg 114 [.t (.l (l.exps.map exT)), .fn 115 [.pr [.i .i64 dim]]] (bv (!(l.exps.all fun x => exRight x dim))) := by
    rw [List.not_all_eq_any_not]
    refine ctf_run (ix := 144) rfl rfl rfl rfl (fun _ => rfl) ?_
    refine ixf_run (ag := true) (sz := 2) exT _ exV rfl rfl (by simp [exT]) (by simp [exT, exV]) h.2.1 ?_
    intro x hx s k hs
    exact ⟨s.ck, by rw [callEv_cl (C := cfg) (layer1_ret x dim (h.2.2 x hx)) rfl rfl rfl s k (by simp [puresOf, pureOf, exV, treesOf, treeOf]), hs]; rfl⟩
  have h2 := fun s k => callEv_fn (C := cfg) (caps0 := [.pt ⟨3, 0, 1⟩ 1 0 0]) h1 rfl rfl rfl s k
  simp only [bv] at h2
  refine RetT.of ?_
  rw [runL_pf (fn := f72) rfl rfl]
  unfold layRight layV
  by_cases c1 : 1 ≤ l.exps.length
  case neg =>
    have c1' : ¬ (1 : Int) ≤ l.exps.length := by omega
    simp [gl, c1, c1']
  have c1' : (1 : Int) ≤ l.exps.length := by omega
  by_cases c2 : l.exps.length ≤ 8
  case neg =>
    have c2' : ¬ (l.exps.length : Int) ≤ 8 := by omega
    simp [gl, c1, c1', c2, c2']
  have c2' : (l.exps.length : Int) ≤ 8 := by omega
  by_cases c3 : mrightP l.gate l.exps.length dim = true
  case neg => simp [gl, c1, c1', c2, c2', c3, hA]
  by_cases c4 : 1 ≤ l.cap
  case neg => simp [gl, c1, c1', c2, c2', c3, hA, c4]
  by_cases c5 : l.cap ≤ 32
  case neg => simp [gl, c1, c1', c2, c2', c3, hA, c4, c5]
  generalize (l.exps.all fun x => exRight x dim) = b at *
  simp [gl, c1, c1', c2, c2', c3, hA, c4, c5, h2, capsOf, capOf, treesOf, treeOf]
theorem right1_ret (l : Lay) (m : Mod) (h : FewL l) : RetT cfg 71 [layV l, .pr [.i .i64 m.dim, laysT m]] (bv (!layRight l m.dim)) := by
  have h1 := fun s k => callEv_tr (C := cfg) (layer_ret l m.dim h) rfl rfl rfl s k
  simp only [layV, gl, iv, bv] at h1
  refine RetT.of ?_
  rw [runL_pf (fn := f71) rfl rfl]
  simp [layV, gl, h1]
theorem mod_ret (m : Mod) (h : FewM m) : RetT cfg 39 [modV m] (bv (modRight m)) := by
  have h1 : RetT cfg 42 [.t (laysT m), .fn 71 [.pr [.i .i64 m.dim, laysT m]]] (bv (!(m.lays.all fun l => layRight l m.dim))) := by
    rw [List.not_all_eq_any_not]
    refine ctf_run (ix := 78) rfl rfl rfl rfl (fun _ => rfl) ?_
    refine ixf_run (ag := true) (sz := 3) layT _ layV rfl rfl (by simp [layT]) (by simp [layT, layV]) h.1 ?_
    intro l hl s k hs
    exact ⟨s.ck, by rw [callEv_cl (C := cfg) (right1_ret l m (h.2 l hl)) rfl rfl rfl s k (by simp [puresOf, pureOf, layV, treesOf, treeOf]), hs]; rfl⟩
  have h2 := fun s k => callEv_fn (C := cfg) (caps0 := [.pt ⟨1, 0, 0⟩ 2 0 0]) h1 rfl rfl rfl s k
  simp only [bv, laysT] at h2
  refine RetT.of ?_
  rw [runL_pf (fn := f39) rfl rfl]
  unfold modRight modV laysT
  by_cases c1 : 1 ≤ m.dim
  case neg => simp [c1]
  by_cases c2 : m.dim ≤ 8
  case neg => simp [c1, c2]
  by_cases c3 : 1 ≤ m.lays.length
  case neg =>
    have c3' : ¬ (1 : Int) ≤ m.lays.length := by omega
    simp [c1, c2, c3, c3']
  have c3' : (1 : Int) ≤ m.lays.length := by omega
  by_cases c4 : m.lays.length ≤ 4
  case neg =>
    have c4' : ¬ (m.lays.length : Int) ≤ 4 := by omega
    simp [c1, c2, c3, c3', c4, c4']
  have c4' : (m.lays.length : Int) ≤ 4 := by omega
  generalize (m.lays.all fun l => layRight l m.dim) = b at *
  simp [c1, c2, c3, c3', c4, c4', h2, capsOf, capOf, treesOf, treeOf]
theorem tok11_ret (n : Int) : RetT cfg 76 [iv n] (bv (hold n != n)) := by
  refine RetT.of ?_
  rw [runL_pf (fn := f76) rfl rfl]
  simp [hold_call]
theorem tok1_ret (v : List Int) (d : Int) (x : T) (hl : v.length ≤ 1000000) : RetT cfg 74 [.t (il v), .pr [.i .i64 d, x]] (bv (!(decide ((v.length : Int) = d) && heldRow v))) := by
  have h1 := fun s k => callEv_fn (C := cfg) (caps0 := []) (notheld_ret (g := 76) rfl rfl tok11_ret v hl) rfl rfl rfl s k rfl
  simp only [il, bv] at h1
  refine RetT.of ?_
  rw [runL_pf (fn := f74) rfl rfl]
  by_cases hc : (v.length : Int) = d
  · have hb : ((v.length : Int) != d) = false := by simp [hc]
    simp [il, h1, hb, hc]
  · have hb : ((v.length : Int) != d) = true := by simp [hc]
    simp [il, h1, hb, hc]
theorem tok_ret (m : Mod) (ts : List (List Int)) (hl : Few ts) : RetT cfg 40 [modV m, .t (gl ts)] (bv (tokRight m ts)) := by
  have h1 : RetT cfg 73 [.t (gl ts), .fn 74 [.pr [.i .i64 m.dim, laysT m]]] (bv (!(ts.all fun v => decide ((v.length : Int) = m.dim) && heldRow v))) := by
    rw [List.not_all_eq_any_not]
    refine ctf_run (ix := 117) rfl rfl rfl rfl (fun _ => rfl) ?_
    refine ixf_run (ag := false) (sz := 1) (fun l : List Int => [il l]) _ (fun l => .t (il l)) rfl rfl (by simp) (by simp) hl.1 ?_
    intro l hlm s k hs
    exact ⟨s.ck, by rw [callEv_cl (C := cfg) (tok1_ret l m.dim (laysT m) (hl.2 l hlm)) rfl rfl rfl s k (by simp [puresOf, pureOf, capsOf, capOf]), hs]; rfl⟩
  have h2 := fun s k => callEv_fn (C := cfg) (caps0 := [.pt ⟨2, 0, 0⟩ 2 0 0]) h1 rfl rfl rfl s k
  simp only [bv, gl, laysT] at h2
  refine RetT.of ?_
  rw [runL_pf (fn := f40) rfl rfl]
  unfold tokRight modV laysT
  by_cases c3 : 1 ≤ ts.length
  case neg =>
    have c3' : ¬ (1 : Int) ≤ ts.length := by omega
    simp [gl, c3, c3']
  have c3' : (1 : Int) ≤ ts.length := by omega
  by_cases c4 : ts.length ≤ 16
  case neg =>
    have c4' : ¬ (ts.length : Int) ≤ 16 := by omega
    simp [gl, c3, c3', c4, c4']
  have c4' : (ts.length : Int) ≤ 16 := by omega
  generalize (ts.all fun v => decide ((v.length : Int) = m.dim) && heldRow v) = b at *
  simp [gl, c3, c3', c4, c4', h2, capsOf, capOf, treesOf, treeOf]
theorem all_upto {α : Type} {p : α → Bool} {l : List α} (h : ∀ (j : Nat) (hj : j < l.length), j < l.length → p l[j] = true) : l.all p = true := by
  rw [List.all_eq_true]
  intro x hx
  obtain ⟨j, hj, rfl⟩ := List.getElem_of_mem hx
  exact h j hj hj
theorem all_not {α : Type} {p : α → Bool} {l : List α} {i : Nat} (hi : i < l.length) (h : p l[i] = false) : l.all p = false := by
  rw [List.all_eq_false]
  exact ⟨l[i], List.getElem_mem hi, by simp [h]⟩
def Upto {α : Type} (p : α → Bool) (l : List α) (i : Nat) : Prop := ∀ (j : Nat) (hj : j < l.length), j < i → p l[j] = true
theorem upto0 {α : Type} (p : α → Bool) (l : List α) : Upto p l 0 := fun _ _ h => absurd h (Nat.not_lt_zero _)
theorem upto_s {α : Type} {p : α → Bool} {l : List α} {i : Nat} (h : Upto p l i) (hi : i < l.length) (hp : p l[i] = true) : Upto p l (i + 1) := fun j hj hji => by
  by_cases e : j = i
  · subst e; exact hp
  · exact h j hj (by omega)
theorem upto_all {α : Type} {p : α → Bool} {l : List α} (h : Upto p l l.length) : l.all p = true := all_upto h
def fourI (n : Int) : List UInt8 := fourN (n % 4294967296).toNat
theorem shr_I (n : Int) (i : Nat) (hi : i ≤ 64) : bin .shr (.t (.i .i64 n)) (.t (.i .u64 (i : Int))) = some (.t (.i .i64 (n / 2 ^ i))) := by
  rw [bin_shr]
  show (if (i : Int) < 0 then none else some (V.t (.i .i64 (Int.fdiv n (2 ^ (min (i : Int).toNat 64)))))) = _
  rw [if_neg (by omega), Int.toNat_natCast, Nat.min_eq_left hi, Int.fdiv_eq_ediv_of_nonneg _ (Int.pow_nonneg (by decide))]
theorem wfour_ret (n : Int) : RetT cfg 125 [iv n] (.t (.s (fourI n))) := by
  refine RetT.of ?_
  rw [runL_pf (fn := f125) rfl rfl]
  have s1 := shr_I n 8 (by omega)
  have s2 := shr_I n 16 (by omega)
  have s3 := shr_I n 24 (by omega)
  have w0 : IntKind.u8.wrap n = (((n % 4294967296).toNat % 256 : Nat) : Int) := by rw [IntKind.wrap_u8]; omega
  have w1 : IntKind.u8.wrap (n / 2 ^ 8) = (((n % 4294967296).toNat / 256 % 256 : Nat) : Int) := by rw [IntKind.wrap_u8]; omega
  have w2 : IntKind.u8.wrap (n / 2 ^ 16) = (((n % 4294967296).toNat / 65536 % 256 : Nat) : Int) := by rw [IntKind.wrap_u8]; omega
  have w3 : IntKind.u8.wrap (n / 2 ^ 24) = (((n % 4294967296).toNat / 16777216 % 256 : Nat) : Int) := by rw [IntKind.wrap_u8]; omega
  unfold fourI fourN
  generalize (n % 4294967296).toNat / 256 % 256 = b1 at *
  generalize (n % 4294967296).toNat / 65536 % 256 = b2 at *
  generalize (n % 4294967296).toNat / 16777216 % 256 = b3 at *
  generalize (n % 4294967296).toNat % 256 = b0 at *
  generalize n / 2 ^ 8 = a1 at *
  generalize n / 2 ^ 16 = a2 at *
  generalize n / 2 ^ 24 = a3 at *
  have e8 : ((8 : Nat) : Int) = 8 := rfl
  have e16 : ((16 : Nat) : Int) = 16 := rfl
  have e24 : ((24 : Nat) : Int) = 24 := rfl
  rw [e8] at s1
  rw [e16] at s2
  rw [e24] at s3
  simp [s1, s2, s3, w0, w1, w2, w3, -bin_shr, rowsOf, keysOfs, treesC, treesOf, treeOf, freezeAll, elsOf, u8s]
theorem wfour_call (n : Int) (s : St) (k : Key) : callEv cfg (runL cfg) 125 [.t (.i .i64 n)] s k = some (.t (.s (fourI n)), s.hp, s.ck) := callEv_tr (C := cfg) (wfour_ret n) rfl rfl rfl s k
theorem fourI_len (n : Int) : (fourI n).length = 4 := rfl
def numB (s : List UInt8) (i : Nat) : Nat := fourD (s.getD (4 * i) 0) (s.getD (4 * i + 1) 0) (s.getD (4 * i + 2) 0) (s.getD (4 * i + 3) 0)
theorem numB_lt (s : List UInt8) (i : Nat) : numB s i < 4294967296 := by
  unfold numB fourD
  have := (s.getD (4 * i) 0).toNat_lt
  have := (s.getD (4 * i + 1) 0).toNat_lt
  have := (s.getD (4 * i + 2) 0).toNat_lt
  have := (s.getD (4 * i + 3) 0).toNat_lt
  omega
theorem or_b {a b m : Nat} (hm : m = b * 2 ^ 8) (ha : a < 256) (h : a + m < 9223372036854775808) : bin .or (.t (.i .i64 (m : Int))) (.t (.i .i64 (a : Int))) = some (.t (.i .i64 ((a + m : Nat) : Int))) := by
  subst hm
  rw [bin_or]
  show some (V.t (.i .i64 (IntKind.i64.wrap ((BitVec.ofInt 64 ((b * 2 ^ 8 : Nat) : Int) ||| BitVec.ofInt 64 (a : Int)).toNat : Int)))) = _
  have e : (BitVec.ofInt 64 ((b * 2 ^ 8 : Nat) : Int) ||| BitVec.ofInt 64 (a : Int)).toNat = a + b * 2 ^ 8 := by
    rw [show BitVec.ofInt 64 (a : Int) = BitVec.ofNat 64 a from BitVec.ofInt_natCast 64 a, show BitVec.ofInt 64 ((b * 2 ^ 8 : Nat) : Int) = BitVec.ofNat 64 (b * 2 ^ 8) from BitVec.ofInt_natCast 64 _, BitVec.toNat_or, BitVec.toNat_ofNat, BitVec.toNat_ofNat, Nat.mod_eq_of_lt (by omega), Nat.mod_eq_of_lt (by omega)]
    have := Nat.shiftLeft_add_eq_or_of_lt (show a < 2 ^ 8 by omega) b
    rw [Nat.shiftLeft_eq] at this
    rw [← this, Nat.add_comm]
  rw [e, wrap_id (by omega) (by omega)]
theorem shl_I (n i : Nat) (hi : i ≤ 64) (h : n * 2 ^ i < 9223372036854775808) : bin .shl (.t (.i .i64 (n : Int))) (.t (.i .u64 (i : Int))) = some (.t (.i .i64 ((n * 2 ^ i : Nat) : Int))) := by
  rw [bin_shl]
  show (if (i : Int) < 0 then none else some (V.t (.i .i64 (IntKind.i64.wrap ((n : Int) * 2 ^ (min (i : Int).toNat 64)))))) = _
  rw [if_neg (by omega), Int.toNat_natCast, Nat.min_eq_left hi]
  have e : (n : Int) * 2 ^ i = ((n * 2 ^ i : Nat) : Int) := by rw [Int.natCast_mul, Int.natCast_pow]; rfl
  rw [e, wrap_id (by omega) (by omega)]
theorem p28 (n : Nat) : n * 2 ^ 8 = n * 256 := rfl
theorem shl_b (n : Nat) (h : n * 256 < 9223372036854775808) : bin .shl (.t (.i .i64 (n : Int))) (.t (.i .u64 8)) = some (.t (.i .i64 ((n * 256 : Nat) : Int))) := by
  have := shl_I n 8 (by decide) (by rw [p28]; exact h)
  rw [p28] at this
  have e8 : ((8 : Nat) : Int) = 8 := rfl
  rw [e8] at this
  exact this
theorem or_c {a b m : Nat} (hm : m = b * 256) (ha : a < 256) (h : a + m < 9223372036854775808) : bin .or (.t (.i .i64 (m : Int))) (.t (.i .i64 (a : Int))) = some (.t (.i .i64 ((a + m : Nat) : Int))) := or_b (b := b) (by rw [p28]; exact hm) ha h
theorem num_step (s : List UInt8) (i k n ck : Nat) (hk : k < 4) (hi : 4 * i + 3 < s.length) (hl : s.length ≤ 100000) (hn : n * 256 + 256 < 9223372036854775808) : evL cfg f85l0 ⟨[(0, .t (.s s)), (1, iv i), (5, iv n), (6, iv k)], [], ck⟩ = some (.normal, ⟨[(0, .t (.s s)), (1, iv i), (5, iv ((s.getD (4 * i + k) 0).toNat + n * 256 : Nat)), (6, iv ((k : Int) - 1))], [], ck + 3⟩) := by
  have hx : 4 * i + k < s.length := by omega
  have hn1 : n * 256 < 9223372036854775808 := Nat.lt_of_le_of_lt (Nat.le_add_right _ _) hn
  have hsh := shl_b n hn1
  have hor := fun (a : Nat) (ha : a < 256) => or_c (a := a) (b := n) (m := n * 256) rfl ha (Nat.lt_of_le_of_lt (by rw [Nat.add_comm]; exact Nat.add_le_add_left (Nat.le_of_lt ha) _) hn)
  have w1 : IntKind.i64.wrap (4 * (i : Int)) = ((4 * i : Nat) : Int) := by rw [wrap_id (by omega) (by omega)]; rfl
  have w2 : IntKind.i64.wrap (((4 * i : Nat) : Int) + (k : Int)) = ((4 * i + k : Nat) : Int) := by rw [wrap_id (by omega) (by omega)]; rfl
  have w3 : IntKind.i64.wrap ((k : Int) - 1) = (k : Int) - 1 := wrap_id (by omega) (by omega)
  obtain ⟨c, hs?⟩ : ∃ c, s[4 * i + k]? = some c := ⟨_, List.getElem?_eq_getElem hx⟩
  have hg : s.getD (4 * i + k) 0 = c := by rw [List.getD_eq_getElem?_getD, hs?]; rfl
  have hb := c.toNat_lt
  have wb : IntKind.i64.wrap ((c.toNat : Nat) : Int) = ((c.toNat : Nat) : Int) := wrap_id (by omega) (by omega)
  have hor := hor _ hb
  rw [hg]
  generalize hp : 4 * i + k = p at *
  generalize h4 : 4 * i = q at *
  generalize n * 256 = m at *
  simp [f85l0e, w1, w2, w3, hs?, -bin_shl, -bin_or, hsh, wb, hor]
theorem number_ret (s : List UInt8) (i : Nat) (hi : 4 * i + 3 < s.length) (hl : s.length ≤ 100000) : RetT cfg 85 [.t (.s s), iv i] (iv (numB s i)) := by
  have b3 := (s.getD (4 * i + 3) 0).toNat_lt
  have b2 := (s.getD (4 * i + 2) 0).toNat_lt
  have b1 := (s.getD (4 * i + 1) 0).toNat_lt
  have h3 := num_step s i 3 0 3 (by omega) hi hl (by omega)
  have h2 := num_step s i 2 (3 + 3) (by omega) hi hl (n := (s.getD (4 * i + 3) 0).toNat + 0 * 256) (by omega)
  have h1 := num_step s i 1 (3 + 3 + 3) (by omega) hi hl (n := (s.getD (4 * i + 2) 0).toNat + ((s.getD (4 * i + 3) 0).toNat + 0 * 256) * 256) (by omega)
  have h0 := num_step s i 0 (3 + 3 + 3 + 3) (by omega) hi hl (n := (s.getD (4 * i + 1) 0).toNat + ((s.getD (4 * i + 2) 0).toNat + ((s.getD (4 * i + 3) 0).toNat + 0 * 256) * 256) * 256) (by omega)
  have e : ((s.getD (4 * i + 0) 0).toNat + ((s.getD (4 * i + 1) 0).toNat + ((s.getD (4 * i + 2) 0).toNat + ((s.getD (4 * i + 3) 0).toNat + 0 * 256) * 256) * 256) * 256) = numB s i := by unfold numB fourD; simp only [Nat.add_zero]; omega
  rw [e] at h0
  have d3 : ((3 : Nat) : Int) - 1 = ((2 : Nat) : Int) := rfl
  have d2 : ((2 : Nat) : Int) - 1 = ((1 : Nat) : Int) := rfl
  have d1 : ((1 : Nat) : Int) - 1 = ((0 : Nat) : Int) := rfl
  rw [d3] at h3
  rw [d2] at h2
  rw [d1] at h1
  have hx : evL cfg (.loop f85l0) ⟨[(0, .t (.s s)), (1, iv i), (5, iv 0), (6, iv 3)], [], 3⟩ = some (.exit 0, ⟨[(0, .t (.s s)), (1, iv i), (5, iv (numB s i)), (6, iv (-1)), (8, bv false)], [], 16⟩) := by
    show evL cfg (.loop f85l0) ⟨[(0, .t (.s s)), (1, iv i), (5, iv ((0 : Nat) : Int)), (6, iv ((3 : Nat) : Int))], [], 3⟩ = _
    rw [evL_loop_n h3, evL_loop_n h2, evL_loop_n h1, evL_loop_n h0, evL_loop]
    simp [f85l0e]
  refine RetT.of ?_
  rw [runL_pf (fn := f85) rfl rfl]
  simp at hx
  simp [hx]
structure Msg where
  kind : Int
  fr : Int
  to : Int
  seq : Int
  batch : Int
  layer : Int
  token : Int
  rank : Int
  expert : Int
  epoch : Int
  vec : List Int
def nums (m : Msg) : List Int := [m.kind, m.fr, m.to, m.seq, m.batch, m.layer, m.token, m.rank, m.expert, m.epoch]
def msgC (m : Msg) : List T := [.i .i64 m.kind, .i .i64 m.fr, .i .i64 m.to, .i .i64 m.seq, .i .i64 m.batch, .i .i64 m.layer, .i .i64 m.token, .i .i64 m.rank, .i .i64 m.expert, .i .i64 m.epoch, il m.vec]
def msgV (m : Msg) : V := .ag [iv m.kind, iv m.fr, iv m.to, iv m.seq, iv m.batch, iv m.layer, iv m.token, iv m.rank, iv m.expert, iv m.epoch, .t (il m.vec)]
theorem numbers_ret (m : Msg) : RetO cfg 124 [msgV m] 3 1 (cl (nums m)) := by
  unfold RetO
  rw [runL_pf (fn := f124) rfl rfl]
  simp [msgV, nums, cl, rowsOf, keysOfs, treesC, treesOf, treeOf, freezeAll]
  exact ⟨_, _, ⟨rfl, rfl⟩, by simp [HP.get]⟩
theorem signed_ret (n : Nat) (h : n < 4294967296) : RetT cfg 87 [iv n] (iv (if n < 2147483648 then (n : Int) else n - 4294967296)) := by
  have w1 : IntKind.i32.wrap (n : Int) = if n < 2147483648 then (n : Int) else n - 4294967296 := by
    rw [IntKind.wrap_i32]; split <;> omega
  have w2 : IntKind.i64.wrap (if n < 2147483648 then (n : Int) else n - 4294967296) = if n < 2147483648 then (n : Int) else n - 4294967296 := by
    apply wrap_id <;> split <;> omega
  refine RetT.of ?_
  rw [runL_pf (fn := f87) rfl rfl]
  simp [w1, w2]
theorem bytesT_get {s : List UInt8} {i : Nat} (h : i < s.length) : (bytesT s)[i]? = some [.i .u8 s[i].toNat] := by
  simp [bytesT, h]
theorem crcL_drop {s : List UInt8} {i : Nat} (c : B32) (h : i < s.length) : crcL c (s.drop i) = crcL (crcByte c s[i]) (s.drop (i + 1)) := by
  rw [List.drop_eq_getElem_cons h]; rfl
theorem crc_bits (s : List UInt8) (i : Nat) : ∀ (k j : Nat) (c : B32) (ck : Nat), j + k = 8 → ∃ ck', evL cfg (.loop f86l0) ⟨[(3, .t (.i .u32 (c.toNat : Int))), (8, .ow ⟨8, 2, 1⟩ 1 0 s.length), (9, iv s.length), (10, iv i), (18, iv j)], [(⟨8, 2, 1⟩, .row 5 1 (bytesT s) false)], ck⟩ =
    some (.exit 2, ⟨[(3, .t (.i .u32 ((crcK k c).toNat : Int))), (8, .ow ⟨8, 2, 1⟩ 1 0 s.length), (9, iv s.length), (10, iv i), (18, iv 8), (19, bv false)], [(⟨8, 2, 1⟩, .row 5 1 (bytesT s) false)], ck'⟩) := by
  intro k
  induction k with
  | zero =>
    intro j c ck h
    obtain rfl : j = 8 := by omega
    refine ⟨ck + 1, ?_⟩
    rw [evL_loop]
    simp only [crcK]
    generalize c.toNat = n
    simp [f86l0e]
  | succ k ih =>
    intro j c ck h
    have hj : (j : Int) < 8 := by omega
    have hw : IntKind.i64.wrap ((j : Int) + 1) = (j : Int) + 1 := wrap_id (by omega) (by omega)
    obtain ⟨o, m, p, f1, f2, f3, f4⟩ := crc_ops c
    obtain ⟨ck', hc⟩ := ih (j + 1) (crcBit c) (ck + 5) (by omega)
    refine ⟨ck', ?_⟩
    show _ = some (Ex.exit 2, (⟨[(3, .t (.i .u32 ((crcK k (crcBit c)).toNat : Int))), (8, .ow ⟨8, 2, 1⟩ 1 0 s.length), (9, iv s.length), (10, iv i), (18, iv 8), (19, bv false)], [(⟨8, 2, 1⟩, .row 5 1 (bytesT s) false)], ck'⟩ : St))
    rw [← hc, evL_loop_n]
    generalize c.toNat = n at *
    generalize (crcBit c).toNat = n' at *
    simp [f86l0e, hj, hw, f1, f2, f3, f4, -bin_and, -bin_shr, -bin_mul, -bin_xor]
theorem crc_bytes (s : List UInt8) (hl : s.length ≤ 1000000) : ∀ (k i : Nat) (c : B32) (ck : Nat), i + k = s.length → ∃ ck', evL cfg (.loop f86l1) ⟨[(3, .t (.i .u32 (c.toNat : Int))), (8, .ow ⟨8, 2, 1⟩ 1 0 s.length), (9, iv s.length), (10, iv i)], [(⟨8, 2, 1⟩, .row 5 1 (bytesT s) false)], ck⟩ =
    some (.exit 0, ⟨[(3, .t (.i .u32 ((crcL c (s.drop i)).toNat : Int))), (8, .ow ⟨8, 2, 1⟩ 1 0 s.length), (9, iv s.length), (10, iv s.length), (11, bv false)], [(⟨8, 2, 1⟩, .row 5 1 (bytesT s) false)], ck'⟩) := by
  intro k
  induction k with
  | zero =>
    intro i c ck h
    obtain rfl : i = s.length := by omega
    refine ⟨ck + 1, ?_⟩
    rw [evL_loop, List.drop_length]
    simp only [crcL]
    generalize c.toNat = n
    simp [f86l1e]
  | succ k ih =>
    intro i c ck h
    have hi : i < s.length := by omega
    have hw : IntKind.i64.wrap ((i : Int) + 1) = (i : Int) + 1 := wrap_id (by omega) (by omega)
    have hbb := s[i].toNat_lt
    have hwb : IntKind.u32.wrap (s[i].toNat : Int) = ((BitVec.ofNat 32 s[i].toNat).toNat : Int) := by
      rw [wrapN (by omega), BitVec.toNat_ofNat, Nat.mod_eq_of_lt (by omega)]
    have hx := xor_u32 c (BitVec.ofNat 32 s[i].toNat)
    obtain ⟨c1, h1⟩ := crc_bits s i 8 0 (c ^^^ BitVec.ofNat 32 s[i].toNat) (ck + 4) (by omega)
    obtain ⟨ck', hc⟩ := ih (i + 1) (crcByte c s[i]) (c1 + 1) (by omega)
    refine ⟨ck', ?_⟩
    rw [crcL_drop c hi, ← hc, evL_loop_n]
    have hbt := bytesT_get hi
    simp only [crcByte] at hc ⊢
    simp only [iv, bv, Int.natCast_zero] at h1
    generalize bytesT s = row at *
    generalize (crcK 8 (c ^^^ BitVec.ofNat 32 s[i].toNat)).toNat = n2 at *
    generalize (c ^^^ BitVec.ofNat 32 s[i].toNat).toNat = n1 at *
    generalize (BitVec.ofNat 32 s[i].toNat).toNat = n0 at *
    generalize c.toNat = n at *
    generalize s[i].toNat = b at *
    simp [f86l1e, hi, hw, hbt, hwb, hx, h1, -bin_xor]
theorem crc_ret (s : List UInt8) (hl : s.length ≤ 1000000) : RetT cfg 86 [.t (.s s)] (iv (crcI s)) := by
  refine RetT.of ?_
  rw [runL_pf (fn := f86) rfl rfl]
  obtain ⟨ck', hc⟩ := crc_bytes s hl s.length 0 4294967295#32 3 (by omega)
  have hx := xor_u32 (crcL 4294967295#32 s) 4294967295#32
  have hlt := (crcL 4294967295#32 s ^^^ 4294967295#32).isLt
  have hw : IntKind.i64.wrap ((crcL 4294967295#32 s ^^^ 4294967295#32).toNat : Int) = ((crcL 4294967295#32 s ^^^ 4294967295#32).toNat : Int) := wrap_id (by omega) (by omega)
  have hb : s.length ≤ 140737488355328 := by omega
  rw [List.drop_zero] at hc
  simp only [crcI]
  have e32 : (((4294967295#32 : B32).toNat : Nat) : Int) = 4294967295 := rfl
  rw [e32] at hc hx
  simp only [iv, bv, Int.natCast_zero] at hc hx
  generalize (crcL 4294967295#32 s ^^^ 4294967295#32).toNat = n1 at *
  generalize (crcL 4294967295#32 s).toNat = n0 at *
  have hlb : (bytesT s).length = s.length := by simp [bytesT]
  simp [hb, hc, hx, hw, -bin_xor]
def okN (n : Int) : Bool := decide (0 ≤ n) && decide (n ≤ 2147483647)
def okS (n : Int) : Bool := decide (-2147483648 ≤ n) && decide (n ≤ 2147483647)
def wrightM (m : Msg) : Bool := (nums m).all okN && m.vec.all okS && decide (1 ≤ m.kind) && decide (m.kind ≤ 4) && decide (m.vec.length ≤ 8)
def wn0I (m : Msg) (bx : List V) (ty c : Nat) (i : Nat) (s : St) : Prop := Upto okN (nums m) i ∧ ∃ ck, s = ⟨[(1, .pt ⟨1, 0, 0⟩ 11 0 0), (8, .ow ⟨8, c, 1⟩ 1 0 10), (9, iv 10), (10, iv (i : Int))], [(⟨8, c, 1⟩, .row 3 1 (cl (nums m)) false), (⟨1, 0, 0⟩, .box ty bx)], ck⟩
def wn0Q (m : Msg) (bx : List V) (ty c : Nat) (E : Option (Ex × St)) : Prop :=
  ((nums m).all okN = true ∧ ∃ ck v, E = some (.exit 0, ⟨[(1, .pt ⟨1, 0, 0⟩ 11 0 0), (8, .ow ⟨8, c, 1⟩ 1 0 10), (9, iv 10), (10, iv 10), (11, v)], [(⟨8, c, 1⟩, .row 3 1 (cl (nums m)) false), (⟨1, 0, 0⟩, .box ty bx)], ck⟩)) ∨
  ((nums m).all okN = false ∧ ∃ h ck, E = some (.ret, ⟨[(2, bv false)], h, ck⟩))
theorem wn0_loop (m : Msg) (bx : List V) (ty c ck : Nat) : wn0Q m bx ty c (evL cfg (.loop f88l0) ⟨[(1, .pt ⟨1, 0, 0⟩ 11 0 0), (8, .ow ⟨8, c, 1⟩ 1 0 10), (9, iv 10), (10, iv 0)], [(⟨8, c, 1⟩, .row 3 1 (cl (nums m)) false), (⟨1, 0, 0⟩, .box ty bx)], ck⟩) := by
  have hln : (nums m).length = 10 := rfl
  refine loop_q (nums m).length (wn0I m bx ty c) ?_ ?_ _ ⟨upto0 _ _, ck, rfl⟩
  · rintro i s hi ⟨h1, ck, rfl⟩
    have hi10 : i < 10 := hi
    have hw : IntKind.i64.wrap ((i : Int) + 1) = (i : Int) + 1 := wrap_id (by omega) (by omega)
    have hiI : (i : Int) < 10 := by omega
    have hno : okN (nums m)[i] = false → (nums m).all okN = false := fun e => all_not hi e
    have hyes : okN (nums m)[i] = true → Upto okN (nums m) (i + 1) := fun e => upto_s h1 hi e
    have hg : (cl (nums m))[i]? = some [.i .i64 (nums m)[i]] := by rw [cl, List.getElem?_map, List.getElem?_eq_getElem hi]; rfl
    generalize (nums m)[i] = n at *
    by_cases c1 : n < 0
    · have e : okN n = false := by simp [okN]; omega
      simp [f88l0e, hiI, hi10, hg, c1]
      exact .inr ⟨hno e, _, _, rfl⟩
    by_cases c2 : 2147483647 < n
    · have e : okN n = false := by simp [okN]; omega
      simp [f88l0e, hiI, hi10, hg, c1, c2]
      exact .inr ⟨hno e, _, _, rfl⟩
    · have e : okN n = true := by simp [okN]; omega
      simp [f88l0e, hiI, hi10, hg, c1, c2, hw]
      exact ⟨hyes e, _, rfl⟩
  · rintro s ⟨h1, ck, rfl⟩
    simp [f88l0e, hln]
    exact .inl ⟨upto_all h1, _, _, rfl⟩
def wn1I (v : List Int) (bx : List V) (ty : Nat) (i : Nat) (s : St) : Prop := Upto okS v i ∧ ∃ ck, s = ⟨[(1, .pt ⟨1, 0, 0⟩ 11 0 0), (22, .t (il v)), (23, iv v.length), (24, iv (i : Int))], [(⟨1, 0, 0⟩, .box ty bx)], ck⟩
def wn1Q (v : List Int) (bx : List V) (ty : Nat) (E : Option (Ex × St)) : Prop :=
  (v.all okS = true ∧ ∃ ck e, E = some (.exit 2, ⟨(1, .pt ⟨1, 0, 0⟩ 11 0 0) :: e, [(⟨1, 0, 0⟩, .box ty bx)], ck⟩)) ∨
  (v.all okS = false ∧ ∃ h ck, E = some (.ret, ⟨[(2, bv false)], h, ck⟩))
theorem wn1_loop (v : List Int) (bx : List V) (ty ck : Nat) (hl : v.length ≤ 1000000) : wn1Q v bx ty (evL cfg (.loop f88l1) ⟨[(1, .pt ⟨1, 0, 0⟩ 11 0 0), (22, .t (il v)), (23, iv v.length), (24, iv 0)], [(⟨1, 0, 0⟩, .box ty bx)], ck⟩) := by
  refine loop_q v.length (wn1I v bx ty) ?_ ?_ _ ⟨upto0 _ _, ck, rfl⟩
  · rintro i s hi ⟨h1, ck, rfl⟩
    have hw : IntKind.i64.wrap ((i : Int) + 1) = (i : Int) + 1 := wrap_id (by omega) (by omega)
    by_cases c1 : v[i] < -2147483648
    · have e : okS v[i] = false := by simp [okS]; omega
      simp [f88l1e, il, hi, c1]
      exact .inr ⟨all_not hi e, _, _, rfl⟩
    by_cases c2 : 2147483647 < v[i]
    · have e : okS v[i] = false := by simp [okS]; omega
      simp [f88l1e, il, hi, c1, c2]
      exact .inr ⟨all_not hi e, _, _, rfl⟩
    · have e : okS v[i] = true := by simp [okS]; omega
      simp [f88l1e, il, hi, c1, c2, hw]
      exact ⟨upto_s h1 hi e, _, rfl⟩
  · rintro s ⟨h1, ck, rfl⟩
    simp [f88l1e]
    exact .inl ⟨upto_all h1, _, _, rfl⟩
theorem wright_ret (m : Msg) (hl : m.vec.length ≤ 1000000) : RetT cfg 88 [msgV m] (bv (wrightM m)) := by
  have hn := fun s k => callEv_tro (C := cfg) (numbers_ret m) rfl rfl rfl s k
  have hcl : (cl (nums m)).length = 10 := rfl
  simp only [msgV, iv, il, hcl] at hn
  rw [retT_r, runL_pf (fn := f88) rfl rfl]
  unfold wrightM
  rcases wn0_loop m [iv m.kind, iv m.fr, iv m.to, iv m.seq, iv m.batch, iv m.layer, iv m.token, iv m.rank, iv m.expert, iv m.epoch, .t (il m.vec)] 95 1 2 with ⟨e0, ck0, v0, h0⟩ | ⟨e0, hh, ck0, h0⟩
  · rcases wn1_loop m.vec [iv m.kind, iv m.fr, iv m.to, iv m.seq, iv m.batch, iv m.layer, iv m.token, iv m.rank, iv m.expert, iv m.epoch, .t (il m.vec)] 95 (ck0 + 1) hl with ⟨e1, ck1, v1, h1⟩ | ⟨e1, hh, ck1, h1⟩
    · rw [e0, e1]
      simp [il] at h0 h1
      by_cases c1 : 1 ≤ m.kind
      case neg => simp [msgV, il, hn, h0, h1, c1, resOf, resOf1]
      by_cases c2 : m.kind ≤ 4
      case neg => simp [msgV, il, hn, h0, h1, c1, c2, resOf, resOf1]
      by_cases c3 : m.vec.length ≤ 8
      case neg =>
        have c3' : ¬ (m.vec.length : Int) ≤ 8 := by omega
        simp [msgV, il, hn, h0, h1, c1, c2, c3, c3', resOf, resOf1]
      have c3' : (m.vec.length : Int) ≤ 8 := by omega
      simp [msgV, il, hn, h0, h1, c1, c2, c3, c3', resOf, resOf1]
    · rw [e0, e1]
      simp [il] at h0 h1
      simp [msgV, il, hn, h0, h1, resOf, resOf1]
  · rw [e0]
    simp [il] at h0
    simp [msgV, il, hn, h0, resOf, resOf1]
def numsA (m : Msg) : List Int := nums m ++ [(m.vec.length : Int)] ++ m.vec
def bodyB (l : List Int) : List UInt8 := l.flatMap fourI
def frameB (l : List Int) : List UInt8 := fourI ((bodyB l ++ fourI (crcI (bodyB l))).length : Nat) ++ (bodyB l ++ fourI (crcI (bodyB l)))
def putB (m : Msg) : List UInt8 := frameB (numsA m)
def putP (m : Msg) : List UInt8 × Int := if wrightM m then (putB m, 0) else ([], 1)
theorem bodyB_len (l : List Int) : (bodyB l).length = 4 * l.length := by
  induction l with
  | nil => rfl
  | cons x r ih =>
    have : (bodyB (x :: r)).length = 4 + (bodyB r).length := by simp [bodyB, fourI_len]
    rw [this, ih, List.length_cons]; omega
theorem bodyB_take {l : List Int} {i : Nat} (hi : i < l.length) : bodyB (l.take (i + 1)) = bodyB (l.take i) ++ fourI l[i] := by
  unfold bodyB
  rw [List.take_succ_eq_append_getElem hi, List.flatMap_append, List.flatMap_cons, List.flatMap_nil, List.append_nil]
def puI (l : List Int) (k : Key) (i : Nat) (s : St) : Prop := ∃ ck x, x = bodyB (l.take i) ∧ s = ⟨[(4, .t (.s x)), (19, .ow k 1 0 l.length), (20, iv l.length), (21, iv (i : Int))], [(k, .row 3 1 (cl l) false)], ck⟩
def puQ (l : List Int) (k : Key) (E : Option (Ex × St)) : Prop := ∃ ck e, E = some (.exit 0, ⟨(4, .t (.s (bodyB l))) :: e, [(k, .row 3 1 (cl l) false)], ck⟩)
theorem pu_loop (l : List Int) (c o ck : Nat) (hl : l.length ≤ 10000) : puQ l ⟨11, c, o⟩ (evL cfg (.loop f82l0) ⟨[(4, .t (.s [])), (19, .ow ⟨11, c, o⟩ 1 0 l.length), (20, iv l.length), (21, iv 0)], [(⟨11, c, o⟩, .row 3 1 (cl l) false)], ck⟩) := by
  refine loop_q l.length (puI l ⟨11, c, o⟩) ?_ ?_ _ ⟨ck, [], rfl, rfl⟩
  · rintro i s hi ⟨ck, x, h1, rfl⟩
    have hw : IntKind.i64.wrap ((i : Int) + 1) = (i : Int) + 1 := wrap_id (by omega) (by omega)
    have hg : (cl l)[i]? = some [.i .i64 l[i]] := by rw [cl, List.getElem?_map, List.getElem?_eq_getElem hi]; rfl
    have hxl : x.length ≤ 40000 := by rw [h1, bodyB_len]; simp; omega
    have hb : ¬ i64max < (x.length : Int) + (fourI l[i]).length := by rw [fourI_len]; unfold i64max; omega
    have hcl : (cl l).length = l.length := by simp [cl]
    simp [f82l0e, hi, hg, hw, wfour_call, hb]
    exact ⟨_, _, by rw [bodyB_take hi, ← h1], rfl⟩
  · rintro s ⟨ck, x, h1, rfl⟩
    rw [List.take_length] at h1
    subst h1
    simp [f82l0e]
    exact ⟨_, _, rfl⟩
theorem wput_ret (m : Msg) (hl : m.vec.length ≤ 1000000) : RetT cfg 82 [msgV m] (.tu [.t (.s (putP m).1), iv (putP m).2]) := by
  have hr := fun s k => callEv_tr (C := cfg) (wright_ret m hl) rfl rfl rfl s k
  rw [retT_r, runL_pf (fn := f82) rfl rfl]
  unfold putP
  by_cases hx : wrightM m = true
  case neg =>
    have hx' : wrightM m = false := by simpa using hx
    rw [hx'] at hr ⊢
    simp only [msgV, il, iv, bv] at hr
    simp [msgV, il, hr, resOf, resOfs, resOf1]
  rw [hx] at hr ⊢
  have hvl : m.vec.length ≤ 8 := by
    simp only [wrightM, Bool.and_eq_true, decide_eq_true_eq] at hx
    exact hx.2
  have hn := fun hp k => callO_tr (C := cfg) (numbers_ret m) rfl rfl rfl hp k
  have hcl : (cl (nums m)).length = 10 := rfl
  simp only [msgV, il, iv, bv, hcl] at hr hn
  have hA : numsA m = nums m ++ [(m.vec.length : Int)] ++ m.vec := rfl
  have hlA : (numsA m).length = 11 + m.vec.length := by simp [numsA, nums]; omega
  obtain ⟨ck2, e2, hc⟩ := pu_loop (numsA m) 3 9 4 (by omega)
  have hbl := bodyB_len (numsA m)
  have hcr := fun s k => callEv_tr (C := cfg) (crc_ret (bodyB (numsA m)) (by omega)) rfl rfl rfl s k
  have hclA : cl (numsA m) = cl (nums m) ++ [[.i .i64 (m.vec.length : Int)]] ++ m.vec.map fun n => [.i .i64 n] := by simp [hA, cl]
  unfold putB frameB
  rw [hlA] at hc
  rw [hclA] at hc
  generalize bodyB (numsA m) = B at *
  have hb1 : ¬ i64max < (B.length : Int) + 4 := by unfold i64max; omega
  have hb2 : ¬ i64max < 4 + ((B.length : Int) + 4) := by unfold i64max; omega
  have hfl := fun n => fourI_len n
  simp only [iv] at hcr
  simp at hc
  have hb8 : (11 + m.vec.length) * 8 ≤ 140737488355328 := by omega
  generalize cl (nums m) = L at *
  simp [msgV, il, hr, hn, noFn, isBox, keysOfs, rowsOf, treesC, treesOf, treeOf, freezeAll, appOk, countK, app, elsOf, hcl, hb8, hc, hcr, wfour_call, fourI_len, hb1, hb2, resOf, resOfs, resOf1]
def unsig (n : Nat) : Int := if n < 2147483648 then (n : Int) else n - 4294967296
def msg0 : Msg := ⟨0, 0, 0, 0, 0, 0, 0, 0, 0, 0, []⟩
def manyB (s : List UInt8) : Nat := s.length / 4 - 1
def vecB (s : List UInt8) : List Int := (List.range (manyB s - 12)).map fun i => unsig (numB s (12 + i))
def msgB (s : List UInt8) : Msg := ⟨numB s 1, numB s 2, numB s 3, numB s 4, numB s 5, numB s 6, numB s 7, numB s 8, numB s 9, numB s 10, vecB s⟩
def takeP (s : List UInt8) : Msg × Int :=
  if s.length < 52 ∨ numB s 0 + 4 ≠ s.length ∨ s.length % 4 ≠ 0 then (msg0, 2)
  else if (numB s (manyB s) : Int) ≠ crcI ((s.take (4 * manyB s)).drop 4) then (msg0, 9)
  else if numB s 11 ≠ manyB s - 12 ∨ wrightM (msgB s) = false then (msg0, 2)
  else (msgB s, 0)
def rowL (s : List UInt8) (n i : Nat) : List (List T) := (List.range n).map fun j => [.i .i64 (if j < i then (numB s j : Int) else 0)]
theorem rowL_0 (s : List UInt8) (n : Nat) : rowL s n 0 = List.replicate n [.i .i64 0] := by
  unfold rowL
  apply List.ext_getElem
  · simp
  · intro i h1 h2; simp
theorem rowL_s {s : List UInt8} {n i : Nat} (hi : i < n) : (rowL s n i).set i [.i .i64 (numB s i)] = rowL s n (i + 1) := by
  apply List.ext_getElem
  · simp [rowL]
  · intro j h1 h2
    simp only [rowL, List.getElem_set, List.getElem_map, List.getElem_range]
    by_cases e : i = j
    · subst e; simp
    · rw [if_neg e]
      by_cases g : j < i
      · rw [if_pos g, if_pos (by omega)]
      · rw [if_neg g, if_neg (by omega)]
theorem rowL_get (s : List UInt8) {n j : Nat} (hj : j < n) : (rowL s n n)[j]? = some [.i .i64 (numB s j : Int)] := by
  unfold rowL
  rw [List.getElem?_map, List.getElem?_range hj]
  simp [hj]
def tk0I (s : List UInt8) (n c : Nat) (b2 : Ob) (i : Nat) (t : St) : Prop := ∃ ck els, els = rowL s n i ∧ t = ⟨[(0, .t (.s s)), (2, .pt ⟨2, 0, 0⟩ 11 0 0), (5, .ow ⟨43, c, 1⟩ 1 0 n), (45, iv n), (46, iv (i : Int))], [(⟨43, c, 1⟩, .row 3 1 els false), (⟨2, 0, 0⟩, b2)], ck⟩
def tk0Q (s : List UInt8) (n c : Nat) (b2 : Ob) (E : Option (Ex × St)) : Prop := ∃ ck v, E = some (.exit 0, ⟨[(0, .t (.s s)), (2, .pt ⟨2, 0, 0⟩ 11 0 0), (5, .ow ⟨43, c, 1⟩ 1 0 n), (45, iv n), (46, iv n), (47, v)], [(⟨43, c, 1⟩, .row 3 1 (rowL s n n) false), (⟨2, 0, 0⟩, b2)], ck⟩)
theorem tk0_loop (s : List UInt8) (n c ck : Nat) (b2 : Ob) (hl : s.length ≤ 100000) (hn : 4 * n ≤ s.length) : tk0Q s n c b2 (evL cfg (.loop f51l0) ⟨[(0, .t (.s s)), (2, .pt ⟨2, 0, 0⟩ 11 0 0), (5, .ow ⟨43, c, 1⟩ 1 0 n), (45, iv n), (46, iv 0)], [(⟨43, c, 1⟩, .row 3 1 (List.replicate n [.i .i64 0]) false), (⟨2, 0, 0⟩, b2)], ck⟩) := by
  refine loop_q n (tk0I s n c b2) ?_ ?_ _ ⟨ck, _, (rowL_0 s n).symm, rfl⟩
  · rintro i t hi ⟨ck, els, h1, rfl⟩
    have hw : IntKind.i64.wrap ((i : Int) + 1) = (i : Int) + 1 := wrap_id (by omega) (by omega)
    have hr := fun t k => callEv_tr (C := cfg) (number_ret s i (by omega) hl) rfl rfl rfl t k
    simp only [iv] at hr
    have hlen : els.length = n := by rw [h1]; simp [rowL]
    have hs := rowL_s (s := s) hi
    rw [← h1] at hs
    have hg : els[i]? = some [.i .i64 0] := by rw [h1]; simp [rowL, hi]
    simp [f51l0e, hi, hw, hr, hg, treesC, treesOf, treeOf, keysOf, freezeAll, over]
    exact ⟨_, _, hs, rfl⟩
  · rintro t ⟨ck, els, h1, rfl⟩
    subst h1
    simp [f51l0e]
    exact ⟨_, _, rfl⟩
def mcs (s : List UInt8) (x : V) : List V := [iv (numB s 1), iv (numB s 2), iv (numB s 3), iv (numB s 4), iv (numB s 5), iv (numB s 6), iv (numB s 7), iv (numB s 8), iv (numB s 9), iv (numB s 10), x]
def vcl (s : List UInt8) (i : Nat) : List (List T) := (List.range i).map fun j => [.i .i64 (unsig (numB s (12 + j)))]
theorem vcl_s (s : List UInt8) (i : Nat) : vcl s (i + 1) = vcl s i ++ [[.i .i64 (unsig (numB s (12 + i)))]] := by
  unfold vcl; rw [List.range_succ, List.map_append]; rfl
def tk1S (s : List UInt8) (n c c7 o7 : Nat) (b2 : Ob) (i : Nat) (ex : List (Nat × V)) (hd : HP) (x : V) (ck : Nat) : St := ⟨[(2, .pt ⟨2, 0, 0⟩ 11 0 0), (5, .ow ⟨43, c, 1⟩ 1 0 n), (7, .pt ⟨7, c7, o7⟩ 11 0 0), (88, .ow ⟨43, c, 1⟩ 1 12 (n - 12)), (89, iv (n - 12 : Nat)), (90, iv (i : Int))] ++ ex, hd ++ [(⟨7, c7, o7⟩, .box 95 (mcs s x)), (⟨43, c, 1⟩, .row 3 1 (rowL s n n) false), (⟨2, 0, 0⟩, b2)], ck⟩
def tk1X (s : List UInt8) (i : Nat) (hd : HP) (x : V) : Prop := (i = 0 ∧ hd = [] ∧ x = .nl) ∨ ∃ c o, 0 < i ∧ hd = [(⟨99, c, o⟩, .row 3 1 (vcl s i) false)] ∧ x = .ow ⟨99, c, o⟩ 1 0 i
def tk1I (s : List UInt8) (n c c7 o7 : Nat) (b2 : Ob) (i : Nat) (t : St) : Prop := ∃ hd x ck, tk1X s i hd x ∧ t = tk1S s n c c7 o7 b2 i [] hd x ck
def tk1Q (s : List UInt8) (n c c7 o7 : Nat) (b2 : Ob) (E : Option (Ex × St)) : Prop := ∃ hd x ck, tk1X s (n - 12) hd x ∧ E = some (.exit 2, tk1S s n c c7 o7 b2 (n - 12) [(91, bv false)] hd x ck)
theorem tk1_loop (s : List UInt8) (n c c7 o7 ck : Nat) (b2 : Ob) (hn : n ≤ 100000) (h12 : 12 ≤ n) : tk1Q s n c c7 o7 b2 (evL cfg (.loop f51l1) (tk1S s n c c7 o7 b2 0 [] [] .nl ck)) := by
  refine loop_q (n - 12) (tk1I s n c c7 o7 b2) ?_ ?_ _ ⟨[], .nl, ck, .inl ⟨rfl, rfl, rfl⟩, rfl⟩
  · rintro i t hi ⟨hd, x, ck, hx, rfl⟩
    have hw : IntKind.i64.wrap ((i : Int) + 1) = (i : Int) + 1 := wrap_id (by omega) (by omega)
    have hiI : (i : Int) < ((n - 12 : Nat) : Int) := by omega
    have hr := fun hp => callQ_tr (C := cfg) (signed_ret (numB s (12 + i)) (numB_lt s _)) rfl hp
    simp only [iv] at hr
    have hg := rowL_get s (n := n) (j := 12 + i) (by omega)
    have hvs := vcl_s s i
    have hvl : (vcl s i).length = i := by simp [vcl]
    have hb : (i + 1) * 8 ≤ 140737488355328 := by omega
    unfold unsig at hvs
    generalize (if numB s (12 + i) < 2147483648 then (numB s (12 + i) : Int) else numB s (12 + i) - 4294967296) = u at *
    have dI : decide ((i : Int) < ((n - 12 : Nat) : Int)) = true := decide_eq_true hiI
    generalize hm : n - 12 = q at *
    have hiq : i < q := hi
    rcases hx with ⟨rfl, rfl, rfl⟩ | ⟨c9, o9, h0, rfl, rfl⟩
    · have w01 : IntKind.i64.wrap 1 = 1 := by decide
      have hv1 : vcl s 1 = [[.i .i64 u]] := hvs
      simp at hr
      simp [tk1S, mcs, f51l1e, hm, hiq, hg, hr, w01, keysOfs, rowsOf, treesC, treesOf, treeOf, freezeAll, app, elsOf, over]
      exact ⟨_, _, _, .inr ⟨ck + 1 + 1, 5, Nat.one_pos, rfl, rfl⟩, by simp [tk1S, mcs, hm, hv1]; rfl⟩
    · simp [tk1S, mcs, f51l1e, hm, hiq, hg, hr, hw, keysOfs, rowsOf, treesC, treesOf, treeOf, freezeAll, app, elsOf, over, hvl, hb]
      exact ⟨_, _, _, .inr ⟨ck + 1 + 1, 5, Nat.succ_pos _, rfl, rfl⟩, by simp [tk1S, mcs, hm, hvs]; rfl⟩
  · rintro t ⟨hd, x, ck, hx, rfl⟩
    have hf : decide (((n - 12 : Nat) : Int) < ((n - 12 : Nat) : Int)) = false := decide_eq_false (by omega)
    simp [tk1S, mcs, f51l1e]
    exact ⟨_, _, _, hx, by simp [tk1S, mcs]; rfl⟩
theorem treeOf_t (h : HP) (x : T) : treeOf h (.t x) = some x := rfl
theorem vecB_il (s : List UInt8) : il (vecB s) = .l (vcl s (manyB s - 12)) := by simp [il, vecB, vcl]
set_option maxHeartbeats 4000000 in
theorem take_ret (s : List UInt8) (hl : s.length ≤ 100000) : RetT cfg 51 [.t (.s s)] (.tu [msgV (takeP s).1, iv (takeP s).2]) := by
  rw [retT_r, runL_pf (fn := f51) rfl rfl]
  unfold takeP
  by_cases c1 : s.length < 52
  · rw [if_pos (.inl c1)]
    have d1 : (s.length : Int) < 52 := by omega
    simp [d1, over, buildV, msgV, msg0, resOf, resOfs, resOf1, treesOf, treeOf, il]
  have d1 : ¬ (s.length : Int) < 52 := by omega
  have hn0 := fun t k => callEv_tr (C := cfg) (number_ret s 0 (by omega) hl) rfl rfl rfl t k
  have w4 : IntKind.i64.wrap ((s.length : Int) - 4) = (s.length : Int) - 4 := wrap_id (by omega) (by omega)
  simp only [iv] at hn0
  simp at hn0
  by_cases c2 : numB s 0 + 4 ≠ s.length
  · rw [if_pos (.inr (.inl c2))]
    have d2 : ((numB s 0 : Int) != (s.length : Int) - 4) = true := by simp; omega
    simp [d1, hn0, w4, d2, over, buildV, msgV, msg0, resOf, resOfs, resOf1, treesOf, treeOf, il]
  have d2 : ((numB s 0 : Int) != (s.length : Int) - 4) = false := by simp; omega
  have tm : ((s.length : Int)).tmod 4 = ((s.length % 4 : Nat) : Int) := by rw [Int.tmod_eq_emod_of_nonneg (by omega)]; rfl
  by_cases c3 : s.length % 4 ≠ 0
  · rw [if_pos (.inr (.inr c3))]
    have d3 : (((s.length % 4 : Nat) : Int) != 0) = true := by simp; omega
    generalize s.length % 4 = r at *
    simp [d1, hn0, w4, d2, tm, d3, over, buildV, msgV, msg0, resOf, resOfs, resOf1, treesOf, treeOf, il]
  have d3 : ((s.length : Int) % 4 != 0) = false := by simp; omega
  have tm : ((s.length : Int)).tmod 4 = (s.length : Int) % 4 := Int.tmod_eq_emod_of_nonneg (by omega)
  rw [if_neg (by rintro (h | h | h); · exact c1 h
                 · exact c2 h
                 · exact c3 h)]
  have hm4 : 4 * manyB s + 4 = s.length := by unfold manyB; omega
  have h12 : 12 ≤ manyB s := by unfold manyB; omega
  have tq : IntKind.i64.wrap ((s.length : Int) / 4) = (manyB s : Int) + 1 := by rw [wrap_id (by omega) (by omega)]; omega
  have tq' : IntKind.i64.wrap (manyB s : Int) = (manyB s : Int) := wrap_id (by omega) (by omega)
  have tq2 : IntKind.i64.wrap ((manyB s : Int) + 1 - 1) = (manyB s : Int) := by rw [wrap_id (by omega) (by omega)]; omega
  have tq3 : IntKind.i64.wrap (4 * (manyB s : Int)) = ((4 * manyB s : Nat) : Int) := by rw [wrap_id (by omega) (by omega)]; rfl
  have hnm := fun hp => callQ_tr (C := cfg) (number_ret s (manyB s) (by omega) hl) rfl hp
  have hcr := fun hp => callQ_tr (C := cfg) (crc_ret ((s.take (4 * manyB s)).drop 4) (by simp; omega)) rfl hp
  have hR := wright_ret (msgB s) (by simp [msgB, vecB]; omega)
  have hmb : msgB s = ⟨numB s 1, numB s 2, numB s 3, numB s 4, numB s 5, numB s 6, numB s 7, numB s 8, numB s 9, numB s 10, vecB s⟩ := rfl
  have hvb := vecB_il s
  have g := fun j hj => rowL_get s (n := manyB s) (j := j) hj
  have g1 := g 1 (by omega)
  have g2 := g 2 (by omega)
  have g3 := g 3 (by omega)
  have g4 := g 4 (by omega)
  have g5 := g 5 (by omega)
  have g6 := g 6 (by omega)
  have g7 := g 7 (by omega)
  have g8 := g 8 (by omega)
  have g9 := g 9 (by omega)
  have g10 := g 10 (by omega)
  have g11 := g 11 (by omega)
  simp only [iv] at hnm hcr
  generalize crcI ((s.take (4 * manyB s)).drop 4) = cr at *
  have k1 := tk0_loop s (manyB s) 4 6 (.box 95 [iv 0, iv 0, iv 0, iv 0, iv 0, iv 0, iv 0, iv 0, iv 0, iv 0, .nl]) hl (by omega)
  have lb : (manyB s : Int) * 8 ≤ 140737488355328 := by omega
  have k2 := fun c7 ck => tk1_loop s (manyB s) 4 c7 31 ck (.box 95 [iv 0, iv 0, iv 0, iv 0, iv 0, iv 0, iv 0, iv 0, iv 0, iv 0, .nl]) (by omega) h12
  have b1 : 4 * manyB s ≤ s.length := by omega
  have b4 : 4 ≤ 4 * manyB s := by omega
  have b4' : (4 : Int) ≤ ((4 * manyB s : Nat) : Int) := by omega
  generalize hn : manyB s = n at *
  have l1 : (1 : Int) < (n : Int) := by omega
  have l2 : (2 : Int) < (n : Int) := by omega
  have l3 : (3 : Int) < (n : Int) := by omega
  have l4 : (4 : Int) < (n : Int) := by omega
  have l5 : (5 : Int) < (n : Int) := by omega
  have l6 : (6 : Int) < (n : Int) := by omega
  have l7 : (7 : Int) < (n : Int) := by omega
  have l8 : (8 : Int) < (n : Int) := by omega
  have l9 : (9 : Int) < (n : Int) := by omega
  have l10 : (10 : Int) < (n : Int) := by omega
  have l12 : (12 : Int) ≤ (n : Int) := by omega
  have l11 : (11 : Int) < (n : Int) := by omega
  generalize h4n : 4 * n = n4 at *
  by_cases c4 : (numB s n : Int) ≠ cr
  · rw [if_pos c4]
    have d4 : ((numB s n : Int) != cr) = true := by simpa using c4
    simp [d1, hn0, w4, d2, tm, d3, tq, tq', tq2, tq3, hnm, hcr, b1, b4, b4', d4, over, buildV, msgV, msg0, resOf, resOfs, resOf1, treesOf, treeOf, il]
  have d4 : ((numB s n : Int) != cr) = false := by simpa using c4
  rw [if_neg (fun h => c4 h)]
  obtain ⟨ck1, v1, k1⟩ := k1
  obtain ⟨hd, x, ck2, hx, k2⟩ := k2 ck1 (ck1 + 1 + 1)
  simp [tk1S, mcs] at k2
  simp at k1
  have hRq : ∀ hp, treeOf hp x = some (il (vecB s)) → callQ (runL cfg) 88 [.ag (mcs s x)] hp = some (bv (wrightM (msgB s))) := fun hp h => callQ_t (ps := [msgV (msgB s)]) (by simp only [puresOf, pureOf, mcs, iv, treesOf, treeOf_t, h, msgV, msgB, List.map_cons, List.map_nil]) hR (.inl rfl)
  simp only [mcs, iv, bv] at hRq
  have hm : treesOf ((⟨2, 0, 0⟩, .box 0 []) :: []) [] = some [] := rfl
  generalize hq : n - 12 = q at *
  by_cases c5 : numB s 11 = q
  · have d5 : ((numB s 11 : Int) != (q : Int)) = false := by simp [c5]
    rcases hx with ⟨hq0, rfl, rfl⟩ | ⟨c9, o9, h0, rfl, rfl⟩
    · have hv0 : il (vecB s) = .l [] := by rw [hvb, hq0]; rfl
      have hRn := fun hp => hRq hp (by rw [hv0]; rfl)
      have hv1 : vecB s = [] := by have := hv0; simp [il] at this; exact this
      have d5' : ((numB s 11 : Int) != 0) = false := by simp [c5, hq0]
      cases hw : wrightM (msgB s) with
      | true =>
        rw [if_neg (by simp [c5])]
        rw [hw] at hRn
        simp [d1, hn0, w4, d2, tm, d3, tq, tq', tq2, tq3, hnm, hcr, b1, b4, b4', d4, lb, hq, k1, k2, hRn, d5', g1, g2, g3, g4, g5, g6, g7, g8, g9, g10, g11, l1, l2, l3, l4, l5, l6, l7, l8, l9, l10, l11, l12, over, buildV, resOf, resOfs, resOf1, treesOf, treeOf, msgV, hmb, hv0, hv1]
      | false =>
        rw [if_pos (.inr rfl)]
        rw [hw] at hRn
        simp [d1, hn0, w4, d2, tm, d3, tq, tq', tq2, tq3, hnm, hcr, b1, b4, b4', d4, lb, hq, k1, k2, hRn, d5', g1, g2, g3, g4, g5, g6, g7, g8, g9, g10, g11, l1, l2, l3, l4, l5, l6, l7, l8, l9, l10, l11, l12, over, buildV, resOf, resOfs, resOf1, treesOf, treeOf, msgV, msg0, il]
    · have hvl : (vcl s q).length = q := by simp [vcl]
      have htk : (vcl s q).take q = vcl s q := List.take_of_length_le (by omega)
      have hRn : ∀ hp : HP, hp.get ⟨99, c9, o9⟩ = some (.row 3 1 (vcl s q) false) → _ := fun hp hg => hRq hp (by rw [hvb]; simp [treeOf, hg, hvl, htk])
      cases hw : wrightM (msgB s) with
      | true =>
        rw [if_neg (by simp [c5])]
        rw [hw] at hRn
        simp [d1, hn0, w4, d2, tm, d3, tq, tq', tq2, tq3, hnm, hcr, b1, b4, b4', d4, lb, hq, k1, k2, hRn, d5, g1, g2, g3, g4, g5, g6, g7, g8, g9, g10, g11, l1, l2, l3, l4, l5, l6, l7, l8, l9, l10, l11, l12, over, buildV, resOf, resOfs, resOf1, treesOf, treeOf, msgV, hmb, hvb, hvl, htk]
        have := hvb
        simp [il] at this
        exact this.symm
      | false =>
        rw [if_pos (.inr rfl)]
        rw [hw] at hRn
        simp [d1, hn0, w4, d2, tm, d3, tq, tq', tq2, tq3, hnm, hcr, b1, b4, b4', d4, lb, hq, k1, k2, hRn, d5, g1, g2, g3, g4, g5, g6, g7, g8, g9, g10, g11, l1, l2, l3, l4, l5, l6, l7, l8, l9, l10, l11, l12, over, buildV, resOf, resOfs, resOf1, treesOf, treeOf, msgV, msg0, il]
  · rw [if_pos (.inl c5)]
    rcases hx with ⟨hq0, rfl, rfl⟩ | ⟨c9, o9, h0, rfl, rfl⟩
    · have d5' : ((numB s 11 : Int) != 0) = true := by simp; omega
      simp [d1, hn0, w4, d2, tm, d3, tq, tq', tq2, tq3, hnm, hcr, b1, b4, b4', d4, lb, hq, k1, k2, d5', g1, g2, g3, g4, g5, g6, g7, g8, g9, g10, g11, l1, l2, l3, l4, l5, l6, l7, l8, l9, l10, l11, l12, over, buildV, resOf, resOfs, resOf1, treesOf, treeOf, msgV, msg0, il]
    · have d5 : ((numB s 11 : Int) != (q : Int)) = true := by simp; omega
      simp [d1, hn0, w4, d2, tm, d3, tq, tq', tq2, tq3, hnm, hcr, b1, b4, b4', d4, lb, hq, k1, k2, d5, g1, g2, g3, g4, g5, g6, g7, g8, g9, g10, g11, l1, l2, l3, l4, l5, l6, l7, l8, l9, l10, l11, l12, over, buildV, resOf, resOfs, resOf1, treesOf, treeOf, msgV, msg0, il]
theorem index_loop (l : List Int) (x : Int) (hl : l.length ≤ 1000000) : ∀ (k i ck : Nat), i + k = l.length → ∃ c j, 0 ≤ j ∧ evL cfg (.loop f152l0) ⟨[(0, .t (il l)), (1, iv x), (7, iv l.length), (8, iv i)], [], ck⟩ =
    some (if (l.drop i).contains x then (.ret, ⟨[(4, iv j)], [], c⟩) else (.exit 0, ⟨[(0, .t (il l)), (1, iv x), (7, iv l.length), (8, iv l.length), (9, bv false)], [], c⟩)) := by
  intro k
  induction k with
  | zero =>
    intro i ck h
    obtain rfl : i = l.length := by omega
    refine ⟨ck + 1, 0, Int.le_refl _, ?_⟩
    rw [evL_loop]
    simp [f152l0e]
  | succ k ih =>
    intro i ck h
    have hi : i < l.length := by omega
    by_cases hx : l[i] = x
    · refine ⟨ck + 4, i, by omega, ?_⟩
      rw [evL_loop, contains_at hi hx]
      simp [f152l0e, hi, hx]
    · obtain ⟨c, j, hj, hc⟩ := ih (i + 1) (ck + 4) (by omega)
      refine ⟨c, j, hj, ?_⟩
      rw [evL_loop_n (s1 := ⟨[(0, .t (il l)), (1, iv x), (7, iv l.length), (8, iv ((i + 1 : Nat) : Int))], [], ck + 4⟩), hc, contains_not hi hx]
      have hb : (x == l[i]) = false := by simp; exact fun e => hx e.symm
      have hw : IntKind.i64.wrap ((i : Int) + 1) = (i : Int) + 1 := wrap_id (by omega) (by omega)
      simp [f152l0e, hi, hb, hw]
theorem index_ret (l : List Int) (x : Int) (hl : l.length ≤ 1000000) : ∃ j : Int, (0 ≤ j ↔ x ∈ l) ∧ RetT cfg 152 [.t (il l), iv x] (iv j) := by
  obtain ⟨c, j, hj, hc⟩ := index_loop l x hl l.length 0 2 (by omega)
  simp at hc
  by_cases hx : x ∈ l
  · refine ⟨j, by simp [hx, hj], RetT.of ?_⟩
    rw [runL_pf (fn := f152) rfl rfl]
    simp [hx] at hc
    simp [hc]
  · refine ⟨-1, by simp [hx], RetT.of ?_⟩
    rw [runL_pf (fn := f152) rfl rfl]
    simp [hx] at hc
    simp [hc]
theorem contains_ret (l : List Int) (x : Int) (hl : l.length ≤ 1000000) : RetT cfg 126 [.t (il l), iv x] (bv (l.contains x)) := by
  obtain ⟨j, hj, hr⟩ := index_ret l x hl
  have hc := fun s k => callEv_tr (C := cfg) hr rfl rfl rfl s k
  simp only [il, iv] at hc
  refine RetT.of ?_
  rw [runL_pf (fn := f126) rfl rfl]
  by_cases hx : x ∈ l
  · have h0 : 0 ≤ j := hj.2 hx
    simp [hc, hx, h0]
  · have h0 : ¬ 0 ≤ j := fun h => hx (hj.1 h)
    simp [hc, hx, h0]
def holds (h : List (List Int)) (x n : Int) : Bool := decide (0 ≤ x ∧ x < h.length) && (h.getD x.toNat []).contains n
theorem holds_ret (e : Int) (h : List (List Int)) (x n : Int) (hr : ∀ r ∈ h, r.length ≤ 1000000) : RetT cfg 92 [.ag [iv e, .t (gl h)], iv x, iv n] (bv (holds h x n)) := by
  refine RetT.of ?_
  rw [runL_pf (fn := f92) rfl rfl]
  by_cases h0 : 0 ≤ x
  · by_cases h1 : x < h.length
    · have hx : x.toNat < h.length := by omega
      have hc := fun s k => callEv_tr (C := cfg) (contains_ret h[x.toNat] n (hr _ (List.getElem_mem hx))) rfl rfl rfl s k
      simp only [il, iv, bv] at hc
      simp [gl, holds, h0, h1, hx, hc]
    · simp [gl, holds, h0, h1]
  · simp [gl, holds, h0]
def rowUp : Int → List Int → Bool
  | _, [] => true
  | last, n :: r => decide (last < n) && decide (n ≤ 4) && rowUp n r
def right (e : Int) (h : List (List Int)) : Bool := decide (0 ≤ e ∧ e ≤ 2147483647 ∧ h.length ≤ 8) && h.all fun r => rowUp 0 r && !r.isEmpty
theorem rowUp_at {r : List Int} {j : Nat} (last : Int) (hj : j < r.length) : rowUp last (r.drop j) = (decide (last < r[j]) && decide (r[j] ≤ 4) && rowUp r[j] (r.drop (j + 1))) := by
  rw [List.drop_eq_getElem_cons hj]; rfl
theorem right_row (r : List Int) (g n i : V) (ty : Nat) (bx : List V) (hr : r.length ≤ 1000000) : ∀ (k j : Nat) (last : Int) (ck : Nat), j + k = r.length → ∃ c last', evL cfg (.loop f41l0) ⟨[(1, .pt ⟨1, 0, 0⟩ 2 0 0), (4, .t (il r)), (5, iv last), (9, g), (10, n), (11, i), (15, .t (il r)), (16, iv r.length), (17, iv j)], [(⟨1, 0, 0⟩, .box ty bx)], ck⟩ =
    some (if rowUp last (r.drop j) then (.exit 2, ⟨[(1, .pt ⟨1, 0, 0⟩ 2 0 0), (4, .t (il r)), (5, iv last'), (9, g), (10, n), (11, i), (15, .t (il r)), (16, iv r.length), (17, iv r.length), (18, bv false)], [(⟨1, 0, 0⟩, .box ty bx)], c⟩) else (.ret, ⟨[(2, bv false)], [], c⟩)) := by
  intro k
  induction k with
  | zero =>
    intro j last ck h
    obtain rfl : j = r.length := by omega
    refine ⟨ck + 1, last, ?_⟩
    rw [evL_loop]
    simp [f41l0e, rowUp]
  | succ k ih =>
    intro j last ck h
    have hj : j < r.length := by omega
    have hw : IntKind.i64.wrap ((j : Int) + 1) = (j : Int) + 1 := wrap_id (by omega) (by omega)
    rw [rowUp_at last hj]
    by_cases h1 : r[j] ≤ last
    · refine ⟨ck + 4, 0, ?_⟩
      have h1' : ¬ last < r[j] := by omega
      rw [evL_loop]
      simp [f41l0e, hj, h1, h1']
    · have h1' : last < r[j] := by omega
      by_cases h2 : 4 < r[j]
      · have h2' : ¬ r[j] ≤ 4 := by omega
        refine ⟨ck + 4, 0, ?_⟩
        rw [evL_loop]
        simp [f41l0e, hj, h1, h1', h2, h2']
      · have h2' : r[j] ≤ 4 := by omega
        obtain ⟨c, last', hc⟩ := ih (j + 1) r[j] (ck + 5) (by omega)
        refine ⟨c, last', ?_⟩
        rw [evL_loop_n (s1 := ⟨[(1, .pt ⟨1, 0, 0⟩ 2 0 0), (4, .t (il r)), (5, iv r[j]), (9, g), (10, n), (11, i), (15, .t (il r)), (16, iv r.length), (17, iv ((j + 1 : Nat) : Int))], [(⟨1, 0, 0⟩, .box ty bx)], ck + 5⟩), hc]
        · simp [h1', h2']
        · simp [f41l0e, hj, h1, h2, hw]
theorem right_rows (e : Int) (h : List (List Int)) (ty : Nat) (hh : h.length ≤ 1000000) (hr : ∀ r ∈ h, r.length ≤ 1000000) : ∀ (k i ck : Nat), i + k = h.length → ∃ c, evL cfg (.loop f41l1) ⟨[(1, .pt ⟨1, 0, 0⟩ 2 0 0), (9, .t (gl h)), (10, iv h.length), (11, iv i)], [(⟨1, 0, 0⟩, .box ty [iv e, .t (gl h)])], ck⟩ =
    some (if ((h.drop i).all fun r => rowUp 0 r && !r.isEmpty) then (.exit 0, ⟨[(1, .pt ⟨1, 0, 0⟩ 2 0 0), (9, .t (gl h)), (10, iv h.length), (11, iv h.length), (12, bv false)], [(⟨1, 0, 0⟩, .box ty [iv e, .t (gl h)])], c⟩) else (.ret, ⟨[(2, bv false)], [], c⟩)) := by
  intro k
  induction k with
  | zero =>
    intro i ck hk
    obtain rfl : i = h.length := by omega
    refine ⟨ck + 1, ?_⟩
    rw [evL_loop]
    simp [f41l1e, gl]
  | succ k ih =>
    intro i ck hk
    have hi : i < h.length := by omega
    have hw : IntKind.i64.wrap ((i : Int) + 1) = (i : Int) + 1 := wrap_id (by omega) (by omega)
    have hri := hr _ (List.getElem_mem hi)
    have hall : ((h.drop i).all fun r => rowUp 0 r && !r.isEmpty) = ((rowUp 0 h[i] && !h[i].isEmpty) && ((h.drop (i + 1)).all fun r => rowUp 0 r && !r.isEmpty)) := by
      rw [List.drop_eq_getElem_cons hi]; rfl
    obtain ⟨c0, last', hc0⟩ := right_row h[i] (.t (gl h)) (iv h.length) (iv i) ty [iv e, .t (gl h)] hri h[i].length 0 0 (ck + 4) (by omega)
    simp only [List.drop_zero, gl, il, iv, bv, Int.natCast_zero] at hc0
    by_cases h1 : rowUp 0 h[i] = true
    · rw [if_pos h1] at hc0
      by_cases h2 : h[i].length = 0
      · have h2' : h[i] = [] := List.eq_nil_of_length_eq_zero h2
        refine ⟨c0 + 2, ?_⟩
        have hb : (((h[i].length : Nat) : Int) == 0) = true := by simp [h2]
        rw [evL_loop, hall, if_neg (by simp [h2'])]
        simp [f41l1e, gl, hi, hc0, hb]
      · have h2' : ¬ h[i] = [] := fun e => h2 (by rw [e]; rfl)
        obtain ⟨c, hc⟩ := ih (i + 1) (c0 + 2) (by omega)
        refine ⟨c, ?_⟩
        rw [evL_loop_n (s1 := ⟨[(1, .pt ⟨1, 0, 0⟩ 2 0 0), (9, .t (gl h)), (10, iv h.length), (11, iv ((i + 1 : Nat) : Int))], [(⟨1, 0, 0⟩, .box ty [iv e, .t (gl h)])], c0 + 2⟩), hc]
        · rw [hall]; simp [h1, h2']
        · have hb : (((h[i].length : Nat) : Int) == 0) = false := by simp; exact h2'
          simp [f41l1e, gl, hi, hc0, hb, hw]
    · rw [if_neg h1] at hc0
      refine ⟨c0, ?_⟩
      rw [evL_loop, hall]
      simp [f41l1e, gl, hi, hc0, h1]
theorem pright_ret (e : Int) (h : List (List Int)) (hh : h.length ≤ 1000000) (hr : ∀ r ∈ h, r.length ≤ 1000000) : RetT cfg 41 [.ag [iv e, .t (gl h)]] (bv (right e h)) := by
  obtain ⟨c, hc⟩ := right_rows e h 50 hh hr h.length 0 2 (by omega)
  refine RetT.of ?_
  rw [runL_pf (fn := f41) rfl rfl]
  simp only [List.drop_zero, gl, il, iv, bv, Int.natCast_zero] at hc
  by_cases h1 : (h.all fun r => rowUp 0 r && !r.isEmpty) = true
  · rw [if_pos h1] at hc
    by_cases h2 : 0 ≤ e
    · by_cases h3 : e ≤ 2147483647
      · by_cases h4 : (h.length : Int) ≤ 8
        · have h4' : h.length ≤ 8 := by omega
          simp [gl, hc, right, h1, h2, h3, h4, h4']
        · have h4' : ¬ h.length ≤ 8 := by omega
          simp [gl, hc, right, h1, h2, h3, h4, h4']
      · simp [gl, hc, right, h1, h2, h3]
    · simp [gl, hc, right, h1, h2]
  · rw [if_neg h1] at hc
    simp [gl, hc, right, h1]
theorem sort_call {l : List Int} {ty : Nat} {k : Key} (h0 : 0 < l.length) (hl : l.length ≤ 1000000) (s : St) (k' : Key) (hg : s.hp.get k = some (.row ty 1 (cl l) false)) : callEv cfg (runL cfg) 98 [.ow k 1 0 l.length] s k' = some (.tu [], s.hp.put k k (.row ty 1 (cl (srt l)) false), s.ck + 3) := by
  have hr : runL cfg 98 [.ow k 1 0 l.length] s.hp (s.ck + 1) = some (.tu [], s.hp.put k k (.row ty 1 (cl (srt l)) false), s.ck + 1 + 1) := by
    rw [runL_ex (p := sortP) rfl]
    unfold sortP
    have hi : intsOf (cl l) = some l := intsOf_map l
    have h1 : l.length = (cl l).length ∧ 0 < l.length ∧ l.length ≤ 140737488355328 := ⟨by simp [cl], h0, by omega⟩
    simp only [hg, hi, if_pos h1]
    rfl
  exact callEv_h rfl hr k'
theorem rowUp_sub : ∀ (r : List Int) (last : Int), 0 ≤ last → rowUp last r = true → r.Sublist (([1, 2, 3, 4] : List Int).filter fun n => decide (last < n))
  | [], last, _, _ => List.nil_sublist _
  | n :: r, last, h0, h => by
    simp only [rowUp, Bool.and_eq_true, decide_eq_true_eq] at h
    obtain ⟨⟨h1, h2⟩, h3⟩ := h
    have ih := rowUp_sub r n (by omega) h3
    have hn : n = 1 ∨ n = 2 ∨ n = 3 ∨ n = 4 := by omega
    have hl : last = 0 ∨ last = 1 ∨ last = 2 ∨ last = 3 := by omega
    rcases hn with rfl | rfl | rfl | rfl <;> rcases hl with rfl | rfl | rfl | rfl <;> first | omega | skip
    all_goals
      simp at ih ⊢
      first
        | exact ih
        | exact .cons _ (List.cons_sublist_cons.2 ih)
        | exact .cons _ (.cons _ (List.cons_sublist_cons.2 ih))
        | exact .cons _ (.cons _ (.cons _ (List.cons_sublist_cons.2 ih)))
        | (rw [ih]; exact List.singleton_sublist.2 (by simp))
        | simpa using ih
theorem rowUp_is {r : List Int} (h : rowUp 0 r = true) : r.Sublist [1, 2, 3, 4] := by
  have := rowUp_sub r 0 (by omega) h
  simpa using this
theorem rowUp_len {r : List Int} (h : rowUp 0 r = true) : r.length ≤ 4 := by
  have := (rowUp_is h).length_le
  simpa using this
theorem right_e {e : Int} {h : List (List Int)} (hr : right e h = true) : 0 ≤ e ∧ e ≤ 2147483647 ∧ h.length ≤ 8 := by
  simp only [right, Bool.and_eq_true, decide_eq_true_eq] at hr
  exact hr.1
theorem right_row' {e : Int} {h : List (List Int)} (hr : right e h = true) {r : List Int} (hm : r ∈ h) : rowUp 0 r = true ∧ r ≠ [] := by
  simp only [right, Bool.and_eq_true, List.all_eq_true] at hr
  have := hr.2 r hm
  refine ⟨this.1, fun e => ?_⟩
  rw [e] at this
  simp at this
def may (e : Int) (h : List (List Int)) (x n : Int) : Bool := right e h && decide (0 ≤ x) && decide (x < h.length) && decide (1 ≤ n) && decide (n ≤ 4) && decide (e < 2147483647)
theorem may_ret (e : Int) (h : List (List Int)) (x n : Int) (hh : h.length ≤ 1000000) (hr : ∀ r ∈ h, r.length ≤ 1000000) : RetT cfg 96 [.ag [iv e, .t (gl h)], iv x, iv n] (bv (may e h x n)) := by
  refine RetT.of ?_
  rw [runL_pf (fn := f96) rfl rfl]
  have hc := fun s k => callEv_tr (C := cfg) (pright_ret e h hh hr) rfl rfl rfl s k
  simp only [gl, iv, bv] at hc
  by_cases h1 : right e h = true
  · by_cases h2 : 0 ≤ x
    · by_cases h3 : x < h.length
      · by_cases h4 : 1 ≤ n
        · by_cases h5 : n ≤ 4
          · simp [gl, may, hc, h1, h2, h3, h4, h5]
          · simp [gl, may, hc, h1, h2, h3, h4, h5]
        · simp [gl, may, hc, h1, h2, h3, h4]
      · simp [gl, may, hc, h1, h2, h3]
    · simp [gl, may, hc, h1, h2]
  · simp [gl, may, hc, h1]
theorem clone2_ret (xs : List (List T)) (h : ∀ c ∈ xs, c.length = 1) (hl : xs.length ≤ 1000000) : RetO cfg 44 [.t (.l xs)] 31 1 xs := by
  refine ⟨⟨0, 0, 0⟩, [(⟨0, 0, 0⟩, .row 31 1 xs false)], 9, ?_, by simp [HP.get]⟩
  rw [runL_ex (p := cloneP 31 1 24) rfl]
  unfold cloneP
  have h1 : (xs.all fun c => c.length == 1) = true := List.all_eq_true.2 fun c hc => by simpa using h c hc
  have h2 : xs.length * 24 ≤ 140737488355328 := by omega
  simp only [h1, h2]
  simp
theorem turned_ret (e : Int) (h : List (List Int)) (x : Nat) (l : List Int) (hh : h.length ≤ 1000000) (hx : x < h.length) (he : 0 ≤ e ∧ e < 2147483647) : RetT cfg 99 [.ag [iv e, .t (gl h)], iv x, .t (il l)] (.ag [iv (e + 1), .t (gl (h.set x l))]) := by
  have hc := fun hp k => callO_tr (C := cfg) (clone2_ret (h.map fun r => [il r]) (by simp) (by simpa using hh)) rfl rfl rfl hp k
  have hw : IntKind.i64.wrap (e + 1) = e + 1 := wrap_id (by omega) (by omega)
  simp only [il, iv] at hc
  have hxI : (x : Int) < h.length := by omega
  unfold RetT
  rw [runL_pf (fn := f99) rfl rfl]
  simp [gl, il, hc, hw, hx, hxI, over, buildV, treesC, treesOf, treeOf, keysOf, freezeAll]
  refine ⟨_, _, ⟨rfl, rfl⟩, ?_⟩
  simp [resOf, resOf1, treesOf, treeOf, gl, il, List.map_set, List.take_of_length_le]
def padd (e : Int) (h : List (List Int)) (x n : Int) : Int × List (List Int) × Int := if may e h x n = false then (e, h, 1) else if holds h x n = true then (e, h, 5) else (e + 1, h.set x.toNat (srt (h.getD x.toNat [] ++ [n])), 0)
theorem padd_ret (e : Int) (h : List (List Int)) (x n : Int) (hh : h.length ≤ 1000000) (hr : ∀ r ∈ h, r.length ≤ 100000) : RetT cfg 55 [.ag [iv e, .t (gl h)], iv x, iv n] (.tu [.ag [iv (padd e h x n).1, .t (gl (padd e h x n).2.1)], iv (padd e h x n).2.2]) := by
  have hm := fun s k => callEv_tr (C := cfg) (may_ret e h x n hh (fun r hm => by have := hr r hm; omega)) rfl rfl rfl s k
  have hho := fun s k => callEv_tr (C := cfg) (holds_ret e h x n (fun r hm => by have := hr r hm; omega)) rfl rfl rfl s k
  simp only [gl, il, iv, bv] at hm hho
  unfold RetT
  rw [runL_pf (fn := f55) rfl rfl]
  unfold padd
  by_cases h1 : may e h x n = false
  · rw [if_pos h1]
    simp [gl, il, hm, h1, over]
    refine ⟨_, _, ⟨rfl, rfl⟩, ?_⟩
    simp [resOf, resOfs, resOf1, treesOf, treeOf, gl, il]
  · rw [if_neg h1]
    have h1' : may e h x n = true := by simpa using h1
    by_cases h2 : holds h x n = true
    · rw [if_pos h2]
      simp [gl, il, hm, hho, h1', h2, over]
      refine ⟨_, _, ⟨rfl, rfl⟩, ?_⟩
      simp [resOf, resOfs, resOf1, treesOf, treeOf, gl, il]
    · rw [if_neg h2]
      have h2' : holds h x n = false := by simpa using h2
      have hp := h1'
      simp only [may, Bool.and_eq_true, decide_eq_true_eq] at hp
      obtain ⟨⟨⟨⟨⟨p1, p2⟩, p3⟩, p4⟩, p5⟩, p6⟩ := hp
      have p0 := (right_e p1).1
      obtain ⟨y, rfl⟩ : ∃ y : Nat, x = y := ⟨x.toNat, by omega⟩
      have hy : y < h.length := by omega
      have hry := hr _ (List.getElem_mem hy)
      have hgd : h.getD y [] = h[y] := by simp [List.getD_eq_getElem?_getD, List.getElem?_eq_getElem hy]
      have hcl := fun s k => callEv_tro (C := cfg) (clone_ret (h[y].map fun n => [.i .i64 n]) (by simp) (by simpa using (by omega : h[y].length ≤ 1000000))) rfl rfl rfl s k
      have hso := fun (k : Key) => sort_call (l := h[y] ++ [n]) (ty := 3) (k := k) (by simp) (by simp; omega)
      have hsl : (srt (h[y] ++ [n])).length = h[y].length + 1 := by simp [srt]
      have hT : ∀ (s : St) (k1 k : Key), s.hp.get k1 = some (.row 3 1 (cl (srt (h[y] ++ [n]))) false) → callEv cfg (runL cfg) 99 [.ag [iv e, .t (gl h)], iv y, .ow k1 1 0 (h[y].length + 1)] s k = some (.ag [iv (e + 1), .t (gl (h.set y (srt (h[y] ++ [n]))))], freezeAll s.hp [k1], s.ck) := fun s k1 k hg => by
        have hps : puresOf s.hp [.ag [iv e, .t (gl h)], iv y, .ow k1 1 0 (h[y].length + 1)] = some [.ag [iv e, .t (gl h)], iv y, .t (il (srt (h[y] ++ [n])))] := by
          have ht : List.take (h[y].length + 1) (cl (srt (h[y] ++ [n]))) = cl (srt (h[y] ++ [n])) := List.take_of_length_le (by simp [cl, hsl])
          simp [puresOf, pureOf, treesOf, treeOf, hg, ht, gl, il, cl, hsl]
          simpa [cl] using ht
        exact callEv_k (C := cfg) (k := k) rfl rfl hps (turned_ret e h y (srt (h[y] ++ [n])) hh hy ⟨p0, p6⟩) rfl
      simp only [gl, il, iv, bv, cl, List.length_append, List.length_cons, List.length_nil, List.map_append, List.map_cons, List.map_nil] at hcl hso hT
      have hb : ((h[y].length : Int) + 1) * 8 ≤ 140737488355328 := by omega
      have hbn : (h[y].length + 1) * 8 ≤ 140737488355328 := by omega
      simp [gl, il, hm, hho, h1', h2', hy, hcl, over, rowsOf, keysOfs, treesC, treesOf, treeOf, freezeAll, app, elsOf, hbn, hso, hT, hsl, freeze1]
      refine ⟨_, _, ⟨rfl, rfl⟩, ?_⟩
      simp [resOf, resOfs, resOf1, treesOf, treeOf, gl, il, hgd]
def lay0 : Lay := ⟨[], [], 0⟩
def exp0 : Exp := ⟨[], []⟩
def layAt (m : Mod) (i : Int) : Lay := m.lays.getD i.toNat lay0
def expAt (l : Lay) (i : Int) : Exp := l.exps.getD i.toNat exp0
def mapV (e : Int) (h : List (List Int)) : V := .ag [iv e, .t (gl h)]
def fitsP (m : Mod) (pe : Int) (ph : List (List Int)) (node : Int) (a : Msg) : Bool :=
  modRight m && right pe ph && wrightM a && decide (a.kind = 1) && decide (a.to = node) && decide (a.layer < m.lays.length) && decide (a.expert < (layAt m a.layer).exps.length) && tokRight m [a.vec]
theorem wright_num {a : Msg} (h : wrightM a = true) : (0 ≤ a.layer ∧ a.layer ≤ 2147483647) ∧ (0 ≤ a.expert ∧ a.expert ≤ 2147483647) ∧ (0 ≤ a.token ∧ a.token ≤ 2147483647) ∧ (0 ≤ a.rank ∧ a.rank ≤ 2147483647) ∧ (0 ≤ a.epoch ∧ a.epoch ≤ 2147483647) ∧ a.vec.length ≤ 8 ∧ (0 ≤ a.to ∧ a.to ≤ 2147483647) ∧ (0 ≤ a.fr ∧ a.fr ≤ 2147483647) ∧ (0 ≤ a.batch ∧ a.batch ≤ 2147483647) := by
  simp only [wrightM, nums, okN, List.all_cons, List.all_nil, Bool.and_eq_true, decide_eq_true_eq] at h
  omega
theorem fits_ret (m : Mod) (pe : Int) (ph : List (List Int)) (node : Int) (a : Msg) (hm : FewM m) (hh : ph.length ≤ 1000000) (hr : ∀ r ∈ ph, r.length ≤ 1000000) (hv : a.vec.length ≤ 1000000) : RetT cfg 91 [modV m, mapV pe ph, iv node, msgV a] (bv (fitsP m pe ph node a)) := by
  have h1 := fun hp => callQ_tr (C := cfg) (mod_ret m hm) rfl hp
  have h2 := fun hp => callQ_tr (C := cfg) (pright_ret pe ph hh hr) rfl hp
  have h3 := fun hp => callQ_tr (C := cfg) (wright_ret a hv) rfl hp
  have h4 := fun hp => callQ_tr (C := cfg) (tok_ret m [a.vec] ⟨by simp, by simpa using hv⟩) rfl hp
  have e : fitsP m pe ph node a = (modRight m && right pe ph && wrightM a && decide (a.kind = 1) && decide (a.to = node) && decide (a.layer < m.lays.length) && decide (a.expert < (layAt m a.layer).exps.length) && tokRight m [a.vec]) := rfl
  rw [e]
  have hw := fun h => wright_num (a := a) h
  refine RetT.of ?_
  rw [runL_pf (fn := f91) rfl rfl]
  generalize modRight m = b1 at *
  generalize right pe ph = b2 at *
  generalize tokRight m [a.vec] = b4 at *
  generalize wrightM a = b3 at *
  simp only [modV, laysT, msgV, gl, il, iv, bv] at h1 h2 h3 h4
  simp only [mapV, modV, laysT, msgV, gl]
  cases b1 with
  | false => simp [h1]
  | true =>
  cases b2 with
  | false => simp [h1, h2]
  | true =>
  cases b3 with
  | false => simp [h1, h2, h3]
  | true =>
  obtain ⟨w1, w2, -⟩ := hw rfl
  by_cases c1 : a.kind = 1
  case neg =>
    have d1 : (a.kind == 1) = false := by simp [c1]
    rw [decide_eq_false c1]
    simp [h1, h2, h3, d1]
  have d1 : (a.kind == 1) = true := by simp [c1]
  rw [decide_eq_true c1]
  by_cases c2 : a.to = node
  case neg =>
    have d2 : (a.to == node) = false := by simp [c2]
    rw [decide_eq_false c2]
    simp [h1, h2, h3, d1, d2]
  have d2 : (a.to == node) = true := by simp [c2]
  rw [decide_eq_true c2]
  by_cases c3 : a.layer < m.lays.length
  case neg => simp [h1, h2, h3, d1, d2, c3]
  obtain ⟨j, hj⟩ : ∃ j : Nat, a.layer = j := ⟨a.layer.toNat, by omega⟩
  have hjl : j < m.lays.length := by omega
  have hla : layAt m j = m.lays[j] := by simp [layAt, List.getD_eq_getElem?_getD, hjl]
  rw [hj] at h3 c3 ⊢
  rw [hla]
  by_cases c4 : a.expert < m.lays[j].exps.length
  case neg => simp [h1, h2, h3, d1, d2, c3, c4, hjl, layT]
  simp at h4
  simp [h1, h2, h3, h4, d1, d2, c3, c4, hjl, layT, rowsOf, keysOfs, treesC, treesOf, treeOf]
def keyOf (a : Msg) : LKey := ⟨a.batch, a.layer, a.token, a.rank⟩
def staleOf (pe node : Int) (a : Msg) : Msg := { a with kind := 3, fr := node, to := a.fr, epoch := pe, vec := [] }
def answerOf (pe node : Int) (a : Msg) (v : List Int) : Msg := { a with kind := 2, fr := node, to := a.fr, epoch := pe, vec := v }
def workV (m : Mod) (l : List Ent) (a : Msg) : List Int := if (findP l (keyOf a)).2 then (findP l (keyOf a)).1 else runP (expAt (layAt m a.layer) a.expert) a.vec
def workL (m : Mod) (l : List Ent) (a : Msg) : List Ent := if (findP l (keyOf a)).2 then l else l ++ [⟨keyOf a, workV m l a⟩]
def workP (m : Mod) (pe : Int) (ph : List (List Int)) (node : Int) (l : List Ent) (a : Msg) : List Ent × Msg × Bool :=
  if fitsP m pe ph node a = false then (l, msg0, false)
  else if a.epoch ≠ pe ∨ holds ph a.expert node = false then (l, staleOf pe node a, true)
  else (workL m l a, answerOf pe node a (workV m l a), true)
theorem fits_exp {m : Mod} {pe : Int} {ph : List (List Int)} {node : Int} {a : Msg} (h : fitsP m pe ph node a = true) : ∃ (i : Nat) (hi : i < m.lays.length) (j : Nat) (hj : j < (m.lays[i]).exps.length), a.layer = i ∧ a.expert = j ∧ exRight (m.lays[i].exps[j]) a.vec.length = true ∧ layAt m a.layer = m.lays[i] ∧ expAt (layAt m a.layer) a.expert = m.lays[i].exps[j] := by
  simp only [fitsP, Bool.and_eq_true, decide_eq_true_eq] at h
  obtain ⟨⟨⟨⟨⟨⟨⟨h1, h2⟩, h3⟩, h4⟩, h5⟩, h6⟩, h7⟩, h8⟩ := h
  obtain ⟨w1, w2, -⟩ := wright_num h3
  obtain ⟨i, hi⟩ : ∃ i : Nat, a.layer = i := ⟨a.layer.toNat, by omega⟩
  obtain ⟨j, hj⟩ : ∃ j : Nat, a.expert = j := ⟨a.expert.toNat, by omega⟩
  have hil : i < m.lays.length := by omega
  have hla : layAt m a.layer = m.lays[i] := by rw [hi]; simp [layAt, List.getD_eq_getElem?_getD, hil]
  rw [hla] at h7
  have hjl : j < m.lays[i].exps.length := by omega
  have hea : expAt (layAt m a.layer) a.expert = m.lays[i].exps[j] := by rw [hla, hj]; simp [expAt, List.getD_eq_getElem?_getD, hjl]
  refine ⟨i, hil, j, hjl, hi, hj, ?_, hla, hea⟩
  simp only [modRight, Bool.and_eq_true, decide_eq_true_eq, List.all_eq_true] at h1
  have hl := h1.2 _ (List.getElem_mem hil)
  simp only [layRight, Bool.and_eq_true, decide_eq_true_eq, List.all_eq_true] at hl
  have hx := hl.2 _ (List.getElem_mem hjl)
  simp only [tokRight, Bool.and_eq_true, decide_eq_true_eq, List.all_eq_true] at h8
  have := (h8.2 a.vec (by simp)).1
  rw [this]
  exact hx
set_option maxHeartbeats 4000000 in
theorem work_ret (m : Mod) (pe : Int) (ph : List (List Int)) (node : Int) (l : List Ent) (a : Msg) (hm : FewM m) (hh : ph.length ≤ 1000000) (hr : ∀ r ∈ ph, r.length ≤ 1000000) (hv : a.vec.length ≤ 1000000) (hl : l.length ≤ 900000) (hlv : ∀ e ∈ l, e.vec.length ≤ 1000000) : RetT cfg 53 [modV m, mapV pe ph, iv node, .t (enl l), msgV a] (.tu [.t (enl (workP m pe ph node l a).1), msgV (workP m pe ph node l a).2.1, bv (workP m pe ph node l a).2.2]) := by
  have hF := fun s k => callEv_tr (C := cfg) (fits_ret m pe ph node a hm hh hr hv) rfl rfl rfl s k
  have hH := fun s k => callEv_tr (C := cfg) (holds_ret pe ph a.expert node hr) rfl rfl rfl s k
  have hD := fun s k => callEv_tr (C := cfg) (find_ret l (keyOf a) (by omega) hlv) rfl rfl rfl s k
  rw [retT_r, runL_pf (fn := f53) rfl rfl]
  unfold workP
  by_cases c1 : fitsP m pe ph node a = false
  · rw [c1] at hF
    rw [if_pos c1]
    simp only [mapV, modV, laysT, msgV, enl, gl, il, iv, bv] at hF
    simp [mapV, modV, laysT, msgV, msg0, enl, gl, hF, over, buildV, resOf, resOfs, resOf1, treesOf, treeOf]
  have c1' : fitsP m pe ph node a = true := by simpa using c1
  rw [c1'] at hF
  rw [if_neg c1]
  obtain ⟨i, hi, j, hj, ei, ej, hx, hla, hea⟩ := fits_exp c1'
  by_cases c2 : a.epoch = pe
  case neg =>
    have d2 : (a.epoch != pe) = true := by simp [c2]
    rw [if_pos (.inl c2)]
    simp only [mapV, modV, laysT, msgV, enl, gl, il, iv, bv] at hF
    simp [mapV, modV, laysT, msgV, staleOf, enl, gl, hF, d2, inSites, over, buildV, resOf, resOfs, resOf1, treesOf, treeOf]
  have d2 : (a.epoch != pe) = false := by simp [c2]
  by_cases c3 : holds ph a.expert node = false
  · rw [c3] at hH
    rw [if_pos (.inr c3)]
    simp only [mapV, modV, laysT, msgV, enl, gl, il, iv, bv] at hF hH
    simp [mapV, modV, laysT, msgV, staleOf, enl, gl, hF, hH, d2, inSites, over, buildV, resOf, resOfs, resOf1, treesOf, treeOf]
  have c3' : holds ph a.expert node = true := by simpa using c3
  rw [c3'] at hH
  rw [if_neg (by rintro (h | h); · exact h c2
                 · exact c3 h)]
  have hfx := (hm.2 _ (List.getElem_mem hi)).2.2 _ (List.getElem_mem hj)
  have hR := fun hp => callQ_tr (C := cfg) (run_ret m.lays[i].exps[j] a.vec hfx.1 hfx.2) rfl hp
  rw [hx] at hR
  have hwl : (workV m l a).length ≤ 1000000 := by
    unfold workV
    split
    · unfold findP
      split
      · simp
      · rename_i h
        have hlt := fidx_lt (atKey (keyOf a)) l
        have hq : (fidx (atKey (keyOf a)) l).toNat < l.length := by omega
        have : l.getD (fidx (atKey (keyOf a)) l).toNat ent0 = l[(fidx (atKey (keyOf a)) l).toNat] := by simp [List.getD_eq_getElem?_getD, hq]
        simp only [this]
        exact hlv _ (List.getElem_mem hq)
    · rw [hea]
      simp only [runP, scoresP, List.length_map]
      exact hfx.2.1
  have hE := fun s k => callEv_tr (C := cfg) (enter_ret l (keyOf a) (workV m l a) (by omega) hlv hwl) rfl rfl rfl s k
  have hen : (findP l (keyOf a)).2 = false → entP l (keyOf a) (workV m l a) = (l ++ [⟨keyOf a, workV m l a⟩], true) := fun h => by unfold entP; rw [h]; rfl
  have hv1 : (findP l (keyOf a)).2 = true → workV m l a = (findP l (keyOf a)).1 := fun h => by unfold workV; rw [if_pos h]
  have hv2 : (findP l (keyOf a)).2 = false → workV m l a = runP m.lays[i].exps[j] a.vec := fun h => by unfold workV; rw [h, hea]; rfl
  unfold workL
  generalize entP l (keyOf a) (workV m l a) = en at *
  generalize workV m l a = w at *
  generalize findP l (keyOf a) = r at *
  obtain ⟨v0, ok⟩ := r
  have hgl : (m.lays.map layT)[i]? = some (layT m.lays[i]) := by simp [hi]
  have hgx : (m.lays[i].exps.map exT)[j]? = some (exT m.lays[i].exps[j]) := by simp [hj]
  clear hla hea hx hwl c1 c1' c3 c3' hfx hr hh hm hlv
  generalize hLi : m.lays[i] = L at *
  generalize hXj : L.exps[j] = X at *
  obtain ⟨a1, a2, a3, a4, a5, a6, a7, a8, a9, a10, a11⟩ := a
  simp only at ei ej c2 d2 hv2 hR
  subst ei ej c2
  simp only [mapV, modV, laysT, msgV, keyOf, keyV, enl, exV, gl, il, iv, bv, if_true] at hF hH hD hE hR
  cases ok with
  | true =>
    have := hv1 rfl
    subst this
    simp [mapV, modV, laysT, msgV, keyOf, answerOf, enl, gl, hF, hH, hD, d2, inSites, over, buildV, resOf, resOfs, resOf1, treesOf, treeOf]
  | false =>
    have hw := hv2 rfl
    have hen := hen rfl
    subst hen
    subst hw
    simp only at hE
    simp [mapV, modV, laysT, msgV, keyOf, answerOf, enl, gl, layT, exT, hF, hH, hD, hE, hR, hi, hj, hLi, hXj, d2, inSites, over, buildV, resOf, resOfs, resOf1, treesOf, treeOf]
section
theorem mget_mset (es : List (Int × V)) (n m : Int) (v : V) : mget (mset es n v) m = if n = m then some v else mget es m := by
  induction es with
  | nil => simp [mset, mget]
  | cons a r ih =>
    obtain ⟨a, x⟩ := a
    simp only [mset]
    by_cases h : a = n
    · subst h
      rw [if_pos rfl]
      simp only [mget]
      by_cases h2 : a = m
      · simp [h2]
      · simp [h2]
    · rw [if_neg h]
      simp only [mget]
      by_cases h2 : a = m
      · subst h2
        rw [if_pos rfl, if_neg (fun e => h e.symm), if_pos rfl]
      · rw [if_neg h2, if_neg h2, ih]
abbrev Cnt := Int → Int
def may1 (experts cap : Int) (g : Cnt) (x : Int) : Bool := decide (0 ≤ x) && decide (x < experts) && decide (g x < cap)
def slot1 (experts cap : Int) (g : Cnt) (x : Int) : Int := if may1 experts cap g x then g x else -1
def give1 (experts cap : Int) (g : Cnt) (x : Int) : Cnt := if may1 experts cap g x then fun y => if y = x then g x + 1 else g y else g
def asg (experts cap : Int) : Cnt → List (Int × Int) → List (Int × Int)
  | _, [] => []
  | g, c :: r => (slot1 experts cap g c.1, slot1 experts cap (give1 experts cap g c.1) c.2) :: asg experts cap (give1 experts cap (give1 experts cap g c.1) c.2) r
def asgC (experts cap : Int) : Cnt → List (Int × Int) → Cnt
  | g, [] => g
  | g, c :: r => asgC experts cap (give1 experts cap (give1 experts cap g c.1) c.2) r
theorem asg_len (e k : Int) : ∀ (l : List (Int × Int)) (g : Cnt), (asg e k g l).length = l.length
  | [], g => rfl
  | c :: r, g => by simp only [asg, List.length_cons, asg_len e k r]
theorem asg_app (e k : Int) : ∀ (l : List (Int × Int)) (g : Cnt) (c : Int × Int), asg e k g (l ++ [c]) = asg e k g l ++ [(slot1 e k (asgC e k g l) c.1, slot1 e k (give1 e k (asgC e k g l) c.1) c.2)] ∧ asgC e k g (l ++ [c]) = give1 e k (give1 e k (asgC e k g l) c.1) c.2
  | [], g, c => ⟨rfl, rfl⟩
  | d :: r, g, c => by
    obtain ⟨h1, h2⟩ := asg_app e k r (give1 e k (give1 e k g d.1) d.2) c
    exact ⟨by simp only [List.cons_append, asg, h1, asgC], by simp only [List.cons_append, asgC, h2]⟩
theorem asg_take (e k : Int) (l : List (Int × Int)) (g : Cnt) (i : Nat) (hi : i < l.length) : asg e k g (l.take (i + 1)) = asg e k g (l.take i) ++ [(slot1 e k (asgC e k g (l.take i)) l[i].1, slot1 e k (give1 e k (asgC e k g (l.take i)) l[i].1) l[i].2)] ∧ asgC e k g (l.take (i + 1)) = give1 e k (give1 e k (asgC e k g (l.take i)) l[i].1) l[i].2 := by
  rw [List.take_succ_eq_append_getElem hi]
  exact asg_app e k _ g _
theorem cnt_le (e k : Int) : ∀ (l : List (Int × Int)) (g : Cnt) (x b : Int), (∀ y, g y ≤ b) → asgC e k g l x ≤ b + 2 * l.length
  | [], g, x, b, h => by have := h x; simp [asgC]; omega
  | c :: r, g, x, b, h => by
    have g1 : ∀ (g : Cnt) (b z : Int), (∀ y, g y ≤ b) → ∀ y, give1 e k g z y ≤ b + 1 := by
      intro g b z hg y
      unfold give1
      split
      · simp only
        split
        · have := hg z; omega
        · have := hg y; omega
      · have := hg y; omega
    have := cnt_le e k r _ x (b + 1 + 1) (g1 _ _ c.2 (g1 g b c.1 h))
    simp only [asgC, List.length_cons]
    omega
theorem cnt_ge (e k : Int) : ∀ (l : List (Int × Int)) (g : Cnt) (x : Int), (∀ y, 0 ≤ g y) → 0 ≤ asgC e k g l x
  | [], g, x, h => h x
  | c :: r, g, x, h => by
    have g1 : ∀ (g : Cnt) (z : Int), (∀ y, 0 ≤ g y) → ∀ y, 0 ≤ give1 e k g z y := by
      intro g z hg y
      unfold give1
      split
      · simp only
        split
        · have := hg z; omega
        · exact hg y
      · exact hg y
    exact cnt_ge e k r _ x (g1 _ c.2 (g1 g c.1 h))
def prT (c : Int × Int) : List T := [.i .i64 c.1, .i .i64 c.2]
def prl (l : List (Int × Int)) : T := .l (l.map prT)
def Says (es : List (Int × V)) (g : Cnt) : Prop := ∀ x, (mget es x).getD (.t (.i .i64 0)) = .t (.i .i64 (g x))
theorem says_set {es : List (Int × V)} {g : Cnt} (h : Says es g) (x n : Int) : Says (mset es x (.t (.i .i64 n))) (fun y => if y = x then n else g y) := by
  intro y
  rw [mget_mset]
  by_cases e : x = y
  · subst e; simp
  · rw [if_neg e]; simp only [if_neg (fun q : y = x => e q.symm)]; exact h y
section
variable {ty : Nat} {e k : Int} {g : Cnt} {es : List (Int × V)} {r8 : Ob} {v8 v15 v16 v17 : V}
theorem as0 (a b : Int) (hs : Says es g) (hg : ∀ x, 0 ≤ g x ∧ g x ≤ 1000000000) (c c8 o8 ck : Nat) : ∃ es' ck', Says es' (give1 e k g a) ∧ evL cfg f120l0 ⟨[(1, iv e), (2, iv k), (7, .mp ⟨14, 1, 0⟩), (8, v8), (11, .pt ⟨11, c, 1⟩ 2 0 0), (15, v15), (16, v16), (17, v17), (22, .ag [iv a, iv b]), (23, iv 0)], [(⟨11, c, 1⟩, .box ty [iv (-1), iv (-1)]), (⟨8, c8, o8⟩, r8), (⟨14, 1, 0⟩, .mp es)], ck⟩ =
    some (.normal, ⟨[(1, iv e), (2, iv k), (7, .mp ⟨14, 1, 0⟩), (8, v8), (11, .pt ⟨11, c, 1⟩ 2 0 0), (15, v15), (16, v16), (17, v17), (22, .ag [iv a, iv b]), (23, iv 1)], [(⟨11, c, 1⟩, .box ty [iv (slot1 e k g a), iv (-1)]), (⟨8, c8, o8⟩, r8), (⟨14, 1, 0⟩, .mp es')], ck'⟩) := by
  have w1 : IntKind.i64.wrap 1 = 1 := by decide
  have hw : IntKind.i64.wrap (g a + 1) = g a + 1 := wrap_id (by have := hg a; omega) (by have := hg a; omega)
  have hsa := hs a
  by_cases p1 : a < 0
  · have hm : may1 e k g a = false := by simp [may1]; omega
    simp only [give1, slot1, hm, Bool.false_eq_true, if_false]
    simp [f120l0e, p1, w1]
    exact hs
  by_cases p2 : e ≤ a
  · have hm : may1 e k g a = false := by simp [may1]; omega
    simp only [give1, slot1, hm, Bool.false_eq_true, if_false]
    simp [f120l0e, p1, p2, w1]
    exact hs
  by_cases p3 : k ≤ g a
  · have hm : may1 e k g a = false := by simp [may1]; omega
    simp only [give1, slot1, hm, Bool.false_eq_true, if_false]
    simp [f120l0e, p1, p2, p3, mlk, hsa, w1]
    exact hs
  · have hm : may1 e k g a = true := by simp [may1]; omega
    simp only [give1, slot1, hm, if_true]
    simp [f120l0e, p1, p2, p3, mlk, mup, hsa, w1, hw, over]
    exact says_set hs a (g a + 1)
theorem as1 (b a s0 : Int) (hs : Says es g) (hg : ∀ x, 0 ≤ g x ∧ g x ≤ 1000000000) (c c8 o8 ck : Nat) : ∃ es' ck', Says es' (give1 e k g a) ∧ evL cfg f120l0 ⟨[(1, iv e), (2, iv k), (7, .mp ⟨14, 1, 0⟩), (8, v8), (11, .pt ⟨11, c, 1⟩ 2 0 0), (15, v15), (16, v16), (17, v17), (22, .ag [iv b, iv a]), (23, iv 1)], [(⟨11, c, 1⟩, .box ty [iv s0, iv (-1)]), (⟨8, c8, o8⟩, r8), (⟨14, 1, 0⟩, .mp es)], ck⟩ =
    some (.normal, ⟨[(1, iv e), (2, iv k), (7, .mp ⟨14, 1, 0⟩), (8, v8), (11, .pt ⟨11, c, 1⟩ 2 0 0), (15, v15), (16, v16), (17, v17), (22, .ag [iv b, iv a]), (23, iv 2)], [(⟨11, c, 1⟩, .box ty [iv s0, iv (slot1 e k g a)]), (⟨8, c8, o8⟩, r8), (⟨14, 1, 0⟩, .mp es')], ck'⟩) := by
  have w1 : IntKind.i64.wrap 2 = 2 := by decide
  have hw : IntKind.i64.wrap (g a + 1) = g a + 1 := wrap_id (by have := hg a; omega) (by have := hg a; omega)
  have hsa := hs a
  by_cases p1 : a < 0
  · have hm : may1 e k g a = false := by simp [may1]; omega
    simp only [give1, slot1, hm, Bool.false_eq_true, if_false]
    simp [f120l0e, p1, w1]
    exact hs
  by_cases p2 : e ≤ a
  · have hm : may1 e k g a = false := by simp [may1]; omega
    simp only [give1, slot1, hm, Bool.false_eq_true, if_false]
    simp [f120l0e, p1, p2, w1]
    exact hs
  by_cases p3 : k ≤ g a
  · have hm : may1 e k g a = false := by simp [may1]; omega
    simp only [give1, slot1, hm, Bool.false_eq_true, if_false]
    simp [f120l0e, p1, p2, p3, mlk, hsa, w1]
    exact hs
  · have hm : may1 e k g a = true := by simp [may1]; omega
    simp only [give1, slot1, hm, if_true]
    simp [f120l0e, p1, p2, p3, mlk, mup, hsa, w1, hw, over]
    exact says_set hs a (g a + 1)
theorem give_in {z : Int} (hg : ∀ x, 0 ≤ g x ∧ g x ≤ 1000000) : ∀ x, 0 ≤ give1 e k g z x ∧ give1 e k g z x ≤ 1000001 := by
  intro y
  unfold give1
  split
  · simp only
    split
    · have := hg z; omega
    · have := hg y; omega
  · have := hg y; omega
theorem as_in (a b : Int) (hs : Says es g) (hg : ∀ x, 0 ≤ g x ∧ g x ≤ 1000000) (c c8 o8 ck : Nat) : ∃ es' ck', Says es' (give1 e k (give1 e k g a) b) ∧ evL cfg (.loop f120l0) ⟨[(1, iv e), (2, iv k), (7, .mp ⟨14, 1, 0⟩), (8, v8), (11, .pt ⟨11, c, 1⟩ 2 0 0), (15, v15), (16, v16), (17, v17), (22, .ag [iv a, iv b]), (23, iv 0)], [(⟨11, c, 1⟩, .box ty [iv (-1), iv (-1)]), (⟨8, c8, o8⟩, r8), (⟨14, 1, 0⟩, .mp es)], ck⟩ =
    some (.exit 2, ⟨[(1, iv e), (2, iv k), (7, .mp ⟨14, 1, 0⟩), (8, v8), (11, .pt ⟨11, c, 1⟩ 2 0 0), (15, v15), (16, v16), (17, v17), (22, .ag [iv a, iv b]), (23, iv 2), (24, bv false)], [(⟨11, c, 1⟩, .box ty [iv (slot1 e k g a), iv (slot1 e k (give1 e k g a) b)]), (⟨8, c8, o8⟩, r8), (⟨14, 1, 0⟩, .mp es')], ck'⟩) := by
  obtain ⟨e1, k1, h1, h2⟩ := as0 (ty := ty) (e := e) (k := k) (r8 := r8) (v8 := v8) (v15 := v15) (v16 := v16) (v17 := v17) a b hs (fun x => by have := hg x; omega) c c8 o8 ck
  obtain ⟨e2, k2, h3, h4⟩ := as1 (ty := ty) (e := e) (k := k) (r8 := r8) (v8 := v8) (v15 := v15) (v16 := v16) (v17 := v17) a b (slot1 e k g a) h1 (fun x => by have := give_in (e := e) (k := k) (z := a) hg x; omega) c c8 o8 k1
  refine ⟨e2, k2 + 1, h3, ?_⟩
  rw [evL_loop_n h2, evL_loop_n h4, evL_loop]
  simp [f120l0e]
end
def g0 : Cnt := fun _ => 0
def asI (e k : Int) (l : List (Int × Int)) (i : Nat) (s : St) : Prop := ∃ c8 o8 ck els es, els = (asg e k g0 (l.take i)).map prT ∧ Says es (asgC e k g0 (l.take i)) ∧ s = ⟨[(1, iv e), (2, iv k), (7, .mp ⟨14, 1, 0⟩), (8, .ow ⟨8, c8, o8⟩ 2 0 i), (15, .t (prl l)), (16, iv l.length), (17, iv (i : Int))], [(⟨8, c8, o8⟩, .row 115 2 els false), (⟨14, 1, 0⟩, .mp es)], ck⟩
def asQ (e k : Int) (l : List (Int × Int)) (E : Option (Ex × St)) : Prop := ∃ c8 o8 ck v r, E = some (.exit 0, ⟨[(1, iv e), (2, iv k), (7, .mp ⟨14, 1, 0⟩), (8, .ow ⟨8, c8, o8⟩ 2 0 l.length), (15, .t (prl l)), (16, iv l.length), (17, iv l.length), (18, v)], (⟨8, c8, o8⟩, .row 115 2 ((asg e k g0 l).map prT) false) :: r, ck⟩)
theorem assign_ret (l : List (Int × Int)) (e k : Int) (hl : l.length ≤ 100000) : RetT cfg 120 [.t (prl l), iv e, iv k] (.t (prl (asg e k g0 l))) := by
  have hL : ∀ ck c8 o8, asQ e k l (evL cfg (.loop f120l1) ⟨[(1, iv e), (2, iv k), (7, .mp ⟨14, 1, 0⟩), (8, .ow ⟨8, c8, o8⟩ 2 0 0), (15, .t (prl l)), (16, iv l.length), (17, iv 0)], [(⟨8, c8, o8⟩, .row 115 2 [] false), (⟨14, 1, 0⟩, .mp [])], ck⟩) := by
    intro ck c8 o8
    refine loop_q l.length (asI e k l) ?_ ?_ _ ⟨c8, o8, ck, [], [], rfl, fun x => rfl, rfl⟩
    · rintro i s hi ⟨c8, o8, ck, els, es, h1, h2, rfl⟩
      have hw : IntKind.i64.wrap ((i : Int) + 1) = (i : Int) + 1 := wrap_id (by omega) (by omega)
      obtain ⟨t1, t2⟩ := asg_take e k l g0 i hi
      have hlen : els.length = i := by rw [h1]; simp [asg_len]; omega
      have hb : (i + 1) * 16 ≤ 140737488355328 := by omega
      have hgi : ∀ x, 0 ≤ asgC e k g0 (l.take i) x ∧ asgC e k g0 (l.take i) x ≤ 1000000 := fun x => by
        have a1 := cnt_le e k (l.take i) g0 x 0 (fun y => Int.le_refl _)
        have a2 := cnt_ge e k (l.take i) g0 x (fun y => Int.le_refl _)
        have : (l.take i).length ≤ 100000 := by simp; omega
        omega
      generalize asgC e k g0 (l.take i) = g at *
      obtain ⟨es', ck', h3, h4⟩ := as_in (ty := 115) (e := e) (k := k) (es := es) (r8 := .row 115 2 els false) (v8 := .ow ⟨8, c8, o8⟩ 2 0 i) (v15 := .t (prl l)) (v16 := iv l.length) (v17 := iv i) l[i].1 l[i].2 h2 hgi (ck + 1 + 1) c8 o8 (ck + 1 + 1 + 1 + 1)
      simp [prl, prT] at h4
      simp [f120l1e, prl, prT, hi, hw, h4, rowsOf, keysOfs, treesC, treesOf, treeOf, keysOf1, freezeAll, app, elsOf, over, buildV, hb, hlen]
      exact ⟨_, _, _, _, _, by rw [t1, h1]; simp [prT], by rw [t2]; exact h3, rfl⟩
    · rintro s ⟨c8, o8, ck, els, es, h1, h2, rfl⟩
      rw [List.take_length] at h1
      subst h1
      simp [f120l1e]
      exact ⟨_, _, _, _, _, rfl⟩
  obtain ⟨c8, o8, ck, v, r, hc⟩ := hL 4 2 0
  simp [prl] at hc
  rw [retT_r, runL_pf (fn := f120) rfl rfl]
  simp [prl, hc, resOf, resOf1, treeOf, List.take_of_length_le, asg_len]
end
section
structure Pt where
  token : Int
  rank : Int
  expert : Int
  weight : Int
  deriving DecidableEq
def ptT (p : Pt) : List T := [.i .i64 p.token, .i .i64 p.rank, .i .i64 p.expert, .i .i64 p.weight]
def ptl (l : List Pt) : T := .l (l.map ptT)
def pt0 (t : Nat) (c : Cho) (s : Int) : List Pt := if 0 ≤ s then [⟨t, 0, c.first, c.w1⟩] else []
def pt1 (t : Nat) (c : Cho) (s : Int) : List Pt := if 0 ≤ s then [⟨t, 1, c.second, c.w2⟩] else []
def partsA : Nat → List Cho → List (Int × Int) → List Pt
  | t, c :: cs, s :: ss => pt0 t c s.1 ++ pt1 t c s.2 ++ partsA (t + 1) cs ss
  | _, _, _ => []
def wants (ch : List Cho) : List (Int × Int) := ch.map fun c => (c.first, c.second)
def chosen (l : Lay) (ts : List (List Int)) : List Cho := ts.map (choP l.gate)
def partsP (l : Lay) (ts : List (List Int)) : List Pt := partsA 0 (chosen l ts) (asg l.exps.length l.cap g0 (wants (chosen l ts)))
def chT (c : Cho) : List T := [.i .i64 c.first, .i .i64 c.second, .i .i64 c.w1, .i .i64 c.w2]
theorem pt0_len (t : Nat) (c : Cho) (s : Int) : (pt0 t c s).length ≤ 1 := by unfold pt0; split <;> simp
theorem pt1_len (t : Nat) (c : Cho) (s : Int) : (pt1 t c s).length ≤ 1 := by unfold pt1; split <;> simp
def p0I (l : Lay) (ts : List (List Int)) (bx : List V) (ty : Nat) (i : Nat) (s : St) : Prop := ∃ c5 o5 c6 o6 ck e5 e6, e5 = ((chosen l ts).take i).map chT ∧ e6 = ((wants (chosen l ts)).take i).map prT ∧ s = ⟨[(2, .pt ⟨2, 0, 0⟩ 3 0 0), (5, .ow ⟨5, c5, o5⟩ 4 0 i), (6, .ow ⟨6, c6, o6⟩ 2 0 i), (16, .t (gl ts)), (17, iv ts.length), (18, iv (i : Int))], [(⟨6, c6, o6⟩, .row 115 2 e6 false), (⟨5, c5, o5⟩, .row 164 4 e5 false), (⟨2, 0, 0⟩, .box ty bx)], ck⟩
def p0Q (l : Lay) (ts : List (List Int)) (bx : List V) (ty : Nat) (E : Option (Ex × St)) : Prop := ∃ c5 o5 c6 o6 ck v, E = some (.exit 0, ⟨[(2, .pt ⟨2, 0, 0⟩ 3 0 0), (5, .ow ⟨5, c5, o5⟩ 4 0 ts.length), (6, .ow ⟨6, c6, o6⟩ 2 0 ts.length), (16, .t (gl ts)), (17, iv ts.length), (18, iv ts.length), (19, v)], [(⟨6, c6, o6⟩, .row 115 2 ((wants (chosen l ts)).map prT) false), (⟨5, c5, o5⟩, .row 164 4 ((chosen l ts).map chT) false), (⟨2, 0, 0⟩, .box ty bx)], ck⟩)
theorem p0_loop (l : Lay) (ts : List (List Int)) (b1 b2 : V) (ty : Nat) (hg : Few l.gate) (hl : ts.length ≤ 100000) (c5 o5 c6 o6 ck : Nat) : p0Q l ts [.t (gl l.gate), b1, b2] ty (evL cfg (.loop f79l0) ⟨[(2, .pt ⟨2, 0, 0⟩ 3 0 0), (5, .ow ⟨5, c5, o5⟩ 4 0 0), (6, .ow ⟨6, c6, o6⟩ 2 0 0), (16, .t (gl ts)), (17, iv ts.length), (18, iv 0)], [(⟨6, c6, o6⟩, .row 115 2 [] false), (⟨5, c5, o5⟩, .row 164 4 [] false), (⟨2, 0, 0⟩, .box ty [.t (gl l.gate), b1, b2])], ck⟩) := by
  refine loop_q ts.length (p0I l ts [.t (gl l.gate), b1, b2] ty) ?_ ?_ _ ⟨c5, o5, c6, o6, ck, [], [], rfl, rfl, rfl⟩
  · rintro i s hi ⟨c5, o5, c6, o6, ck, e5, e6, h5, h6, rfl⟩
    have hw : IntKind.i64.wrap ((i : Int) + 1) = (i : Int) + 1 := wrap_id (by omega) (by omega)
    have hcl : (chosen l ts).length = ts.length := by simp [chosen]
    have hwl : (wants (chosen l ts)).length = ts.length := by simp [wants, chosen]
    have l5 : e5.length = i := by rw [h5]; simp [hcl]; omega
    have l6 : e6.length = i := by rw [h6]; simp [hwl]; omega
    have b5 : (i + 1) * 32 ≤ 140737488355328 := by omega
    have b6 : (i + 1) * 16 ≤ 140737488355328 := by omega
    have t5 : (chosen l ts).take (i + 1) = (chosen l ts).take i ++ [choP l.gate ts[i]] := by
      rw [List.take_succ_eq_append_getElem (by omega)]; simp [chosen]
    have t6 : (wants (chosen l ts)).take (i + 1) = (wants (chosen l ts)).take i ++ [((choP l.gate ts[i]).first, (choP l.gate ts[i]).second)] := by
      rw [List.take_succ_eq_append_getElem (by omega)]; simp [wants, chosen]
    have hc := fun s k => callEv_tr (C := cfg) (choose_ret l.gate ts[i] hg) rfl rfl rfl s k
    simp only [gl, il, choC, iv, bv] at hc
    generalize choP l.gate ts[i] = c at *
    simp [f79l0e, gl, il, hi, hw, hc, rowsOf, keysOfs, treesC, treesOf, treeOf, keysOf1, freezeAll, app, elsOf, over, buildV, b5, b6, l5, l6]
    exact ⟨_, _, _, _, _, _, _, by rw [t5, h5]; simp [chT], by rw [t6, h6]; simp [prT], rfl⟩
  · rintro s ⟨c5, o5, c6, o6, ck, e5, e6, h5, h6, rfl⟩
    rw [List.take_of_length_le (by simp [chosen])] at h5
    rw [List.take_of_length_le (by simp [chosen, wants])] at h6
    subst h5 h6
    simp [f79l0e]
    exact ⟨_, _, _, _, _, _, rfl⟩
section
variable {w : List (Int × Int)} {ch : List Cho} {out : List Pt} {v48 v49 v50 : V} {s0 s1 : Int} {t : Nat}
theorem ps0 (hw : w.length = ch.length) (ht : t < ch.length) (hwt : w = wants ch) (ho : out.length ≤ 1000000) (c o c5 o5 c6 o6 ck n5 n6 : Nat) (hn5 : n5 = ch.length) (hn6 : n6 = ch.length) : ∃ c' o' ck', evL cfg f79l1 ⟨[(5, .ow ⟨5, c5, o5⟩ 4 0 n5), (6, .ow ⟨6, c6, o6⟩ 2 0 n6), (11, .ow ⟨11, c, o⟩ 4 0 out.length), (12, iv t), (48, v48), (49, v49), (50, v50), (55, .ag [iv s0, iv s1]), (56, iv 0)], [(⟨11, c, o⟩, .row 91 4 (out.map ptT) false), (⟨6, c6, o6⟩, .row 115 2 (w.map prT) true), (⟨5, c5, o5⟩, .row 164 4 (ch.map chT) false)], ck⟩ =
    some (.normal, ⟨[(5, .ow ⟨5, c5, o5⟩ 4 0 n5), (6, .ow ⟨6, c6, o6⟩ 2 0 n6), (11, .ow ⟨11, c', o'⟩ 4 0 (out ++ pt0 t ch[t] s0).length), (12, iv t), (48, v48), (49, v49), (50, v50), (55, .ag [iv s0, iv s1]), (56, iv 1)], [(⟨11, c', o'⟩, .row 91 4 ((out ++ pt0 t ch[t] s0).map ptT) false), (⟨6, c6, o6⟩, .row 115 2 (w.map prT) true), (⟨5, c5, o5⟩, .row 164 4 (ch.map chT) false)], ck'⟩) := by
  subst hn5 hn6
  have w1 : IntKind.i64.wrap 1 = 1 := by decide
  have htw : t < w.length := by omega
  have hwe : w[t] = (ch[t].first, ch[t].second) := by subst hwt; simp [wants]
  have hb : (out.length + 1) * 32 ≤ 140737488355328 := by omega
  unfold pt0
  by_cases p : 0 ≤ s0
  · rw [if_pos p]
    simp [f79l1e, p, w1, ht, htw, hwe, chT, prT, rowsOf, keysOfs, treesC, treesOf, treeOf, keysOf1, freezeAll, app, elsOf, over, buildV, hb]
    rfl
  · rw [if_neg p]
    simp [f79l1e, p, w1]
theorem ps1 (hw : w.length = ch.length) (ht : t < ch.length) (hwt : w = wants ch) (ho : out.length ≤ 1000000) (c o c5 o5 c6 o6 ck n5 n6 : Nat) (hn5 : n5 = ch.length) (hn6 : n6 = ch.length) : ∃ c' o' ck', evL cfg f79l1 ⟨[(5, .ow ⟨5, c5, o5⟩ 4 0 n5), (6, .ow ⟨6, c6, o6⟩ 2 0 n6), (11, .ow ⟨11, c, o⟩ 4 0 out.length), (12, iv t), (48, v48), (49, v49), (50, v50), (55, .ag [iv s0, iv s1]), (56, iv 1)], [(⟨11, c, o⟩, .row 91 4 (out.map ptT) false), (⟨6, c6, o6⟩, .row 115 2 (w.map prT) true), (⟨5, c5, o5⟩, .row 164 4 (ch.map chT) false)], ck⟩ =
    some (.normal, ⟨[(5, .ow ⟨5, c5, o5⟩ 4 0 n5), (6, .ow ⟨6, c6, o6⟩ 2 0 n6), (11, .ow ⟨11, c', o'⟩ 4 0 (out ++ pt1 t ch[t] s1).length), (12, iv t), (48, v48), (49, v49), (50, v50), (55, .ag [iv s0, iv s1]), (56, iv 2)], [(⟨11, c', o'⟩, .row 91 4 ((out ++ pt1 t ch[t] s1).map ptT) false), (⟨6, c6, o6⟩, .row 115 2 (w.map prT) true), (⟨5, c5, o5⟩, .row 164 4 (ch.map chT) false)], ck'⟩) := by
  subst hn5 hn6
  have w1 : IntKind.i64.wrap 2 = 2 := by decide
  have htw : t < w.length := by omega
  have hwe : w[t] = (ch[t].first, ch[t].second) := by subst hwt; simp [wants]
  have hb : (out.length + 1) * 32 ≤ 140737488355328 := by omega
  unfold pt1
  by_cases p : 0 ≤ s1
  · rw [if_pos p]
    simp [f79l1e, p, w1, ht, htw, hwe, chT, prT, rowsOf, keysOfs, treesC, treesOf, treeOf, keysOf1, freezeAll, app, elsOf, over, buildV, hb]
    rfl
  · rw [if_neg p]
    simp [f79l1e, p, w1]
theorem ps_in (hw : w.length = ch.length) (ht : t < ch.length) (hwt : w = wants ch) (ho : out.length ≤ 900000) (c o c5 o5 c6 o6 ck n5 n6 : Nat) (hn5 : n5 = ch.length) (hn6 : n6 = ch.length) : ∃ c' o' ck', evL cfg (.loop f79l1) ⟨[(5, .ow ⟨5, c5, o5⟩ 4 0 n5), (6, .ow ⟨6, c6, o6⟩ 2 0 n6), (11, .ow ⟨11, c, o⟩ 4 0 out.length), (12, iv t), (48, v48), (49, v49), (50, v50), (55, .ag [iv s0, iv s1]), (56, iv 0)], [(⟨11, c, o⟩, .row 91 4 (out.map ptT) false), (⟨6, c6, o6⟩, .row 115 2 (w.map prT) true), (⟨5, c5, o5⟩, .row 164 4 (ch.map chT) false)], ck⟩ =
    some (.exit 4, ⟨[(5, .ow ⟨5, c5, o5⟩ 4 0 n5), (6, .ow ⟨6, c6, o6⟩ 2 0 n6), (11, .ow ⟨11, c', o'⟩ 4 0 (out ++ (pt0 t ch[t] s0 ++ pt1 t ch[t] s1)).length), (12, iv t), (48, v48), (49, v49), (50, v50), (55, .ag [iv s0, iv s1]), (56, iv 2), (57, bv false)], [(⟨11, c', o'⟩, .row 91 4 ((out ++ (pt0 t ch[t] s0 ++ pt1 t ch[t] s1)).map ptT) false), (⟨6, c6, o6⟩, .row 115 2 (w.map prT) true), (⟨5, c5, o5⟩, .row 164 4 (ch.map chT) false)], ck'⟩) := by
  obtain ⟨c1, o1, k1, h1⟩ := ps0 (out := out) (v48 := v48) (v49 := v49) (v50 := v50) (s0 := s0) (s1 := s1) hw ht hwt (by omega) c o c5 o5 c6 o6 ck n5 n6 hn5 hn6
  have hl := pt0_len t ch[t] s0
  obtain ⟨c2, o2, k2, h2⟩ := ps1 (v48 := v48) (v49 := v49) (v50 := v50) (s0 := s0) (s1 := s1) (out := out ++ pt0 t ch[t] s0) hw ht hwt (by simp; omega) c1 o1 c5 o5 c6 o6 k1 n5 n6 hn5 hn6
  refine ⟨c2, o2, k2 + 1, ?_⟩
  rw [evL_loop_n h1, evL_loop_n h2, evL_loop, ← List.append_assoc]
  simp [f79l1e]
end
def partsT (ch : List Cho) (ss : List (Int × Int)) (i : Nat) : List Pt := partsA 0 (ch.take i) (ss.take i)
theorem partsA_app (cs : List Cho) (ss : List (Int × Int)) (c : Cho) (x : Int × Int) : ∀ (t : Nat), cs.length = ss.length → partsA t (cs ++ [c]) (ss ++ [x]) = partsA t cs ss ++ (pt0 (t + cs.length) c x.1 ++ pt1 (t + cs.length) c x.2) := by
  induction cs generalizing ss with
  | nil =>
    intro t h
    cases ss with
    | nil => simp [partsA]
    | cons _ _ => cases h
  | cons d cs ih =>
    intro t h
    cases ss with
    | nil => cases h
    | cons y ss =>
      simp only [List.cons_append, partsA, ih ss (t + 1) (by simpa using h), List.length_cons, List.append_assoc]
      rw [show t + 1 + cs.length = t + (cs.length + 1) by omega]
theorem partsT_s {ch : List Cho} {ss : List (Int × Int)} (h : ch.length = ss.length) {i : Nat} (hi : i < ch.length) : partsT ch ss (i + 1) = partsT ch ss i ++ (pt0 i ch[i] (ss[i]'(by omega)).1 ++ pt1 i ch[i] (ss[i]'(by omega)).2) := by
  unfold partsT
  rw [List.take_succ_eq_append_getElem hi, List.take_succ_eq_append_getElem (by omega), partsA_app _ _ _ _ 0 (by simp; omega)]
  simp [Nat.min_eq_left (Nat.le_of_lt hi)]
theorem partsT_len {ch : List Cho} {ss : List (Int × Int)} (h : ch.length = ss.length) : ∀ i, i ≤ ch.length → (partsT ch ss i).length ≤ 2 * i
  | 0, _ => by simp [partsT, partsA]
  | i + 1, hi => by
    rw [partsT_s h (by omega)]
    have := partsT_len h i (by omega)
    have a := pt0_len i ch[i] (ss[i]'(by omega)).1
    have b := pt1_len i ch[i] (ss[i]'(by omega)).2
    simp only [List.length_append]
    omega
def p2I (ch : List Cho) (ss : List (Int × Int)) (c5 o5 c6 o6 : Nat) (i : Nat) (s : St) : Prop := ∃ c o ck out, out = partsT ch ss i ∧ s = ⟨[(5, .ow ⟨5, c5, o5⟩ 4 0 ch.length), (6, .ow ⟨6, c6, o6⟩ 2 0 ch.length), (11, .ow ⟨11, c, o⟩ 4 0 out.length), (48, .t (prl ss)), (49, iv ss.length), (50, iv (i : Int))], [(⟨11, c, o⟩, .row 91 4 (out.map ptT) false), (⟨6, c6, o6⟩, .row 115 2 ((wants ch).map prT) true), (⟨5, c5, o5⟩, .row 164 4 (ch.map chT) false)], ck⟩
def p2Q (ch : List Cho) (ss : List (Int × Int)) (E : Option (Ex × St)) : Prop := ∃ c o ck e r, E = some (.exit 2, ⟨e, (⟨11, c, o⟩, .row 91 4 ((partsA 0 ch ss).map ptT) false) :: r, ck⟩) ∧ Env.get e 11 = .ow ⟨11, c, o⟩ 4 0 (partsA 0 ch ss).length
theorem p2_loop (ch : List Cho) (ss : List (Int × Int)) (h : ch.length = ss.length) (hl : ch.length ≤ 100000) (c5 o5 c6 o6 c o ck : Nat) : p2Q ch ss (evL cfg (.loop f79l2) ⟨[(5, .ow ⟨5, c5, o5⟩ 4 0 ch.length), (6, .ow ⟨6, c6, o6⟩ 2 0 ch.length), (11, .ow ⟨11, c, o⟩ 4 0 0), (48, .t (prl ss)), (49, iv ss.length), (50, iv 0)], [(⟨11, c, o⟩, .row 91 4 [] false), (⟨6, c6, o6⟩, .row 115 2 ((wants ch).map prT) true), (⟨5, c5, o5⟩, .row 164 4 (ch.map chT) false)], ck⟩) := by
  refine loop_q ch.length (p2I ch ss c5 o5 c6 o6) ?_ ?_ _ ⟨c, o, ck, [], rfl, rfl⟩
  · rintro i s hi ⟨c, o, ck, out, h1, rfl⟩
    have hw : IntKind.i64.wrap ((i : Int) + 1) = (i : Int) + 1 := wrap_id (by omega) (by omega)
    have his : i < ss.length := by omega
    have hol : out.length ≤ 900000 := by have := partsT_len h i (by omega); rw [← h1] at this; omega
    obtain ⟨c', o', ck', hc⟩ := ps_in (w := wants ch) (v48 := .t (prl ss)) (v49 := iv ss.length) (v50 := iv i) (s0 := ss[i].1) (s1 := ss[i].2) (by simp [wants]) hi rfl hol c o c5 o5 c6 o6 (ck + 1 + 1 + 1) ch.length ch.length rfl rfl
    have hs := partsT_s h hi
    rw [← h1] at hs
    rw [← hs] at hc
    simp [prl] at hc
    simp [f79l2e, prl, prT, hi, his, hw, hc, over]
    exact ⟨_, _, _, _, rfl, rfl⟩
  · rintro s ⟨c, o, ck, out, h1, rfl⟩
    have : partsT ch ss ch.length = partsA 0 ch ss := by unfold partsT; rw [List.take_of_length_le (Nat.le_refl _), List.take_of_length_le (by omega)]
    rw [this] at h1
    subst h1
    simp [f79l2e, h]
    exact ⟨_, _, _, _, _, rfl, rfl⟩
theorem parts_ret (l : Lay) (ts : List (List Int)) (hg : Few l.gate) (hl : ts.length ≤ 100000) : RetT cfg 79 [layV l, .t (gl ts)] (.t (ptl (partsP l ts))) := by
  obtain ⟨c5, o5, c6, o6, ck, v, h0⟩ := p0_loop l ts (.t (.l (l.exps.map exT))) (iv l.cap) 37 hg hl 1 0 2 0 4
  have hcl : (chosen l ts).length = ts.length := by simp [chosen]
  have hA := fun (s : St) (k : Key) (hs : s.hp.get ⟨6, c6, o6⟩ = some (.row 115 2 ((wants (chosen l ts)).map prT) false)) => callEv_owk (C := cfg) (n := ts.length) (args := [iv l.exps.length, iv l.cap]) (assign_ret (wants (chosen l ts)) l.exps.length l.cap (by simp [wants, hcl]; omega)) (by simp [wants, hcl]) rfl rfl rfl rfl s k hs
  have hsl : (chosen l ts).length = (asg l.exps.length l.cap g0 (wants (chosen l ts))).length := by simp [asg_len, wants]
  obtain ⟨c, o, ck2, e2, r2, h2, h3⟩ := p2_loop (chosen l ts) _ hsl (by omega) c5 o5 c6 o6 ck 0 (ck + 1 + 1)
  unfold partsP
  rw [← hsl, hcl] at h2
  generalize partsA 0 (chosen l ts) (asg l.exps.length l.cap g0 (wants (chosen l ts))) = out at *
  have hal : (asg l.exps.length l.cap g0 (wants (chosen l ts))).length = ts.length := by omega
  generalize asg l.exps.length l.cap g0 (wants (chosen l ts)) = ss at *
  simp [gl] at h0
  simp only [iv] at hA
  simp [prl] at h2
  rw [retT_r, runL_pf (fn := f79) rfl rfl]
  simp [layV, gl, h0, hA, prl, hal, freezeAll, freeze1, h2, h3, resOf, resOf1, treeOf, ptl, List.take_of_length_le]
end
def comb1 (answers : List (List Int)) (i : Nat) (p : Pt) (acc : List (List Int)) : List (List Int) :=
  if i < answers.length ∧ 0 ≤ p.token ∧ p.token < acc.length ∧ (acc.getD p.token.toNat []).length = (answers.getD i []).length then acc.set p.token.toNat (addR (acc.getD p.token.toNat []) (scaleR (answers.getD i []) p.weight)) else acc
def combA (answers : List (List Int)) : Nat → List Pt → List (List Int) → List (List Int)
  | _, [], acc => acc
  | i, p :: r, acc => combA answers (i + 1) r (comb1 answers i p acc)
def combP (tokens : List (List Int)) (parts : List Pt) (answers : List (List Int)) : List (List Int) := combA answers 0 parts tokens
theorem comb1_len (answers : List (List Int)) (i : Nat) (p : Pt) (acc : List (List Int)) : (comb1 answers i p acc).length = acc.length := by unfold comb1; split <;> simp
theorem comb1_few {answers : List (List Int)} {i : Nat} {p : Pt} {acc : List (List Int)} (h : ∀ r ∈ acc, r.length ≤ 1000000) : ∀ r ∈ comb1 answers i p acc, r.length ≤ 1000000 := by
  unfold comb1
  split
  · rename_i hc
    intro r hr
    rcases List.mem_or_eq_of_mem_set hr with hr | rfl
    · exact h r hr
    · have : p.token.toNat < acc.length := by omega
      have := h _ (List.getElem_mem this)
      have e : acc.getD p.token.toNat [] = acc[p.token.toNat] := by simp [List.getD_eq_getElem?_getD, *]
      rw [e]
      simp only [addR, List.length_zipWith]
      omega
  · exact h
theorem combA_drop {answers : List (List Int)} {parts : List Pt} {i : Nat} (hi : i < parts.length) (acc : List (List Int)) : combA answers i (parts.drop i) acc = combA answers (i + 1) (parts.drop (i + 1)) (comb1 answers i parts[i] acc) := by
  rw [List.drop_eq_getElem_cons hi]; rfl
def cbI (ts : List (List Int)) (parts : List Pt) (answers : List (List Int)) (k : Key) (i : Nat) (s : St) : Prop := ∃ (acc : List (List Int)) (ck : Nat), combA answers i (parts.drop i) acc = combP ts parts answers ∧ acc.length = ts.length ∧ (∀ r ∈ acc, r.length ≤ 1000000) ∧ s = ⟨[(2, .t (gl answers)), (7, .ow k 1 0 ts.length), (14, .t (ptl parts)), (15, iv parts.length), (16, iv (i : Int))], [(k, .row 31 1 (acc.map fun r => [il r]) false)], ck⟩
def cbQ (ts : List (List Int)) (parts : List Pt) (answers : List (List Int)) (k : Key) (E : Option (Ex × St)) : Prop := ∃ ck v, (combP ts parts answers).length = ts.length ∧ E = some (.exit 0, ⟨[(2, .t (gl answers)), (7, .ow k 1 0 ts.length), (14, .t (ptl parts)), (15, iv parts.length), (16, iv parts.length), (17, v)], [(k, .row 31 1 ((combP ts parts answers).map fun r => [il r]) false)], ck⟩)
theorem cb_loop (ts : List (List Int)) (parts : List Pt) (answers : List (List Int)) (hp : parts.length ≤ 1000000) (hf : Few ts) (ha : Few answers) (c o ck : Nat) : cbQ ts parts answers ⟨13, c, o⟩ (evL cfg (.loop f81l0) ⟨[(2, .t (gl answers)), (7, .ow ⟨13, c, o⟩ 1 0 ts.length), (14, .t (ptl parts)), (15, iv parts.length), (16, iv 0)], [(⟨13, c, o⟩, .row 31 1 (ts.map fun r => [il r]) false)], ck⟩) := by
  refine loop_q parts.length (cbI ts parts answers ⟨13, c, o⟩) ?_ ?_ _ ⟨ts, ck, rfl, rfl, hf.2, rfl⟩
  · rintro i s hi ⟨acc, ck, h1, h2, h3, rfl⟩
    have hw : IntKind.i64.wrap ((i : Int) + 1) = (i : Int) + 1 := wrap_id (by omega) (by omega)
    rw [combA_drop hi] at h1
    have h2' := (comb1_len answers i parts[i] acc).trans h2
    have h3' := comb1_few (answers := answers) (i := i) (p := parts[i]) h3
    have hpe : (parts.map ptT)[i]? = some (ptT parts[i]) := by simp [hi]
    generalize hpi : parts[i] = p at *
    have d0 : decide ((i : Int) < parts.length) = true := decide_eq_true (by omega)
    by_cases c1 : i < answers.length
    case neg =>
      have e : comb1 answers i p acc = acc := by unfold comb1; rw [if_neg (fun h => c1 h.1)]
      rw [e] at h1
      have c1' : answers.length ≤ i := by omega
      simp [f81l0e, gl, ptl, ptT, hpi, hi, hw, c1', over]
      exact ⟨_, _, h1, h2, h3, rfl⟩
    have c1' : ¬ answers.length ≤ i := by omega
    by_cases c2 : p.token < 0
    · have e : comb1 answers i p acc = acc := by unfold comb1; rw [if_neg (fun h => by omega)]
      rw [e] at h1
      simp [f81l0e, gl, ptl, ptT, hpi, hi, hw, c1', c2, over]
      exact ⟨_, _, h1, h2, h3, rfl⟩
    by_cases c3 : (ts.length : Int) ≤ p.token
    · have e : comb1 answers i p acc = acc := by unfold comb1; rw [if_neg (fun h => by omega)]
      rw [e] at h1
      simp [f81l0e, gl, ptl, ptT, hpi, hi, hw, c1', c2, c3, over]
      exact ⟨_, _, h1, h2, h3, rfl⟩
    obtain ⟨tk, htk⟩ : ∃ tk : Nat, p.token = tk := ⟨p.token.toNat, by omega⟩
    have htl : tk < acc.length := by omega
    have htn : tk < ts.length := by omega
    have c0 : (0 : Int) ≤ p.token := by omega
    have d2 : decide ((tk : Int) < 0) = false := decide_eq_false (by omega)
    have d3 : ¬ ts.length ≤ tk := by omega
    have g1 : acc.getD tk [] = acc[tk] := by simp [List.getD_eq_getElem?_getD, htl]
    have g2 : answers.getD i [] = answers[i] := by simp [List.getD_eq_getElem?_getD, c1]
    have e : comb1 answers i p acc = if acc[tk].length = answers[i].length then acc.set tk (addR acc[tk] (scaleR answers[i] p.weight)) else acc := by
      unfold comb1
      rw [htk, Int.toNat_natCast, g1, g2]
      by_cases h : acc[tk].length = answers[i].length
      · rw [if_pos ⟨c1, by omega, by omega, h⟩, if_pos h]
      · rw [if_neg (fun q => h q.2.2.2), if_neg h]
    have hS := fun hp => callQ_tr (C := cfg) (scale_ret answers[i] p.weight (ha.2 _ (List.getElem_mem c1))) rfl hp
    have hA := fun hp => callQ_tr (C := cfg) (vadd_ret acc[tk] (scaleR answers[i] p.weight) (h3 _ (List.getElem_mem htl))) rfl hp
    have hsl : (scaleR answers[i] p.weight).length = answers[i].length := by simp [scaleR]
    rw [hsl] at hA
    rw [e] at h1 h2' h3'
    generalize scaleR answers[i] p.weight = sc at *
    simp only [il, iv, bv] at hS hA
    by_cases h : acc[tk].length = answers[i].length
    · rw [if_pos h] at h1 h2' h3'
      simp only [h, decide_true, if_true] at hA
      simp [f81l0e, gl, il, ptl, ptT, hpi, hi, hw, c1, c1', d2, d3, htk, htl, htn, hS, hA, treesC, treesOf, treeOf, keysOf, freezeAll, over]
      exact ⟨_, _, h1, h2', h3', by simp [il, gl, ptl, List.map_set]; rfl⟩
    · rw [if_neg h] at h1 h2' h3'
      simp only [h, decide_false, if_false] at hA
      simp [f81l0e, gl, il, ptl, ptT, hpi, hi, hw, c1, c1', d2, d3, htk, htl, htn, hS, hA, treesC, treesOf, treeOf, keysOf, freezeAll, over]
      exact ⟨_, _, h1, h2', h3', rfl⟩
  · rintro s ⟨acc, ck, h1, h2, h3, rfl⟩
    simp [combA] at h1
    subst h1
    simp [f81l0e]
    exact ⟨_, _, h2, rfl⟩
theorem comb_ret (ts : List (List Int)) (parts : List Pt) (answers : List (List Int)) (hp : parts.length ≤ 1000000) (hf : Few ts) (ha : Few answers) : RetT cfg 81 [.t (gl ts), .t (ptl parts), .t (gl answers)] (.t (gl (combP ts parts answers))) := by
  have hc := fun s k => callEv_tro (C := cfg) (clone2_ret (ts.map fun r => [il r]) (by simp) (by simpa using hf.1)) rfl rfl rfl s k
  obtain ⟨ck, v, hl, h⟩ := cb_loop ts parts answers hp hf ha 1 1 3
  simp [gl, ptl, il] at h
  simp only [il, List.length_map] at hc
  rw [retT_r, runL_pf (fn := f81) rfl rfl]
  simp [gl, ptl, il, hc, h, resOf, resOf1, treeOf, List.take_of_length_le, hl]
theorem crcI_in (s : List UInt8) : 0 ≤ crcI s ∧ crcI s < 4294967296 := by
  rw [crcI_N]; have := crcN_lt s; omega
def ppick (e : Int) (h : List (List Int)) (x key : Int) : Int × Bool := if right e h = true ∧ 0 ≤ x ∧ x < h.length ∧ 0 ≤ key then ((h.getD x.toNat []).getD (key.toNat % (h.getD x.toNat []).length) 0, true) else (0, false)
theorem ppick_ret (e : Int) (h : List (List Int)) (x key : Int) (hh : h.length ≤ 1000000) (hr : ∀ r ∈ h, r.length ≤ 100000) : RetT cfg 48 [.ag [iv e, .t (gl h)], iv x, iv key] (.tu [iv (ppick e h x key).1, bv (ppick e h x key).2]) := by
  have hc := fun s k => callEv_tr (C := cfg) (pright_ret e h hh (fun r hm => by have := hr r hm; omega)) rfl rfl rfl s k
  simp only [gl, iv, bv] at hc
  unfold RetT
  rw [runL_pf (fn := f48) rfl rfl]
  by_cases h1 : right e h = true
  · by_cases h2 : 0 ≤ x
    · by_cases h3 : x < h.length
      · by_cases h4 : 0 ≤ key
        · obtain ⟨y, rfl⟩ : ∃ y : Nat, x = y := ⟨x.toNat, by omega⟩
          obtain ⟨ky, rfl⟩ : ∃ y : Nat, key = y := ⟨key.toNat, by omega⟩
          have hy : y < h.length := by omega
          have hne := (right_row' h1 (List.getElem_mem hy)).2
          have hpos : 0 < h[y].length := List.length_pos_iff.2 hne
          have hlt : ky % h[y].length < h[y].length := Nat.mod_lt _ hpos
          have htm : ((ky : Int)).tmod (h[y].length : Int) = ((ky % h[y].length : Nat) : Int) := by
            rw [Int.tmod_eq_emod_of_nonneg (by omega)]; rfl
          simp only [ppick, h1, h2, h3, h4, and_self, if_true, Int.toNat_natCast, (by simp [List.getD_eq_getElem?_getD, hy] : h.getD y [] = h[y])]
          generalize ky % h[y].length = m at *
          have d1 : decide ((y : Int) < 0) = false := decide_eq_false (by omega)
          have d2 : decide ((ky : Int) < 0) = false := decide_eq_false (by omega)
          have d3 : decide (h.length ≤ y) = false := decide_eq_false (by omega)
          have d4 : ((h[y].length : Int) == 0) = false := by simp; exact hne
          simp [gl, hc, h1, d1, d2, d3, hy, hne, htm, hlt, List.getElem?_eq_getElem]
          refine ⟨_, _, ⟨rfl, rfl⟩, ?_⟩
          simp [resOf, resOfs, resOf1, List.getD_eq_getElem?_getD, hy, hlt]
        · have h4' : key < 0 := by omega
          have d1 : decide (x < 0) = false := decide_eq_false (by omega)
          have d2 : decide ((h.length : Int) ≤ x) = false := decide_eq_false (by omega)
          simp [gl, ppick, hc, h1, h2, h3, h4, h4', d1, d2]
          refine ⟨_, _, ⟨rfl, rfl⟩, ?_⟩
          simp [resOf, resOfs, resOf1]
      · have h3' : (h.length : Int) ≤ x := by omega
        have d1 : decide (x < 0) = false := decide_eq_false (by omega)
        simp [gl, ppick, hc, h1, h2, h3, h3', d1]
        refine ⟨_, _, ⟨rfl, rfl⟩, ?_⟩
        simp [resOf, resOfs, resOf1]
    · have h2' : x < 0 := by omega
      simp [gl, ppick, hc, h1, h2, h2']
      refine ⟨_, _, ⟨rfl, rfl⟩, ?_⟩
      simp [resOf, resOfs, resOf1]
  · simp [gl, ppick, hc, h1]
    refine ⟨_, _, ⟨rfl, rfl⟩, ?_⟩
    simp [resOf, resOfs, resOf1]
theorem hp_get_put (h : HP) (k : Key) (o : Ob) (q : Key) : (h.put k k o).get q = if k = q then (h.get k).map (fun _ => o) else h.get q := by
  induction h with
  | nil => simp [HP.put, HP.get]
  | cons p h ih =>
    obtain ⟨p, x⟩ := p
    simp only [HP.put]
    by_cases e : p = k
    · subst e
      rw [if_pos rfl]
      simp only [HP.get, if_pos]
      by_cases e2 : p = q
      · simp [e2]
      · simp [e2]
    · rw [if_neg e]
      simp only [HP.get, if_neg e]
      by_cases e2 : p = q
      · subst e2; rw [if_pos rfl, if_neg (fun h => e h.symm), if_pos rfl]
      · rw [if_neg e2, ih, if_neg e2]
theorem get_new {s c o : Nat} {ob : Ob} {h : HP} {q : Key} (hq : q.c < c) : HP.get ((⟨s, c, o⟩, ob) :: h) q = h.get q := by
  have : ¬ (⟨s, c, o⟩ : Key) = q := by rintro rfl; simp at hq
  simp only [HP.get, if_neg this]
theorem get_put_ne {k q : Key} {ob : Ob} {h : HP} (hq : q ≠ k) : HP.get (h.put k k ob) q = h.get q := by
  rw [hp_get_put, if_neg (Ne.symm hq)]
theorem filt_t {α : Type} (l : List α) : List.filter (fun _ => true) l = l := List.filter_eq_self.2 fun _ _ => rfl
def Rd (v : V) (x : T) : Prop := v = .t x ∨ (v = .nl ∧ x = .l [])
theorem rd_t (x : T) : Rd (.t x) x := .inl rfl
theorem rd_pure {v : V} {x : T} (h : Rd v x) (hp : HP) : pureOf hp v = some (.t x) := by rcases h with rfl | ⟨rfl, rfl⟩ <;> rfl
theorem rd_keys {v : V} {x : T} (h : Rd v x) (hp : HP) : keysOf hp v = [] := by rcases h with rfl | ⟨rfl, rfl⟩ <;> rfl
theorem rd_len {v : V} {xs : List (List T)} (h : Rd v (.l xs)) : len v = some (.t (.i .i64 xs.length)) := by
  rcases h with rfl | ⟨rfl, h⟩
  · rfl
  · cases h; rfl
structure Flt where
  m : Mod
  pe : Int
  ph : List (List Int)
  led : List (List Ent)
  bag : List (List UInt8)
  toks : List (List Int)
  at_ : Nat
  parts : List Pt
  ans : List (List Int)
  answd : List Bool
structure Vs where
  l0 : V
  l1 : V
  l2 : V
  l3 : V
  l4 : V
  vb : V
  vp : V
  va : V
  vd : V
def fcs (F : Flt) (v : Vs) : List V := [iv F.m.dim, .t (laysT F.m), iv F.pe, .t (gl F.ph), v.l0, v.l1, v.l2, v.l3, v.l4, v.vb, .t (gl F.toks), iv F.at_, v.vp, v.va, v.vd]
def VsOk (F : Flt) (v : Vs) : Prop := Rd v.l0 (enl (F.led.getD 0 [])) ∧ Rd v.l1 (enl (F.led.getD 1 [])) ∧ Rd v.l2 (enl (F.led.getD 2 [])) ∧ Rd v.l3 (enl (F.led.getD 3 [])) ∧ Rd v.l4 (enl (F.led.getD 4 [])) ∧ Rd v.vb (sl F.bag) ∧ Rd v.vp (ptl F.parts)
def FlB (h : HP) (cf : Nat) (F : Flt) (v : Vs) : Prop := h.get ⟨34, cf, 5⟩ = some (.box 88 (fcs F v)) ∧ VsOk F v
def sendB (bag : List (List UInt8)) (a : Msg) : List (List UInt8) := if wrightM a then bagPut bag (putB a) else bag
def RdA : List V → List V → Prop
  | [], [] => True
  | a :: xs, p :: ps => (∀ hp, pureOf hp a = some p) ∧ (∀ hp, keysOf hp a = []) ∧ RdA xs ps
  | _, _ => False
theorem rdA_is : ∀ {xs ps : List V}, RdA xs ps → ∀ hp, puresOf hp xs = some ps ∧ xs.flatMap (keysOf hp) = []
  | [], [], _, hp => ⟨rfl, rfl⟩
  | a :: xs, p :: ps, h, hp => by
    obtain ⟨h1, h2⟩ := rdA_is h.2.2 hp
    exact ⟨by simp only [puresOf, h.1 hp, h1], by simp only [List.flatMap_cons, h.2.1 hp, h2, List.nil_append]⟩
theorem callEv_rd {C : Cfg} {f : Nat} {args ps : List V} {x : V} (h : RetT C f ps x) (hm : C.hpm f = false) (ho : C.own f = false) (ha : RdA args ps) (s : St) (k : Key) : callEv C (runL C) f args s k = some (x, s.hp, s.ck) := callEv_t hm ho (rdA_is ha s.hp).1 h (.inr (rdA_is ha s.hp).2)
theorem callQ_rd {C : Cfg} {f : Nat} {args ps : List V} {x : V} (h : RetT C f ps x) (ha : RdA args ps) (hp : HP) : callQ (runL C) f args hp = some x := callQ_t (rdA_is ha hp).1 h (.inr (rdA_is ha hp).2)
theorem rdA_nil : RdA [] [] := trivial
theorem rdA_t {x : T} {xs ps : List V} (h : RdA xs ps) : RdA (.t x :: xs) (.t x :: ps) := ⟨fun _ => rfl, fun _ => rfl, h⟩
theorem rdA_v {v : V} {x : T} {xs ps : List V} (o : Rd v x) (h : RdA xs ps) : RdA (v :: xs) (.t x :: ps) := ⟨rd_pure o, rd_keys o, h⟩
theorem rdA_ag {cs : List T} {xs ps : List V} (h : RdA xs ps) : RdA (.ag (cs.map .t) :: xs) (.ag (cs.map .t) :: ps) := ⟨fun hp => by simp only [pureOf, treesOf_t], fun hp => by simp only [keysOf, keys1_t], h⟩
theorem send_run {h : HP} {cf ck : Nat} {F : Flt} {v : Vs} (a : Msg) (hF : FlB h cf F v) (hb : F.bag.length ≤ 1000000) (ha : a.vec.length ≤ 1000000) : ∃ h' ck' vb, runL cfg 49 [.pt ⟨34, cf, 5⟩ 15 0 0, msgV a] h ck = some (.tu [], h', ck') ∧ ck ≤ ck' ∧ FlB h' cf { F with bag := sendB F.bag a } { v with vb := vb } ∧ ∀ q, q.c < ck → q ≠ ⟨34, cf, 5⟩ → h'.get q = h.get q := by
  obtain ⟨h1, o0, o1, o2, o3, o4, o5, o6⟩ := hF
  have hP := fun s k => callEv_tr (C := cfg) (wput_ret a ha) rfl rfl rfl s k
  have hB := fun (s : St) (k : Key) => callEv_rd (C := cfg) (bput_ret F.bag (putB a) hb) rfl rfl (rdA_v o5 (rdA_t rdA_nil)) s k
  rw [runL_pf (fn := f49) rfl rfl]
  unfold sendB
  unfold putP at hP
  by_cases c : wrightM a = true
  · rw [if_pos c] at hP ⊢
    generalize putB a = pb at *
    simp only [msgV, il, iv] at hP
    unfold fcs at h1
    simp [msgV, hP, hB, filt_t, h1, hp_get_put, over]
    refine ⟨_, _, ⟨rfl, rfl⟩, by omega, ⟨.t (sl (bagPut F.bag pb)), ?_, o0, o1, o2, o3, o4, rd_t _, o6⟩, fun q hq hk => ?_⟩
    · simp [hp_get_put, h1, fcs]
    · rw [get_new hq, get_put_ne hk]
  · rw [if_neg c] at hP ⊢
    simp only [msgV, il, iv] at hP
    simp [msgV, hP, filt_t]
    refine ⟨_, _, ⟨rfl, rfl⟩, by omega, ⟨v.vb, ?_, o0, o1, o2, o3, o4, o5, o6⟩, fun q hq hk => ?_⟩
    · simp [h1]
    · rw [get_new hq]
def askM (F : Flt) (p : Pt) : Msg := ⟨1, 0, (ppick F.pe F.ph p.expert (p.token + p.rank)).1, 0, 1, F.at_, p.token, p.rank, p.expert, F.pe, F.toks.getD p.token.toNat []⟩
def askL (F : Flt) : List (Pt × Bool) → List (List UInt8) → List (List UInt8)
  | [], b => b
  | x :: r, b => askL F r (if x.2 then b else sendB b (askM F x.1))
def askP (F : Flt) : Flt := if F.at_ < F.m.lays.length then { F with bag := askL F (F.parts.zip F.answd) F.bag } else F
theorem sendB_len {b : List (List UInt8)} {a : Msg} (h : b.length ≤ 1000000) : (sendB b a).length ≤ 1000000 := by
  unfold sendB bagPut
  split
  · split
    · simp; omega
    · exact h
  · exact h
theorem askL_drop {F : Flt} {l : List (Pt × Bool)} {i : Nat} (hi : i < l.length) (b : List (List UInt8)) : askL F (l.drop i) b = askL F (l.drop (i + 1)) (if l[i].2 then b else sendB b (askM F l[i].1)) := by
  rw [List.drop_eq_getElem_cons hi]; rfl
structure Fit (F : Flt) : Prop where
  na : F.ans.length = F.parts.length
  nd : F.answd.length = F.parts.length
  np : F.parts.length ≤ 100000
  tok : ∀ p ∈ F.parts, 0 ≤ p.token ∧ p.token < F.toks.length ∧ 0 ≤ p.rank ∧ p.rank ≤ 1
  toks : Few F.toks
  ntok : F.toks.length ≤ 100000
  ph : F.ph.length ≤ 1000000 ∧ ∀ r ∈ F.ph, r.length ≤ 100000
  bag : F.bag.length ≤ 1000000
def bl (l : List Bool) : List (List T) := l.map fun b => [.b b]
def akI (F : Flt) (v : Vs) (cf cb ck0 : Nat) (h0 : HP) (i : Nat) (s : St) : Prop := ∃ (h : HP) (ck : Nat) (vb : V) (bag : List (List UInt8)), FlB h cf { F with bag := bag } { v with vb := vb } ∧ askL F ((F.parts.zip F.answd).drop i) bag = askL F (F.parts.zip F.answd) F.bag ∧ bag.length ≤ 1000000 ∧ h.get ⟨47, cb, 6⟩ = some (.row 4 1 (bl F.answd) false) ∧ ck0 ≤ ck ∧ (∀ q, q.c < ck0 → q ≠ ⟨34, cf, 5⟩ → h.get q = h0.get q) ∧
  s = ⟨[(0, .pt ⟨34, cf, 5⟩ 15 0 0), (20, .t (ptl F.parts)), (21, iv F.parts.length), (22, iv (i : Int))], h, ck⟩
def akQ (F : Flt) (v : Vs) (cf cb ck0 : Nat) (h0 : HP) (E : Option (Ex × St)) : Prop := ∃ (h : HP) (ck : Nat) (vb : V) (e : Env), FlB h cf { F with bag := askL F (F.parts.zip F.answd) F.bag } { v with vb := vb } ∧ ck0 ≤ ck ∧ (∀ q, q.c < ck0 → q ≠ ⟨34, cf, 5⟩ → h.get q = h0.get q) ∧ E = some (.exit 0, ⟨e, h, ck⟩)
theorem flb_new {h : HP} {cf : Nat} {F : Flt} {v : Vs} (hF : FlB h cf F v) {s c o : Nat} (hs : s ≠ 34) (ob : Ob) : FlB ((⟨s, c, o⟩, ob) :: h) cf F v := by
  refine ⟨?_, hF.2⟩
  have : ¬ (⟨s, c, o⟩ : Key) = ⟨34, cf, 5⟩ := by rintro h; cases h; exact hs rfl
  simp only [HP.get, if_neg this]
  exact hF.1
set_option maxHeartbeats 1000000 in
theorem ask_loop {F : Flt} {v : Vs} {cf cb ck0 : Nat} {h0 : HP} (hF : FlB h0 cf F v) (hw : Fit F) (hcf : cf < ck0) (hcb : cb < ck0) (hd : v.vd = .ow ⟨47, cb, 6⟩ 1 0 F.parts.length) (hrow : h0.get ⟨47, cb, 6⟩ = some (.row 4 1 (bl F.answd) false)) : akQ F v cf cb ck0 h0 (evL cfg (.loop f20l0) ⟨[(0, .pt ⟨34, cf, 5⟩ 15 0 0), (20, .t (ptl F.parts)), (21, iv F.parts.length), (22, iv 0)], h0, ck0⟩) := by
  have hzl : (F.parts.zip F.answd).length = F.parts.length := by rw [List.length_zip, hw.nd, Nat.min_self]
  refine loop_q F.parts.length (akI F v cf cb ck0 h0) ?_ ?_ _ ⟨h0, ck0, v.vb, F.bag, hF, rfl, hw.bag, hrow, Nat.le_refl _, fun q _ _ => rfl, rfl⟩
  · rintro i s hi ⟨h, ck, vb, bag, hB, h1, h2, h3, h4, h5, rfl⟩
    have hid : i < F.answd.length := by have := hw.nd; omega
    have hwi : IntKind.i64.wrap ((i : Int) + 1) = (i : Int) + 1 := wrap_id (by have := hw.np; omega) (by have := hw.np; omega)
    rw [askL_drop (by omega)] at h1
    have hz1 : (F.parts.zip F.answd)[i]'(by omega) = (F.parts[i], F.answd[i]) := by simp
    rw [hz1] at h1
    have hrg : (bl F.answd)[i]? = some [.b F.answd[i]] := by simp [bl, hid]
    have hpt := hw.tok _ (List.getElem_mem hi)
    obtain ⟨hg, hv⟩ := hB
    have hg' := hg
    simp only [fcs, hd] at hg'
    cases hb : F.answd[i] with
    | true =>
      rw [hb] at h1 hrg
      simp [f20l0e, ptl, ptT, hi, hg', h3, hrg, filt_t, over, hwi]
      refine ⟨_, _, vb, bag, flb_new ⟨hg, hv⟩ (by decide) _, h1, h2, ?_, ?_, ?_, rfl⟩
      · simp [h3]
      · omega
      · intro q hq hk
        rw [get_new (by omega), h5 q hq hk]
    | false =>
      rw [hb] at h1 hrg
      generalize hpi : F.parts[i] = p at *
      obtain ⟨pt, pr, pe, pw⟩ := p
      simp only at hpt h1
      obtain ⟨tk, rfl⟩ : ∃ tk : Nat, pt = tk := ⟨pt.toNat, by omega⟩
      have htk : tk < F.toks.length := by omega
      have hwk : IntKind.i64.wrap ((tk : Int) + pr) = (tk : Int) + pr := wrap_id (by omega) (by have := hw.ntok; omega)
      have hP := fun hp => callQ_tr (C := cfg) (ppick_ret F.pe F.ph pe ((tk : Int) + pr) hw.ph.1 hw.ph.2) rfl hp
      have hgd : F.toks.getD tk [] = F.toks[tk] := by simp [List.getD_eq_getElem?_getD, htk]
      have hM : askM F ⟨tk, pr, pe, pw⟩ = ⟨1, 0, (ppick F.pe F.ph pe ((tk : Int) + pr)).1, 0, 1, F.at_, tk, pr, pe, F.pe, F.toks[tk]⟩ := by
        simp only [askM, Int.toNat_natCast, hgd]
      have hvl := hw.toks.2 _ (List.getElem_mem htk)
      obtain ⟨h', ck', vb', hrun, hle, hB', hfr⟩ := send_run (h := (⟨3, ck + 1, 3⟩, .box 91 [iv tk, iv pr, iv pe, iv pw]) :: h) (ck := ck + 1 + 1 + 1 + 1 + 1) (askM F ⟨tk, pr, pe, pw⟩) (flb_new ⟨hg, hv⟩ (by decide) _) h2 (by rw [hM]; exact hvl)
      have hS := fun e k => callEv_h (C := cfg) (s := ⟨e, (⟨3, ck + 1, 3⟩, .box 91 [iv tk, iv pr, iv pe, iv pw]) :: h, ck + 1 + 1 + 1 + 1⟩) rfl hrun k
      rw [hM] at hS
      generalize ppick F.pe F.ph pe ((tk : Int) + pr) = pk at *
      simp only [gl, il, iv, bv, msgV] at hP hS
      simp [f20l0e, ptl, ptT, gl, il, hpi, hi, hg', h3, hrg, filt_t, over, hwi, hwk, hP, htk, buildV, hS]
      refine ⟨h', _, vb', sendB bag (askM F ⟨tk, pr, pe, pw⟩), hB', h1, sendB_len h2, ?_, ?_, ?_, rfl⟩
      · rw [hfr _ (by simp; omega) (by simp)]
        simp [h3]
      · omega
      · intro q hq hk
        rw [hfr q (by omega) hk, get_new (by omega), h5 q hq hk]
  · rintro s ⟨h, ck, vb, bag, hB, h1, h2, h3, h4, h5, rfl⟩
    have : (F.parts.zip F.answd).drop F.parts.length = [] := List.drop_eq_nil_of_le (by omega)
    rw [this] at h1
    simp only [askL] at h1
    subst h1
    simp [f20l0e, filt_t]
    exact ⟨_, _, _, _, hB, by omega, h5, rfl⟩
theorem ask_run {h : HP} {cf cb ck : Nat} {F : Flt} {v : Vs} (hF : FlB h cf F v) (hw : Fit F) (hcf : cf < ck) (hcb : cb < ck) (hrow : F.at_ < F.m.lays.length → v.vp = .t (ptl F.parts) ∧ v.vd = .ow ⟨47, cb, 6⟩ 1 0 F.parts.length ∧ h.get ⟨47, cb, 6⟩ = some (.row 4 1 (bl F.answd) false)) : ∃ h' ck' vb, runL cfg 20 [.pt ⟨34, cf, 5⟩ 15 0 0] h ck = some (.tu [], h', ck') ∧ ck ≤ ck' ∧ FlB h' cf (askP F) { v with vb := vb } ∧ ∀ q, q.c < ck → q ≠ ⟨34, cf, 5⟩ → h'.get q = h.get q := by
  rw [runL_pf (fn := f20) rfl rfl]
  have hg := hF.1
  unfold askP
  by_cases c : F.at_ < F.m.lays.length
  · rw [if_pos c]
    obtain ⟨r1, r2, r3⟩ := hrow c
    have c' : ¬ F.m.lays.length ≤ F.at_ := by omega
    obtain ⟨h', ck', vb, e, hB', hle, hfr, hL⟩ := ask_loop (ck0 := ck + 1 + 1) hF hw (by omega) (by omega) r2 r3
    simp only [fcs, laysT, r1] at hg
    simp [ptl] at hL
    simp [hg, c', filt_t, ptl, hL]
    exact ⟨_, _, ⟨rfl, rfl⟩, by omega, ⟨vb, hB'⟩, fun q hq hk => hfr q (by omega) hk⟩
  · rw [if_neg c]
    have c' : F.m.lays.length ≤ F.at_ := by omega
    simp only [fcs, laysT] at hg
    simp [hg, c', filt_t]
    exact ⟨_, _, ⟨rfl, rfl⟩, by omega, ⟨v.vb, hF⟩, fun q _ _ => rfl⟩
theorem put_put (h : HP) (k : Key) (a b : Ob) : (h.put k k a).put k k b = h.put k k b := by
  induction h with
  | nil => rfl
  | cons p h ih =>
    obtain ⟨p, x⟩ := p
    simp only [HP.put]
    by_cases e : p = k
    · subst e; simp [HP.put]
    · rw [if_neg e, if_neg e]
      simp only [HP.put, if_neg e, ih]
theorem partsA_in : ∀ (cs : List Cho) (ss : List (Int × Int)) (t : Nat), ∀ p ∈ partsA t cs ss, (t : Int) ≤ p.token ∧ p.token < ((t + cs.length : Nat) : Int) ∧ 0 ≤ p.rank ∧ p.rank ≤ 1
  | [], _, t, p, h => by simp [partsA] at h
  | c :: cs, [], t, p, h => by simp [partsA] at h
  | c :: cs, s :: ss, t, p, h => by
    simp only [partsA, List.mem_append] at h
    rcases h with (h | h) | h
    · unfold pt0 at h
      split at h
      · simp at h; subst h; simp; omega
      · simp at h
    · unfold pt1 at h
      split at h
      · simp at h; subst h; simp; omega
      · simp at h
    · have := partsA_in cs ss (t + 1) p h
      simp only [List.length_cons]
      omega
theorem partsP_in {l : Lay} {ts : List (List Int)} : ∀ p ∈ partsP l ts, 0 ≤ p.token ∧ p.token < ts.length ∧ 0 ≤ p.rank ∧ p.rank ≤ 1 := by
  intro p hp
  have := partsA_in _ _ 0 p hp
  simp [chosen] at this
  omega
theorem partsA_len : ∀ (cs : List Cho) (ss : List (Int × Int)) (t : Nat), (partsA t cs ss).length ≤ 2 * cs.length
  | [], _, t => by simp [partsA]
  | c :: cs, [], t => by simp [partsA]
  | c :: cs, s :: ss, t => by
    have := partsA_len cs ss (t + 1)
    have a := pt0_len t c s.1
    have b := pt1_len t c s.2
    simp only [partsA, List.length_append, List.length_cons]
    omega
theorem partsP_len (l : Lay) (ts : List (List Int)) : (partsP l ts).length ≤ 2 * ts.length := by
  have := partsA_len (chosen l ts) (asg l.exps.length l.cap g0 (wants (chosen l ts))) 0
  simpa [partsP, chosen] using this
structure Fit0 (F : Flt) : Prop where
  m : FewM F.m
  toks : Few F.toks
  ntok : F.toks.length ≤ 10000
  ph : F.ph.length ≤ 1000000 ∧ ∀ r ∈ F.ph, r.length ≤ 100000
  bag : F.bag.length ≤ 1000000
def newP (F : Flt) : Flt := { F with parts := partsP (layAt F.m F.at_) F.toks, ans := List.replicate (partsP (layAt F.m F.at_) F.toks).length [], answd := List.replicate (partsP (layAt F.m F.at_) F.toks).length false }
def beginP (F : Flt) : Flt := if F.at_ < F.m.lays.length then askP (newP F) else F
theorem newP_fit {F : Flt} (h : Fit0 F) : Fit (newP F) := ⟨by simp [newP], by simp [newP], by
    have := partsP_len (layAt F.m F.at_) F.toks
    have := h.ntok
    simp only [newP]; omega, fun p hp => partsP_in p hp, h.toks, by have := h.ntok; simp only [newP]; omega, h.ph, h.bag⟩
def rowsAre (h : HP) (F : Flt) (v : Vs) (ca cb : Nat) : Prop := v.vp = .t (ptl F.parts) ∧ v.va = .ow ⟨38, ca, 6⟩ 1 0 F.parts.length ∧ v.vd = .ow ⟨47, cb, 6⟩ 1 0 F.parts.length ∧ h.get ⟨38, ca, 6⟩ = some (.row 31 1 (F.ans.map fun r => [il r]) false) ∧ h.get ⟨47, cb, 6⟩ = some (.row 4 1 (bl F.answd) false)
theorem begin_run {h : HP} {cf ck : Nat} {F : Flt} {v : Vs} (hF : FlB h cf F v) (hw : Fit0 F) (hcf : cf < ck) : ∃ h' ck' v' ca cb, runL cfg 45 [.pt ⟨34, cf, 5⟩ 15 0 0] h ck = some (.tu [], h', ck') ∧ ck ≤ ck' ∧ FlB h' cf (beginP F) v' ∧ (F.at_ < F.m.lays.length → rowsAre h' (beginP F) v' ca cb ∧ ck ≤ ca ∧ ca < ck' ∧ ck ≤ cb ∧ cb < ck') ∧ ∀ q, q.c < ck → q ≠ ⟨34, cf, 5⟩ → h'.get q = h.get q := by
  rw [runL_pf (fn := f45) rfl rfl]
  have hg := hF.1
  obtain ⟨o0, o1, o2, o3, o4, o5, o6⟩ := hF.2
  unfold beginP
  by_cases c : F.at_ < F.m.lays.length
  case neg =>
    have c' : F.m.lays.length ≤ F.at_ := by omega
    simp only [fcs, laysT] at hg
    rw [if_neg c]
    refine ⟨h, ck + 1, v, 0, 0, ?_, by omega, hF, fun hc => absurd hc c, fun q _ _ => rfl⟩
    simp [hg, c', filt_t]
  rw [if_pos c]
  have c' : ¬ F.m.lays.length ≤ F.at_ := by omega
  have hla : layAt F.m F.at_ = F.m.lays[F.at_] := by simp [layAt, List.getD_eq_getElem?_getD, c]
  have hfl := hw.m.2 _ (List.getElem_mem c)
  have hP := fun hp => callQ_tr (C := cfg) (parts_ret F.m.lays[F.at_] F.toks hfl.1 (by have := hw.ntok; omega)) rfl hp
  have hnf := newP_fit hw
  have hN : newP F = { F with parts := partsP (layAt F.m F.at_) F.toks, ans := List.replicate (partsP (layAt F.m F.at_) F.toks).length [], answd := List.replicate (partsP (layAt F.m F.at_) F.toks).length false } := rfl
  rw [← hla] at hP
  have hpl : (partsP (layAt F.m F.at_) F.toks).length ≤ 20000 := by have := partsP_len (layAt F.m F.at_) F.toks; have := hw.ntok; omega
  generalize partsP (layAt F.m F.at_) F.toks = ps at *
  have b1 : (ps.length : Int) * 24 ≤ 140737488355328 := by omega
  have b2 : (ps.length : Int) ≤ 140737488355328 := by omega
  generalize hV : ({ v with vp := .t (ptl ps), va := .ow ⟨38, ck + 1 + 1, 6⟩ 1 0 ps.length, vd := .ow ⟨47, ck + 1 + 1 + 1, 6⟩ 1 0 ps.length } : Vs) = v2
  generalize hH : ((⟨47, ck + 1 + 1 + 1, 6⟩, Ob.row 4 1 (List.replicate ps.length [.b false]) false) :: (⟨38, ck + 1 + 1, 6⟩, .row 31 1 (List.replicate ps.length [.l []]) false) :: h.put ⟨34, cf, 5⟩ ⟨34, cf, 5⟩ (.box 88 (fcs (newP F) v2)) : HP) = h2
  have hB2 : FlB h2 cf (newP F) v2 := by
    subst hH hV
    refine ⟨?_, ?_⟩
    · simp [hp_get_put, hg]
    · rw [hN]
      exact ⟨o0, o1, o2, o3, o4, o5, rd_t _⟩
  have e38 : HP.get h2 ⟨38, ck + 1 + 1, 6⟩ = some (.row 31 1 (List.replicate ps.length [.l []]) false) := by subst hH; simp
  have e47 : HP.get h2 ⟨47, ck + 1 + 1 + 1, 6⟩ = some (.row 4 1 (List.replicate ps.length [.b false]) false) := by subst hH; simp
  obtain ⟨h', ck', vb, hrun, hle, hB', hfr⟩ := ask_run (cb := ck + 1 + 1 + 1) (ck := ck + 1 + 1 + 1 + 1 + 1) hB2 hnf (by omega) (by omega) (fun _ => by
    rw [hN]; subst hV
    exact ⟨rfl, rfl, by rw [e47]; simp [bl]⟩)
  have hS := fun e k => callEv_h (C := cfg) (s := ⟨e, h2, ck + 1 + 1 + 1 + 1⟩) rfl hrun k
  have hA : (askP (newP F)).parts = ps ∧ (askP (newP F)).ans = List.replicate ps.length [] ∧ (askP (newP F)).answd = List.replicate ps.length false := by
    unfold askP; rw [hN]; split <;> exact ⟨rfl, rfl, rfl⟩
  refine ⟨h', ck' + 1 + 1, { v2 with vb := vb }, ck + 1 + 1, ck + 1 + 1 + 1, ?_, by omega, hB', fun _ => ⟨?_, by omega, by omega, by omega, by omega⟩, fun q hq hk => ?_⟩
  · subst hV
    rw [← hH, hN] at hS
    rw [hla] at hP
    simp only [fcs, laysT, layV, iv, gl, ptl, il] at hS hg hP
    simp [hg, c, c', filt_t, gl, il, laysT, layT, hP, ptl, b1, b2, over, put_put, hp_get_put, hS]
  · obtain ⟨a1, a2, a3⟩ := hA
    refine ⟨?_, ?_, ?_, ?_, ?_⟩
    · rw [a1]; subst hV; rfl
    · rw [a1]; subst hV; rfl
    · rw [a1]; subst hV; rfl
    · rw [hfr _ (by simp) (by simp), e38, a2]; simp
    · rw [hfr _ (by simp) (by simp), e47, a3]; simp [bl]
  · rw [hfr q (by omega) hk]
    subst hH
    rw [get_new (by omega), get_new (by omega), get_put_ne hk]
section
variable {N : Nat}
def ibQ (l : List Bool) (x : Bool) (E : Option (Ex × St)) : Prop := (x ∈ l ∧ ∃ (j : Nat) (ck : Nat), E = some (.ret, ⟨[(4, iv j)], [], ck⟩)) ∨ (¬ x ∈ l ∧ ∃ e ck, E = some (.exit 0, ⟨e, [], ck⟩))
def ibI (l : List Bool) (x : Bool) (i : Nat) (s : St) : Prop := Upto (fun y => y != x) l i ∧ ∃ ck, s = ⟨[(0, .t (.l (bl l))), (1, bv x), (7, iv l.length), (8, iv (i : Int))], [], ck⟩
theorem containsb_ret (l : List Bool) (x : Bool) (hl : l.length ≤ 1000000) : RetT cfg 80 [.t (.l (bl l)), bv x] (bv (l.contains x)) := by
  have hL : ∀ ck, ibQ l x (evL cfg (.loop f121l0) ⟨[(0, .t (.l (bl l))), (1, bv x), (7, iv l.length), (8, iv 0)], [], ck⟩) := by
    intro ck
    refine loop_q l.length (ibI l x) ?_ ?_ _ ⟨upto0 _ _, ck, rfl⟩
    · rintro i s hi ⟨h1, ck, rfl⟩
      have hw : IntKind.i64.wrap ((i : Int) + 1) = (i : Int) + 1 := wrap_id (by omega) (by omega)
      by_cases hx : l[i] = x
      · have hb : (x == l[i]) = true := by simp [hx]
        simp [f121l0e, bl, hi, hb]
        exact .inl ⟨by rw [← hx]; exact List.getElem_mem hi, _, _, rfl⟩
      · have hb : (x == l[i]) = false := by simp; exact fun e => hx e.symm
        simp [f121l0e, bl, hi, hb, hw]
        exact ⟨upto_s h1 hi (by simpa using hx), _, rfl⟩
    · rintro s ⟨h1, ck, rfl⟩
      simp [f121l0e]
      refine .inr ⟨fun hm => ?_, _, _, rfl⟩
      obtain ⟨j, hj, rfl⟩ := List.getElem_of_mem hm
      have := h1 j hj hj
      simp at this
  have hI : ∃ j : Int, (0 ≤ j ↔ x ∈ l) ∧ RetT cfg 121 [.t (.l (bl l)), bv x] (iv j) := by
    rcases hL 2 with ⟨hm, j, ck, hc⟩ | ⟨hm, e, ck, hc⟩
    · refine ⟨j, by simp [hm], RetT.of ?_⟩
      rw [runL_pf (fn := f121) rfl rfl]
      simp [bl] at hc
      simp [bl, hc]
    · refine ⟨-1, by simp [hm], RetT.of ?_⟩
      rw [runL_pf (fn := f121) rfl rfl]
      simp [bl] at hc
      simp [bl, hc]
  obtain ⟨j, hj, hr⟩ := hI
  have hc := fun s k => callEv_tr (C := cfg) hr rfl rfl rfl s k
  simp only [bv, iv] at hc
  refine RetT.of ?_
  rw [runL_pf (fn := f80) rfl rfl]
  by_cases hx : x ∈ l
  · have h0 : 0 ≤ j := hj.2 hx
    simp [hc, hx, h0]
  · have h0 : ¬ 0 ≤ j := fun h => hx (hj.1 h)
    simp [hc, hx, h0]
def FlS (h : HP) (ck cf ca cb : Nat) (F : Flt) : Prop := ∃ v, FlB h cf F v ∧ cf < ck ∧ ca < ck ∧ cb < ck ∧ (F.at_ < F.m.lays.length → rowsAre h F v ca cb)
structure Ran (h : HP) (ck cf ca cb : Nat) (h' : HP) (ck' ca' cb' : Nat) : Prop where
  le : ck ≤ ck'
  fr : ∀ q, q.c < ck → q ≠ ⟨34, cf, 5⟩ → q ≠ ⟨38, ca, 6⟩ → q ≠ ⟨47, cb, 6⟩ → h'.get q = h.get q
  ca : ca' = ca ∨ ck ≤ ca'
  cb : cb' = cb ∨ ck ≤ cb'
theorem Ran.trans {h h' h'' : HP} {ck cf ca cb ck' ca' cb' ck'' ca'' cb'' : Nat} (a : Ran h ck cf ca cb h' ck' ca' cb') (b : Ran h' ck' cf ca' cb' h'' ck'' ca'' cb'') : Ran h ck cf ca cb h'' ck'' ca'' cb'' := by
  have l1 := a.le
  have l2 := b.le
  refine ⟨by omega, fun q hq h1 h2 h3 => ?_, ?_, ?_⟩
  · rw [b.fr q (by omega) h1 ?_ ?_, a.fr q hq h1 h2 h3]
    · rintro rfl
      rcases a.ca with e | e
      · rw [e] at h2; exact h2 rfl
      · simp only at hq; omega
    · rintro rfl
      rcases a.cb with e | e
      · rw [e] at h3; exact h3 rfl
      · simp only at hq; omega
  · rcases b.ca with e | e
    · rw [e]; exact a.ca
    · exact .inr (by omega)
  · rcases b.cb with e | e
    · rw [e]; exact a.cb
    · exact .inr (by omega)
theorem Ran.to {h h' : HP} {ck cf ca cb ck' : Nat} (hle : ck ≤ ck') (hfr : ∀ q, q.c < ck → q ≠ ⟨34, cf, 5⟩ → h'.get q = h.get q) : Ran h ck cf ca cb h' ck' ca cb := ⟨hle, fun q hq h1 _ _ => hfr q hq h1, .inl rfl, .inl rfl⟩
structure Ok (N : Nat) (F : Flt) : Prop where
  f0 : Fit0 F
  f1 : F.at_ < F.m.lays.length → Fit F
  ans : ∀ r ∈ F.ans, r.length ≤ 1000000
  led : ∀ l ∈ F.led, l.length ≤ N ∧ ∀ e ∈ l, e.vec.length ≤ 1000000
  bags : ∀ s ∈ F.bag, s.length ≤ 100000
  led5 : F.led.length = 5
def onP (F : Flt) : Flt := { F with toks := combP F.toks F.parts F.ans, at_ := F.at_ + 1 }
def stepP (F : Flt) : Flt := beginP (onP F)
def comeN : Nat → Flt → Flt
  | 0, F => F
  | n + 1, F => if F.at_ < F.m.lays.length ∧ ¬ false ∈ F.answd then comeN n (stepP F) else F
def comeP (F : Flt) : Flt := comeN (F.m.lays.length - F.at_) F
theorem combP_few {ts : List (List Int)} {parts : List Pt} {answers : List (List Int)} (h : Few ts) : Few (combP ts parts answers) ∧ (combP ts parts answers).length = ts.length := by
  have key : ∀ (ps : List Pt) (i : Nat) (acc : List (List Int)), (∀ r ∈ acc, r.length ≤ 1000000) → (∀ r ∈ combA answers i ps acc, r.length ≤ 1000000) ∧ (combA answers i ps acc).length = acc.length := by
    intro ps
    induction ps with
    | nil => intro i acc h; exact ⟨h, rfl⟩
    | cons p ps ih =>
      intro i acc h
      obtain ⟨a, b⟩ := ih (i + 1) _ (comb1_few (answers := answers) (i := i) (p := p) h)
      exact ⟨a, b.trans (comb1_len _ _ _ _)⟩
  obtain ⟨a, b⟩ := key parts 0 ts h.2
  exact ⟨⟨by unfold combP; rw [b]; exact h.1, a⟩, b⟩
theorem askL_len {F : Flt} : ∀ (l : List (Pt × Bool)) (b : List (List UInt8)), b.length ≤ 1000000 → (askL F l b).length ≤ 1000000
  | [], b, h => h
  | x :: r, b, h => by
    unfold askL
    refine askL_len r _ ?_
    split
    · exact h
    · exact sendB_len h
theorem putB_len {a : Msg} (h : wrightM a = true) : (putB a).length ≤ 100 := by
  have hv := (wright_num h).2.2.2.2.2.1
  have hb := bodyB_len (numsA a)
  have hl : (numsA a).length = 11 + a.vec.length := by simp [numsA, nums]; omega
  unfold putB frameB
  simp only [List.length_append, fourI_len, hb, hl]
  omega
theorem sendB_s {b : List (List UInt8)} {a : Msg} (h : ∀ s ∈ b, s.length ≤ 100000) : ∀ s ∈ sendB b a, s.length ≤ 100000 := by
  unfold sendB bagPut
  split
  · rename_i hw
    split
    · intro s hs
      rcases List.mem_append.1 hs with hs | hs
      · exact h s hs
      · rw [List.mem_singleton] at hs
        have := putB_len hw
        rw [hs]; omega
    · exact h
  · exact h
theorem askL_s {F : Flt} : ∀ (l : List (Pt × Bool)) (b : List (List UInt8)), (∀ s ∈ b, s.length ≤ 100000) → ∀ s ∈ askL F l b, s.length ≤ 100000
  | [], b, h => h
  | x :: r, b, h => by
    unfold askL
    refine askL_s r _ ?_
    split
    · exact h
    · exact sendB_s h
theorem askP_ok {F : Flt} (h : Ok N F) : Ok N (askP F) := by
  unfold askP
  split
  · have hb := askL_len (F := F) (F.parts.zip F.answd) F.bag h.f0.bag
    exact ⟨⟨h.f0.m, h.f0.toks, h.f0.ntok, h.f0.ph, hb⟩, fun hc => ⟨(h.f1 hc).na, (h.f1 hc).nd, (h.f1 hc).np, (h.f1 hc).tok, (h.f1 hc).toks, (h.f1 hc).ntok, (h.f1 hc).ph, hb⟩, h.ans, h.led, askL_s _ _ h.bags, h.led5⟩
  · exact h
theorem beginP_ok {F : Flt} (h : Fit0 F) (ha : ∀ r ∈ F.ans, r.length ≤ 1000000) (hl : ∀ l ∈ F.led, l.length ≤ N ∧ ∀ e ∈ l, e.vec.length ≤ 1000000) (hs : ∀ s ∈ F.bag, s.length ≤ 100000) (h5 : F.led.length = 5) : Ok N (beginP F) := by
  unfold beginP
  split
  · refine askP_ok ⟨⟨h.m, h.toks, h.ntok, h.ph, h.bag⟩, fun _ => newP_fit h, fun r hr => ?_, hl, hs, h5⟩
    simp only [newP] at hr
    rw [(List.mem_replicate.1 hr).2]; simp
  · rename_i hc
    exact ⟨h, fun h2 => absurd h2 hc, ha, hl, hs, h5⟩
theorem stepP_ok {F : Flt} (h : Ok N F) : Ok N (stepP F) := by
  obtain ⟨a, b⟩ := combP_few (parts := F.parts) (answers := F.ans) h.f0.toks
  exact beginP_ok ⟨h.f0.m, a, by simp only [onP]; rw [b]; exact h.f0.ntok, h.f0.ph, h.f0.bag⟩ h.ans h.led h.bags h.led5
theorem askP_m (F : Flt) : (askP F).m = F.m ∧ (askP F).at_ = F.at_ ∧ (askP F).pe = F.pe ∧ (askP F).ph = F.ph ∧ (askP F).toks = F.toks ∧ (askP F).led = F.led ∧ (askP F).parts = F.parts ∧ (askP F).ans = F.ans ∧ (askP F).answd = F.answd := by
  unfold askP; split <;> exact ⟨rfl, rfl, rfl, rfl, rfl, rfl, rfl, rfl, rfl⟩
theorem beginP_m (F : Flt) : (beginP F).m = F.m ∧ (beginP F).at_ = F.at_ ∧ (beginP F).pe = F.pe ∧ (beginP F).ph = F.ph ∧ (beginP F).toks = F.toks ∧ (beginP F).led = F.led := by
  unfold beginP
  split
  · obtain ⟨a, b, c, d, e, f, _⟩ := askP_m (newP F)
    exact ⟨a, b, c, d, e, f⟩
  · exact ⟨rfl, rfl, rfl, rfl, rfl, rfl⟩
end
section
variable {N : Nat}
theorem come_end {h : HP} {ck cf ca cb : Nat} {F : Flt} (hS : FlS h ck cf ca cb F) (hO : Ok N F) (hc : ¬ (F.at_ < F.m.lays.length ∧ ¬ false ∈ F.answd)) : ∃ e, evL cfg (.loop f46l0) ⟨[(0, .pt ⟨34, cf, 5⟩ 15 0 0)], h, ck⟩ = some (.exit 0, ⟨e, h, ck + 1⟩) := by
  obtain ⟨v, hB, _, _, _, hr⟩ := hS
  have hg := hB.1
  rw [evL_loop]
  by_cases c : F.at_ < F.m.lays.length
  · obtain ⟨r1, r2, r3, r4, r5⟩ := hr c
    have hm : false ∈ F.answd := Classical.byContradiction fun hn => hc ⟨c, hn⟩
    have hnd := (hO.f1 c).nd
    have hnp := (hO.f1 c).np
    have hq := fun hp (hh : HP.get hp ⟨47, cb, 6⟩ = some (.row 4 1 (bl F.answd) false)) => callQ_t (C := cfg) (h := hp) (args := [.ow ⟨47, cb, 6⟩ 1 0 F.parts.length, bv false]) (ps := [.t (.l (bl F.answd)), bv false]) (by simp only [puresOf, pureOf_ow hh (by simp [bl, hnd] : (bl F.answd).length = F.parts.length)]; rfl) (containsb_ret F.answd false (by omega)) (.inl rfl)
    have hcn : F.answd.contains false = true := by simpa using hm
    rw [hcn] at hq
    simp only [bv] at hq
    simp only [fcs, laysT, r2, r3] at hg
    simp [f46l0e, hg, c, filt_t, hq, r5]
  · simp only [fcs, laysT] at hg
    simp [f46l0e, hg, c, filt_t]
theorem come_step {h : HP} {ck cf ca cb : Nat} {F : Flt} (hS : FlS h ck cf ca cb F) (hO : Ok N F) (hc : F.at_ < F.m.lays.length ∧ ¬ false ∈ F.answd) : ∃ h' ck' ca' cb', evL cfg f46l0 ⟨[(0, .pt ⟨34, cf, 5⟩ 15 0 0)], h, ck⟩ = some (.normal, ⟨[(0, .pt ⟨34, cf, 5⟩ 15 0 0)], h', ck'⟩) ∧ FlS h' ck' cf ca' cb' (stepP F) ∧ Ran h ck cf ca cb h' ck' ca' cb' := by
  obtain ⟨v, hB, l1, l2, l3, hr⟩ := hS
  obtain ⟨c, hm⟩ := hc
  have hg := hB.1
  obtain ⟨o0, o1, o2, o3, o4, o5, o6⟩ := hB.2
  obtain ⟨r1, r2, r3, r4, r5⟩ := hr c
  have hf := hO.f1 c
  have hq := fun hp (hh : HP.get hp ⟨47, cb, 6⟩ = some (.row 4 1 (bl F.answd) false)) => callQ_t (C := cfg) (h := hp) (args := [.ow ⟨47, cb, 6⟩ 1 0 F.parts.length, bv false]) (ps := [.t (.l (bl F.answd)), bv false]) (by simp only [puresOf, pureOf_ow hh (by simp [bl, hf.nd] : (bl F.answd).length = F.parts.length)]; rfl) (containsb_ret F.answd false (by have := hf.nd; have := hf.np; omega)) (.inl rfl)
  have hcn : F.answd.contains false = false := by simpa using hm
  rw [hcn] at hq
  have hw : IntKind.i64.wrap ((F.at_ : Int) + 1) = ((F.at_ + 1 : Nat) : Int) := by
    have := hO.f0.m.1
    rw [wrap_id (by omega) (by omega)]; rfl
  have hcb := fun (s : St) (k : Key) (hh : s.hp.get ⟨38, ca, 6⟩ = some (.row 31 1 (F.ans.map fun r => [il r]) false)) => callEv_k (C := cfg) (k := k) (args := [.t (gl F.toks), .t (ptl F.parts), .ow ⟨38, ca, 6⟩ 1 0 F.parts.length]) (ps := [.t (gl F.toks), .t (ptl F.parts), .t (gl F.ans)]) (s := s) rfl rfl (by simp only [puresOf, pureOf_ow hh (by simp [hf.na] : (F.ans.map fun r => [il r]).length = F.parts.length)]; rfl) (comb_ret F.toks F.parts F.ans (by have := hf.np; omega) hf.toks ⟨by have := hf.na; have := hf.np; omega, hO.ans⟩) rfl
  obtain ⟨cf1, cf2⟩ := combP_few (parts := F.parts) (answers := F.ans) hO.f0.toks
  generalize hH : (HP.put (HP.put h ⟨38, ca, 6⟩ ⟨38, ca, 6⟩ (.row 31 1 (F.ans.map fun r => [il r]) true)) ⟨34, cf, 5⟩ ⟨34, cf, 5⟩ (.box 88 (fcs (onP F) v)) : HP) = h2
  have hB2 : FlB h2 cf (onP F) v := by
    subst hH
    refine ⟨?_, o0, o1, o2, o3, o4, o5, o6⟩
    simp [hp_get_put, hg]
  have h0 : Fit0 (onP F) := ⟨hO.f0.m, cf1, by simp only [onP]; rw [cf2]; exact hO.f0.ntok, hO.f0.ph, hO.f0.bag⟩
  obtain ⟨h', ck', v', ca', cb', hrun, hle, hB', hro, hfr⟩ := begin_run (ck := ck + 1 + 1 + 1 + 1) hB2 h0 (by omega)
  have hbg := fun e k => callEv_h (C := cfg) (s := ⟨e, h2, ck + 1 + 1 + 1⟩) rfl hrun k
  have hfr2 : ∀ q, q.c < ck → q ≠ ⟨34, cf, 5⟩ → q ≠ ⟨38, ca, 6⟩ → q ≠ ⟨47, cb, 6⟩ → h'.get q = h.get q := fun q hq e1 e2 e3 => by
    rw [hfr q (by omega) e1]
    subst hH
    rw [get_put_ne e1, get_put_ne e2]
  have hE : evL cfg f46l0 ⟨[(0, .pt ⟨34, cf, 5⟩ 15 0 0)], h, ck⟩ = some (.normal, ⟨[(0, .pt ⟨34, cf, 5⟩ 15 0 0)], h', ck' + 1 + 1⟩) := by
    rw [← hH] at hbg
    simp only [fcs, onP, laysT, r1, r2, r3, iv, gl, ptl, il] at hbg hg hcb r4
    have hcast : ((F.at_ + 1 : Nat) : Int) = (F.at_ : Int) + 1 := rfl
    rw [hcast] at hw
    simp only [hcast] at hbg
    simp only [bv] at hq
    have e1 : ∀ o, (h.put ⟨38, ca, 6⟩ ⟨38, ca, 6⟩ o).get ⟨34, cf, 5⟩ = h.get ⟨34, cf, 5⟩ := fun o => get_put_ne (by simp)
    simp [f46l0e, hg, c, filt_t, hq, r5, hcb, r4, keysOf, freezeAll, freeze1, e1, hp_get_put, over, hw, put_put, ptl, gl, il, laysT, hbg]
  have hm1 := beginP_m (onP F)
  by_cases c2 : F.at_ + 1 < F.m.lays.length
  · obtain ⟨q1, q2, q3, q4, q5⟩ := hro c2
    exact ⟨h', ck' + 1 + 1, ca', cb', hE, ⟨v', hB', by omega, by omega, by omega, fun _ => q1⟩, by omega, hfr2, .inr (by omega), .inr (by omega)⟩
  · refine ⟨h', ck' + 1 + 1, ca, cb, hE, ⟨v', hB', by omega, by omega, by omega, fun hx => absurd hx ?_⟩, by omega, hfr2, .inl rfl, .inl rfl⟩
    show ¬ (beginP (onP F)).at_ < (beginP (onP F)).m.lays.length
    rw [hm1.1, hm1.2.1]
    exact c2
theorem come_loop : ∀ (n : Nat) {h : HP} {ck cf ca cb : Nat} {F : Flt}, FlS h ck cf ca cb F → Ok N F → F.m.lays.length - F.at_ ≤ n → ∃ h' ck' ca' cb' e, evL cfg (.loop f46l0) ⟨[(0, .pt ⟨34, cf, 5⟩ 15 0 0)], h, ck⟩ = some (.exit 0, ⟨e, h', ck'⟩) ∧ FlS h' ck' cf ca' cb' (comeN n F) ∧ Ok N (comeN n F) ∧ Ran h ck cf ca cb h' ck' ca' cb'
  | 0, h, ck, cf, ca, cb, F, hS, hO, hn => by
    obtain ⟨e, hE⟩ := come_end hS hO (fun hc => by omega)
    refine ⟨h, ck + 1, ca, cb, e, hE, ?_, hO, Ran.to (by omega) fun _ _ _ => rfl⟩
    obtain ⟨v, a, b, c, d, f⟩ := hS
    exact ⟨v, a, by omega, by omega, by omega, f⟩
  | n + 1, h, ck, cf, ca, cb, F, hS, hO, hn => by
    unfold comeN
    by_cases hc : F.at_ < F.m.lays.length ∧ ¬ false ∈ F.answd
    · rw [if_pos hc]
      obtain ⟨h1, ck1, ca1, cb1, hE, hS1, hR1⟩ := come_step hS hO hc
      have hm1 := beginP_m (onP F)
      obtain ⟨h2, ck2, ca2, cb2, e, hE2, hS2, hO2, hR2⟩ := come_loop n hS1 (stepP_ok hO) (by
        unfold stepP
        rw [hm1.1, hm1.2.1]
        simp only [onP]
        omega)
      exact ⟨h2, ck2, ca2, cb2, e, by rw [evL_loop_n hE]; exact hE2, hS2, hO2, hR1.trans hR2⟩
    · rw [if_neg hc]
      obtain ⟨e, hE⟩ := come_end hS hO hc
      refine ⟨h, ck + 1, ca, cb, e, hE, ?_, hO, Ran.to (by omega) fun _ _ _ => rfl⟩
      obtain ⟨v, a, b, c, d, f⟩ := hS
      exact ⟨v, a, by omega, by omega, by omega, f⟩
theorem come_run {h : HP} {ck cf ca cb : Nat} {F : Flt} (hS : FlS h ck cf ca cb F) (hO : Ok N F) : ∃ h' ck' ca' cb', runL cfg 46 [.pt ⟨34, cf, 5⟩ 15 0 0] h ck = some (.tu [], h', ck') ∧ FlS h' ck' cf ca' cb' (comeP F) ∧ Ok N (comeP F) ∧ Ran h ck cf ca cb h' ck' ca' cb' := by
  obtain ⟨h', ck', ca', cb', e, hE, hS', hO', hR⟩ := come_loop (F.m.lays.length - F.at_) hS hO (Nat.le_refl _)
  refine ⟨h', ck', ca', cb', ?_, hS', hO', hR⟩
  rw [runL_pf (fn := f46) rfl rfl]
  simp [hE]
end
section
variable {N : Nat}
def hitP (a : Msg) (p : Pt) : Bool := decide (p.token = a.token) && decide (p.rank = a.rank) && decide (p.expert = a.expert)
def setP (F : Flt) (i : Nat) (v : List Int) : Flt := { F with ans := F.ans.set i v, answd := F.answd.set i true }
def goodA (F : Flt) (a : Msg) : Prop := a.kind = 2 ∧ a.batch = 1 ∧ a.layer = F.at_ ∧ (a.vec.length : Int) = F.m.dim ∧ F.at_ < F.m.lays.length
instance (F : Flt) (a : Msg) : Decidable (goodA F a) := by unfold goodA; exact inferInstance
def answerP (F : Flt) (a : Msg) : Flt := if goodA F a ∧ 0 ≤ fidx (hitP a) F.parts ∧ F.answd.getD (fidx (hitP a) F.parts).toNat true = false then comeP (setP F (fidx (hitP a) F.parts).toNat a.vec) else F
theorem hit_ret (a : Msg) (p : Pt) : RetT cfg 90 [.ag [iv p.token, iv p.rank, iv p.expert, iv p.weight], .pr (msgC a)] (bv (hitP a p)) := by
  refine RetT.of ?_
  rw [runL_pf (fn := f90) rfl rfl]
  unfold hitP
  by_cases h1 : p.token = a.token
  case neg =>
    have d1 : (p.token == a.token) = false := by simp [h1]
    simp [msgC, h1, d1]
  by_cases h2 : p.rank = a.rank
  case neg =>
    have d2 : (p.rank == a.rank) = false := by simp [h2]
    simp [msgC, h1, h2, d2]
  by_cases h3 : p.expert = a.expert
  · simp [msgC, h1, h2, h3]
  · have d3 : (p.expert == a.expert) = false := by simp [h3]
    simp [msgC, h1, h2, h3, d3]
theorem hits_ret (a : Msg) (l : List Pt) (hl : l.length ≤ 1000000) : RetT cfg 89 [.t (ptl l), .fn 90 [.pr (msgC a)]] (.t (.i .i64 (fidx (hitP a) l))) := by
  refine ixf_run (ag := true) (sz := 4) ptT (hitP a) (fun p => .ag [iv p.token, iv p.rank, iv p.expert, iv p.weight]) rfl rfl (by simp [ptT]) (by simp [ptT]) hl ?_
  intro p _ s k hs
  exact ⟨s.ck, by rw [callEv_cl (C := cfg) (hit_ret a p) rfl rfl rfl s k (by simp [puresOf, pureOf, treesOf, treeOf]), hs]; rfl⟩
def mbox (a : Msg) : Ob := .box 95 [iv a.kind, iv a.fr, iv a.to, iv a.seq, iv a.batch, iv a.layer, iv a.token, iv a.rank, iv a.expert, iv a.epoch, .t (il a.vec)]
theorem fls_new {h : HP} {ck cf ca cb : Nat} {F : Flt} (hS : FlS h ck cf ca cb F) {s c o ck' : Nat} (h1 : s ≠ 34) (h2 : s ≠ 38) (h3 : s ≠ 47) (ob : Ob) (hle : ck ≤ ck') : FlS ((⟨s, c, o⟩, ob) :: h) ck' cf ca cb F := by
  obtain ⟨v, hB, l1, l2, l3, hr⟩ := hS
  refine ⟨v, flb_new hB h1 ob, by omega, by omega, by omega, fun hc => ?_⟩
  obtain ⟨a1, a2, a3, a4, a5⟩ := hr hc
  have e1 : ¬ (⟨s, c, o⟩ : Key) = ⟨38, ca, 6⟩ := by rintro h; cases h; exact h2 rfl
  have e2 : ¬ (⟨s, c, o⟩ : Key) = ⟨47, cb, 6⟩ := by rintro h; cases h; exact h3 rfl
  exact ⟨a1, a2, a3, by simp only [HP.get, if_neg e1]; exact a4, by simp only [HP.get, if_neg e2]; exact a5⟩
theorem fls_le {h : HP} {ck cf ca cb ck' : Nat} {F : Flt} (hS : FlS h ck cf ca cb F) (hle : ck ≤ ck') : FlS h ck' cf ca cb F := by
  obtain ⟨v, hB, l1, l2, l3, hr⟩ := hS
  exact ⟨v, hB, by omega, by omega, by omega, hr⟩
set_option maxHeartbeats 2000000 in
theorem answer_run {h : HP} {ck cf ca cb : Nat} {F : Flt} (a : Msg) (hS : FlS h ck cf ca cb F) (hO : Ok N F) (hav : a.vec.length ≤ 1000000) : ∃ h' ck' ca' cb', runL cfg 52 [.pt ⟨34, cf, 5⟩ 15 0 0, msgV a] h ck = some (.tu [], h', ck') ∧ FlS h' ck' cf ca' cb' (answerP F a) ∧ Ok N (answerP F a) ∧ Ran h ck cf ca cb h' ck' ca' cb' := by
  have hS0 := hS
  obtain ⟨v, hB, l1, l2, l3, hr⟩ := hS
  have hg := hB.1
  rw [runL_pf (fn := f52) rfl rfl]
  simp only [fcs, laysT] at hg
  have bad : ∀ n : Nat, ∀ ob : Ob, ¬ (goodA F a ∧ 0 ≤ fidx (hitP a) F.parts ∧ F.answd.getD (fidx (hitP a) F.parts).toNat true = false) → FlS ((⟨3, ck, 0⟩, ob) :: h) (ck + n) cf ca cb (answerP F a) ∧ Ok N (answerP F a) ∧ Ran h ck cf ca cb ((⟨3, ck, 0⟩, ob) :: h) (ck + n) ca cb := fun n ob hc => by
    unfold answerP
    rw [if_neg hc]
    exact ⟨fls_new hS0 (by decide) (by decide) (by decide) ob (by omega), hO, Ran.to (by omega) fun q hq _ => get_new hq⟩
  by_cases c1 : a.kind = 2
  case neg =>
    have d1 : (a.kind != 2) = true := by simp [c1]
    refine ⟨(⟨3, ck, 0⟩, mbox a) :: h, ck + 2, ca, cb, ?_, bad 2 _ (fun h => c1 h.1.1)⟩
    simp [msgV, mbox, hg, filt_t, d1]
  have d1 : (a.kind != 2) = false := by simp [c1]
  by_cases c2 : a.batch = 1
  case neg =>
    have d2 : (a.batch != 1) = true := by simp [c2]
    refine ⟨(⟨3, ck, 0⟩, mbox a) :: h, ck + 2, ca, cb, ?_, bad 2 _ (fun h => c2 h.1.2.1)⟩
    simp [msgV, mbox, hg, filt_t, d1, d2]
  have d2 : (a.batch != 1) = false := by simp [c2]
  by_cases c3 : a.layer = F.at_
  case neg =>
    have d3 : (a.layer != (F.at_ : Int)) = true := by simp [c3]
    refine ⟨(⟨3, ck, 0⟩, mbox a) :: h, ck + 2, ca, cb, ?_, bad 2 _ (fun h => c3 h.1.2.2.1)⟩
    simp [msgV, mbox, hg, filt_t, d1, d2, d3]
  have d3 : (a.layer != (F.at_ : Int)) = false := by simp [c3]
  by_cases c4 : (a.vec.length : Int) = F.m.dim
  case neg =>
    have d4 : ((a.vec.length : Int) != F.m.dim) = true := by simp [c4]
    refine ⟨(⟨3, ck, 0⟩, mbox a) :: h, ck + 2, ca, cb, ?_, bad 2 _ (fun h => c4 h.1.2.2.2.1)⟩
    simp [msgV, mbox, hg, filt_t, d1, d2, d3, d4]
  have d4 : ((a.vec.length : Int) != F.m.dim) = false := by simp [c4]
  by_cases c5 : F.at_ < F.m.lays.length
  case neg =>
    have d5 : F.m.lays.length ≤ F.at_ := by omega
    refine ⟨(⟨3, ck, 0⟩, mbox a) :: h, ck + 2, ca, cb, ?_, bad 2 _ (fun h => c5 h.1.2.2.2.2)⟩
    simp [msgV, mbox, hg, filt_t, d1, d2, d3, d4, d5]
  have d5 : ¬ F.m.lays.length ≤ F.at_ := by omega
  have hga : goodA F a := ⟨c1, c2, c3, c4, c5⟩
  obtain ⟨r1, r2, r3, r4, r5⟩ := hr c5
  have hf := hO.f1 c5
  have hx := fun (s : St) (k : Key) => callEv_fn (C := cfg) (caps0 := [.pt ⟨3, ck, 0⟩ 11 0 0]) (hits_ret a F.parts (by have := hf.np; omega)) rfl rfl rfl s k
  have hlt := fidx_lt (hitP a) F.parts
  have hge := fidx_ge (hitP a) F.parts
  generalize hidx : fidx (hitP a) F.parts = idx at *
  simp only [r1, r2, r3] at hg
  simp only [ptl, msgC, il] at hx hg
  by_cases c6 : idx < 0
  · refine ⟨(⟨3, ck, 0⟩, mbox a) :: h, ck + 4, ca, cb, ?_, bad 4 _ (fun h => by omega)⟩
    simp [msgV, mbox, hg, filt_t, d1, d2, d3, d4, d5, hx, capsOf, capOf, treesOf, treeOf, c6]
  obtain ⟨i, rfl⟩ : ∃ i : Nat, idx = i := ⟨idx.toNat, by omega⟩
  have hi : i < F.parts.length := by omega
  have hid : i < F.answd.length := by have := hf.nd; omega
  have hia : i < F.ans.length := by have := hf.na; omega
  have d6 : decide ((i : Int) < 0) = false := decide_eq_false (by omega)
  have hgd : F.answd.getD i true = F.answd[i] := by simp [List.getD_eq_getElem?_getD, hid]
  have hrg : (bl F.answd)[i]? = some [.b F.answd[i]] := by simp [bl, hid]
  cases c7 : F.answd[i] with
  | true =>
    rw [c7] at hrg
    refine ⟨(⟨3, ck, 0⟩, mbox a) :: h, ck + 4, ca, cb, ?_, bad 4 _ (fun h => by
      have := h.2.2
      rw [Int.toNat_natCast, hgd, c7] at this
      cases this)⟩
    simp [msgV, mbox, hg, filt_t, d1, d2, d3, d4, d5, hx, capsOf, capOf, treesOf, treeOf, d6, hi, r5, hrg]
  | false =>
    rw [c7] at hrg hgd
    have hAP : answerP F a = comeP (setP F i a.vec) := by
      unfold answerP
      rw [hidx, Int.toNat_natCast, if_pos ⟨hga, by omega, hgd⟩]
    generalize hH : ((⟨3, ck, 0⟩, mbox a) :: HP.put (HP.put h ⟨38, ca, 6⟩ ⟨38, ca, 6⟩ (.row 31 1 ((F.ans.set i a.vec).map fun r => [il r]) false)) ⟨47, cb, 6⟩ ⟨47, cb, 6⟩ (.row 4 1 (bl (F.answd.set i true)) false) : HP) = h2
    have hS2 : FlS h2 (ck + 1 + 1 + 1 + 1 + 1 + 1) cf ca cb (setP F i a.vec) := by
      subst hH
      have hb : FlS (HP.put (HP.put h ⟨38, ca, 6⟩ ⟨38, ca, 6⟩ (.row 31 1 ((F.ans.set i a.vec).map fun r => [il r]) false)) ⟨47, cb, 6⟩ ⟨47, cb, 6⟩ (.row 4 1 (bl (F.answd.set i true)) false)) ck cf ca cb (setP F i a.vec) := by
        refine ⟨v, ⟨?_, hB.2⟩, l1, l2, l3, fun _ => ⟨r1, r2, r3, ?_, ?_⟩⟩
        · rw [get_put_ne (by simp), get_put_ne (by simp)]; exact hB.1
        · rw [get_put_ne (by simp), hp_get_put, if_pos rfl, r4]; rfl
        · rw [hp_get_put, if_pos rfl, get_put_ne (by simp), r5]; rfl
      exact fls_le (fls_new hb (by decide) (by decide) (by decide) _ (Nat.le_refl _)) (by omega)
    have hO2 : Ok N (setP F i a.vec) := ⟨⟨hO.f0.m, hO.f0.toks, hO.f0.ntok, hO.f0.ph, hO.f0.bag⟩, fun _ => ⟨by simp [setP, hf.na], by simp [setP, hf.nd], hf.np, hf.tok, hf.toks, hf.ntok, hf.ph, hf.bag⟩, fun r hr => by
      rcases List.mem_or_eq_of_mem_set hr with hr | rfl
      · exact hO.ans r hr
      · exact hav, hO.led, hO.bags, hO.led5⟩
    obtain ⟨h', ck', ca', cb', hrun, hS', hO', hR⟩ := come_run hS2 hO2
    have hcm := fun e k => callEv_h (C := cfg) (s := ⟨e, h2, ck + 1 + 1 + 1 + 1 + 1⟩) rfl hrun k
    rw [hAP]
    refine ⟨h', ck' + 1 + 1, ca', cb', ?_, fls_le hS' (by omega), hO', ?_⟩
    · rw [← hH] at hcm
      simp only [mbox, il, iv, List.map_set, bl] at hcm r4 r5
      simp only [bl] at hrg
      simp [msgV, hg, filt_t, d1, d2, d3, d4, d5, hx, capsOf, capOf, treesC, treesOf, treeOf, keysOf, freezeAll, d6, hi, hia, hid, r4, r5, bl, hrg, c7, hp_get_put, over, hcm]
    · have hle := hR.le
      refine ⟨by omega, fun q hq e1 e2 e3 => ?_, ?_, ?_⟩
      · rw [hR.fr q (by omega) e1 e2 e3]
        subst hH
        rw [get_new hq, get_put_ne e3, get_put_ne e2]
      · rcases hR.ca with e | e
        · exact .inl e
        · exact .inr (by omega)
      · rcases hR.cb with e | e
        · exact .inl e
        · exact .inr (by omega)
end
end Go.Proofs.YtlfjlpleodlkmaaGreatDoor.Pv
