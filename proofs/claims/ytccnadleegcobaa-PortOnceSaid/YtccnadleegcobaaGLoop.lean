/- Loops, by what stays; the library's IndexFunc and ContainsFunc, of rows of any kind. -/
import Derived.Test.YtccnadleegcobaaCfg
set_option linter.unusedVariables false
set_option linter.unusedSimpArgs false
namespace Go.Proofs.Ytccnadleegcobaa.Pv
open Go Go.Pev

/-- What one round may come to: on with it, or out. -/
def Step (E : Option (Ex × St)) (N : St → Prop) (Q : Option (Ex × St) → Prop) : Prop := match E with
  | some (.normal, s) => N s
  | some (e, s) => Q (some (e, s))
  | none => False
theorem step_n (s : St) (N : St → Prop) (Q : Option (Ex × St) → Prop) : Step (some (.normal, s)) N Q = N s := id rfl
theorem step_e (i : Nat) (s : St) (N : St → Prop) (Q : Option (Ex × St) → Prop) : Step (some (.exit i, s)) N Q = Q (some (.exit i, s)) := id rfl
theorem step_r (s : St) (N : St → Prop) (Q : Option (Ex × St) → Prop) : Step (some (.ret, s)) N Q = Q (some (.ret, s)) := id rfl
@[congr] theorem step_congr {E E' : Option (Ex × St)} {N : St → Prop} {Q : Option (Ex × St) → Prop} (h : E = E') : Step E N Q = Step E' N Q := by rw [h]
attribute [simp] step_n step_e step_r

theorem loop_q {C : Cfg} {l : Pc} {Q : Option (Ex × St) → Prop} (n : Nat) (P : Nat → St → Prop)
    (hs : ∀ i s, i < n → P i s → Step (evL C l s) (P (i + 1)) Q) (he : ∀ s, P n s → Step (evL C l s) (fun _ => False) Q) (s : St) (h : P 0 s) : Q (evL C (.loop l) s) := by
  have key : ∀ k i s, i + k = n → P i s → Q (evL C (.loop l) s) := by
    intro k
    induction k with
    | zero =>
      intro i s hi hp
      have hi' : i = n := by omega
      subst hi'
      have h1 := he s hp
      cases hE : evL C l s with
      | none => rw [hE] at h1; exact h1.elim
      | some r =>
        obtain ⟨e, s'⟩ := r
        rw [hE] at h1
        cases e with
        | normal => exact h1.elim
        | exit j => rw [evL_loop_x hE (by simp)]; exact h1
        | ret => rw [evL_loop_x hE (by simp)]; exact h1
    | succ k ih =>
      intro i s hi hp
      have h1 := hs i s (by omega) hp
      cases hE : evL C l s with
      | none => rw [hE] at h1; exact h1.elim
      | some r =>
        obtain ⟨e, s'⟩ := r
        rw [hE] at h1
        cases e with
        | normal => rw [evL_loop_n hE]; exact ih (i + 1) s' (by omega) h1
        | exit j => rw [evL_loop_x hE (by simp)]; exact h1
        | ret => rw [evL_loop_x hE (by simp)]; exact h1
  exact key n 0 s (by omega) h

/-- What a run tells. -/
def RetR (E : Option (V × HP × Nat)) (x : V) : Prop := match E with
  | some (r, h, _) => resOf h r = some x
  | none => False
theorem retR_some (r : V) (h : HP) (c : Nat) (x : V) : RetR (some (r, h, c)) x = (resOf h r = some x) := id rfl
@[congr] theorem retR_congr {E E' : Option (V × HP × Nat)} {x : V} (h : E = E') : RetR E x = RetR E' x := by rw [h]
attribute [simp] retR_some
theorem retT_r {C : Cfg} {f : Nat} {args : List V} {x : V} : RetT C f args x ↔ RetR (runL C f args [] 0) x := by
  constructor
  · rintro ⟨r, h, c, h1, h2⟩
    rw [h1]; exact h2
  · intro h
    cases hE : runL C f args [] 0 with
    | none => rw [hE] at h; exact h.elim
    | some y =>
      obtain ⟨r, hh, c⟩ := y
      rw [hE] at h
      exact ⟨r, hh, c, hE, h⟩

theorem treesOf_t (h : HP) : ∀ ts : List T, treesOf h (ts.map .t) = some ts
  | [] => rfl
  | t :: ts => by simp [treesOf, treeOf, treesOf_t h ts]
theorem keys1_t (h : HP) (ts : List T) : (ts.map V.t).flatMap (keysOf1 h) = [] := by
  induction ts with
  | nil => rfl
  | cons t ts ih => simp [keysOf1, ih]

/-- The first place where it holds; -1: nowhere. -/
def fidx {α : Type} (p : α → Bool) : List α → Int
  | [] => -1
  | x :: r => if p x then 0 else if fidx p r < 0 then -1 else fidx p r + 1
theorem fidx_neg {α : Type} (p : α → Bool) : ∀ l : List α, fidx p l < 0 ↔ l.any p = false
  | [] => by simp [fidx]
  | x :: r => by
    have ih := fidx_neg p r
    unfold fidx
    by_cases h : p x = true
    · simp [h]
    · have h' : p x = false := by simpa using h
      rw [if_neg h]
      by_cases h2 : fidx p r < 0
      · rw [if_pos h2]; simp [h', ih.1 h2]
      · rw [if_neg h2]
        have : ¬ (r.any p = false) := fun e => h2 (ih.2 e)
        simp [h', this]; omega
theorem fidx_ge {α : Type} (p : α → Bool) (l : List α) : -1 ≤ fidx p l := by
  cases l with
  | nil => simp [fidx]
  | cons x r => unfold fidx; split; · omega
                split <;> omega
/-- As far as the i-th place it held nowhere. -/
theorem fidx_at {α : Type} (p : α → Bool) : ∀ (l : List α) (i : Nat) (h : i < l.length), (∀ (j : Nat) (hj : j < i), p (l[j]'(by omega)) = false) → p l[i] = true → fidx p l = i
  | x :: r, 0, h, _, h2 => by simp at h2; simp [fidx, h2]
  | x :: r, i + 1, h, h1, h2 => by
    have h0 := h1 0 (by omega)
    simp at h0
    have ih := fidx_at p r i (by simpa using h) (fun j hj => by have := h1 (j + 1) (by omega); simpa using this) (by simpa using h2)
    unfold fidx
    rw [if_neg (by simp [h0]), ih, if_neg (by omega)]
    omega
theorem fidx_none {α : Type} (p : α → Bool) (l : List α) (h : ∀ (j : Nat) (hj : j < l.length), p l[j] = false) : fidx p l = -1 := by
  have : l.any p = false := by
    rw [List.any_eq_false]
    intro x hx
    obtain ⟨j, hj, rfl⟩ := List.getElem_of_mem hx
    simp [h j hj]
  have h1 := (fidx_neg p l).2 this
  have h2 := fidx_ge p l
  omega
theorem fidx_map {α β : Type} (g : α → β) (p : β → Bool) : ∀ l : List α, fidx p (l.map g) = fidx (fun x => p (g x)) l
  | [] => rfl
  | x :: r => by simp only [List.map_cons, fidx, fidx_map g p r]

/-! ### IndexFunc -/
def ixo0 : List (Nat × Pop) := [(0, ⟨some 4, .mv (.c (.t (.i .i64 0))), none⟩)]
def ixo1 : List (Nat × Pop) := [(0, ⟨some 6, .mv (.tmp 0), none⟩), (1, ⟨some 7, .lenL (.tmp 6), none⟩), (2, ⟨some 8, .mv (.c (.t (.i .i64 0))), none⟩)]
def ixo2 : List (Nat × Pop) := [(0, ⟨some 9, .bin .lss (.tmp 8) (.tmp 7), none⟩)]
def ixo3 : List (Nat × Pop) := [(0, ⟨some 10, .mv (.tmp 8), none⟩), (1, ⟨some 5, .mv (.tmp 10), none⟩)]
def ixo4 (ag : Bool) (sz : Nat) : List (Nat × Pop) := [(0, ⟨some 11, .mv (.tmp 1), none⟩), (1, ⟨some 12, .mv (.tmp 0), none⟩), (2, ⟨some 13, .mv (.tmp 5), none⟩), (3, ⟨some 14, .ixS sz (.tmp 12) (.tmp 13), none⟩), (4, ⟨some 15, .load ag sz (.tmp 14), none⟩), (5, ⟨some 16, .callv (.tmp 11) [.tmp 15], none⟩)]
def ixo5 : List (Nat × Pop) := [(0, ⟨some 17, .mv (.tmp 5), none⟩), (1, ⟨some 4, .mv (.tmp 17), none⟩)]
def ixo6 : List (Nat × Pop) := [(0, ⟨some 18, .bin .add (.tmp 8) (.c (.t (.i .i64 1))), none⟩), (1, ⟨some 8, .mv (.tmp 18), none⟩)]
def ixo7 : List (Nat × Pop) := [(0, ⟨some 4, .mv (.c (.t (.i .i64 (-1)))), none⟩)]
def ixl (ag : Bool) (sz : Nat) : Pc := .seq (.reg ixo2 [0, 1, 7, 8, 9] []) (.seq (.cond (.tmp 9) .skip (.exit 0)) (.seq (.block 1 (.seq (.reg ixo3 [0, 1, 5, 7, 8] []) (.seq (.reg (ixo4 ag sz) [0, 1, 5, 7, 8, 16] []) (.cond (.tmp 16) (.seq (.reg ixo5 [4] []) .ret) .skip)))) (.reg ixo6 [0, 1, 7, 8] [])))
def ixfF (ag : Bool) (sz : Nat) : Pfn := ⟨2, 19, [.tmp 4], .seq (.reg ixo0 [0, 1] []) (.seq (.seq (.reg ixo1 [0, 1, 7, 8] []) (.block 0 (.loop (ixl ag sz)))) (.seq (.reg ixo7 [4] []) .ret))⟩

section
variable {C : Cfg}
variable {α : Type}
def ixP (g : Nat) (caps : List V) (mk : α → List T) (xs : List α) (p : α → Bool) (i : Nat) (s : St) : Prop := (∀ (j : Nat) (hj : j < xs.length), j < i → p xs[j] = false) ∧ ∃ ck, s = ⟨[(0, .t (.l (xs.map mk))), (1, .fn g caps), (7, .t (.i .i64 xs.length)), (8, .t (.i .i64 (i : Int)))], [], ck⟩
def ixQ (xs : List α) (p : α → Bool) (E : Option (Ex × St)) : Prop := (∃ e c, E = some (.exit 0, ⟨e, [], c⟩) ∧ fidx p xs = -1) ∨ (∃ c, E = some (.ret, ⟨[(4, .t (.i .i64 (fidx p xs)))], [], c⟩))
theorem ixf_run {f g : Nat} {caps : List V} {ag : Bool} {sz : Nat} (mk : α → List T) {xs : List α} (p : α → Bool) (arg : α → V) (hpf : C.pf f = some (ixfF ag sz)) (hex : C.ex f = none) (hsz : ∀ a ∈ xs, (mk a).length = sz) (hld : ∀ a ∈ xs, loadOf ag sz ((mk a).map .t) = some (arg a)) (hl : xs.length ≤ 1000000)
    (hp : ∀ a ∈ xs, ∀ (s : St) (k : Key), s.hp = [] → ∃ ck', callEv C (runL C) g (arg a :: caps) s k = some (.t (.b (p a)), [], ck')) : RetT C f [.t (.l (xs.map mk)), .fn g caps] (.t (.i .i64 (fidx p xs))) := by
  have hL : ∀ ck, ixQ xs p (evL C (.loop (ixl ag sz)) ⟨[(0, .t (.l (xs.map mk))), (1, .fn g caps), (7, .t (.i .i64 xs.length)), (8, .t (.i .i64 0))], [], ck⟩) := by
    intro ck
    refine loop_q xs.length (ixP g caps mk xs p) ?_ ?_ _ ⟨fun j hj h => absurd h (Nat.not_lt_zero j), ck, rfl⟩
    · rintro i s hi ⟨h1, ck, rfl⟩
      have hm := List.getElem_mem hi
      have hw : IntKind.i64.wrap ((i : Int) + 1) = (i : Int) + 1 := wrap_id (by omega) (by omega)
      obtain ⟨ck', hc⟩ := hp xs[i] hm ⟨[], [], ck + 2⟩ ⟨16, ck + 2, 5⟩ rfl
      have hc2 : ∀ e, callEv C (runL C) g (arg xs[i] :: caps) ⟨e, [], ck + 1 + 1⟩ ⟨16, ck + 1 + 1, 5⟩ = some (.t (.b (p xs[i])), [], ck') := fun e => hc
      by_cases hx : p xs[i] = true
      · have hid := fidx_at p xs i hi (fun j hj => h1 j (by omega) hj) hx
        rw [hx] at hc2
        simp [-loadOf, ixl, ixo2, ixo3, ixo4, ixo5, ixo6, hi, hsz _ hm, hld _ hm, hc2]
        exact .inr ⟨_, by rw [hid]⟩
      · have hx' : p xs[i] = false := by simpa using hx
        rw [hx'] at hc2
        simp [-loadOf, ixl, ixo2, ixo3, ixo4, ixo5, ixo6, hi, hsz _ hm, hld _ hm, hc2, hw]
        refine ⟨fun j hj hji => ?_, _, rfl⟩
        by_cases e : j = i
        · subst e; exact hx'
        · exact h1 j hj (by omega)
    · rintro s ⟨h1, ck, rfl⟩
      simp [ixl, ixo2]
      exact .inl ⟨_, _, rfl, fidx_none p xs fun j hj => h1 j hj hj⟩
  refine RetT.of ?_
  rw [runL_pf hex hpf]
  have h2 := hL 2
  rcases h2 with ⟨e, c, h2, h3⟩ | ⟨c, h2⟩
  · simp [ixfF, ixo0, ixo1, ixo7, h2, h3]
  · simp [ixfF, ixo0, ixo1, ixo7, h2]
end
def cto0 : List (Nat × Pop) := [(0, ⟨some 4, .mv (.c (.t (.b false))), none⟩)]
def cto1 (ix : Nat) : List (Nat × Pop) := [(0, ⟨some 5, .mv (.tmp 0), none⟩), (1, ⟨some 6, .mv (.tmp 1), none⟩), (2, ⟨some 7, .call ix [.tmp 5, .tmp 6], none⟩), (3, ⟨some 8, .bin .geq (.tmp 7) (.c (.t (.i .i64 0))), none⟩), (4, ⟨some 4, .mv (.tmp 8), none⟩)]
def ctfF (ix : Nat) : Pfn := ⟨2, 9, [.tmp 4], .seq (.reg cto0 [0, 1] []) (.seq (.reg (cto1 ix) [4] []) .ret)⟩
section
variable {C : Cfg}
theorem callEv_fn {f g : Nat} {x : T} {caps caps0 : List V} {v : V} (h : RetT C f [.t x, .fn g caps] v) (hv : flatV v = true) (hm : C.hpm f = false) (ho : C.own f = false) (s : St) (k : Key) (hc : capsOf s.hp caps0 = some caps) : callEv C (runL C) f [.t x, .fn g caps0] s k = some (v, s.hp, s.ck) :=
  callEv_t hm ho (by simp [puresOf, pureOf, hc]) h (.inl hv)
theorem ctf_run {α : Type} {f ix g : Nat} {caps : List V} {x : T} {xs : List α} {p : α → Bool} (hpf : C.pf f = some (ctfF ix)) (hex : C.ex f = none) (hm : C.hpm ix = false) (ho : C.own ix = false) (hc : ∀ h, capsOf h caps = some caps) (hr : RetT C ix [.t x, .fn g caps] (.t (.i .i64 (fidx p xs)))) : RetT C f [.t x, .fn g caps] (.t (.b (xs.any p))) := by
  have h1 := fun s k => callEv_fn (C := C) hr rfl hm ho s k (hc s.hp)
  refine RetT.of ?_
  rw [runL_pf hex hpf]
  have h2 : decide (0 ≤ fidx p xs) = xs.any p := by
    have := fidx_neg p xs
    cases ha : xs.any p with
    | false => have := this.2 ha; simp; omega
    | true => have : ¬ fidx p xs < 0 := fun e => by rw [this.1 e] at ha; cases ha
              simp; omega
  simp [ctfF, cto0, cto1, h1, h2]
end
end Go.Proofs.Ytccnadleegcobaa.Pv
