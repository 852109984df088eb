/- What an argument is, from its type's shape. -/
import Derived.Test.YthkehbdljckbdaaRow
set_option linter.unusedVariables false
set_option linter.unusedSimpArgs false
namespace Go.Pev
open Go Go.RowKit Go.WideShapes

section
variable {P : Program} {n : Nat} {t : TypeId} {ts : List T}
theorem fits_int {k : IntKind} (hu : P.underlying t = some (.int k)) (h : Fits P (n + 1) t ts) : ∃ m, ts = [.i k m] ∧ (Lit.int k m).wf = true := by
  simpa only [Fits, hu] using h
theorem fits_bool (hu : P.underlying t = some .bool) (h : Fits P (n + 1) t ts) : ∃ m, ts = [.b m] ∧ True := by
  simp only [Fits, hu] at h
  obtain ⟨b, h⟩ := h
  exact ⟨b, h, trivial⟩
theorem fits_string (hu : P.underlying t = some .string) (h : Fits P (n + 1) t ts) : ∃ s, ts = [.s s] ∧ s.length ≤ reachBytes := by
  simpa only [Fits, hu] using h
theorem fits_slice {α : Type} {mk : α → List T} {Q : α → Prop} {e : TypeId} (hu : P.underlying t = some (.slice e)) (he : ∀ c, Fits P n e c → ∃ a, c = mk a ∧ Q a) (h : Fits P (n + 1) t ts) : ∃ l : List α, ts = [.l (l.map mk)] ∧ (l.length * P.bytesOf e ≤ reachBytes ∧ ∀ a ∈ l, Q a) := by
  simp only [Fits, hu] at h
  obtain ⟨xs, rfl, hb, hx⟩ := h
  suffices hs : ∃ l : List α, xs = l.map mk ∧ ∀ a ∈ l, Q a by
    obtain ⟨l, rfl, hl⟩ := hs
    exact ⟨l, rfl, by simpa using hb, hl⟩
  clear hb
  induction xs with
  | nil => exact ⟨[], rfl, by simp⟩
  | cons c xs ih =>
    obtain ⟨a, rfl, ha⟩ := he c (hx c List.mem_cons_self).2
    obtain ⟨l, rfl, hl⟩ := ih fun c hc => hx c (List.mem_cons_of_mem _ hc)
    exact ⟨a :: l, rfl, fun b hb => by
      rcases List.mem_cons.1 hb with rfl | hb
      · exact ha
      · exact hl b hb⟩
/-- A struct's fields' types. -/
def structT (P : Program) (t : TypeId) : Option (List TypeId) := match P.underlying t with
  | some (.struct fs) => some (fs.toList.map (·.type))
  | _ => none
def FitsT (F : TypeId → List T → Prop) : List TypeId → List T → Prop
  | [], ts => ts = []
  | t :: r, ts => ∃ a b, ts = a ++ b ∧ F t a ∧ FitsT F r b
theorem fitsT_of {F : TypeId → List T → Prop} : ∀ {fs : List Field} {ts : List T}, FitsF F P fs ts → FitsT F (fs.map (·.type)) ts
  | [], ts, h => h
  | f :: fs, ts, h => by
    obtain ⟨a, b, h1, _, h2, h3⟩ := h
    exact ⟨a, b, h1, h2, fitsT_of h3⟩
theorem fits_struct {tys : List TypeId} (hu : structT P t = some tys) (h : Fits P (n + 1) t ts) : FitsT (Fits P n) tys ts := by
  unfold structT at hu
  split at hu
  · rename_i fs hf
    cases hu
    simp only [Fits, hf] at h
    exact fitsT_of h
  · cases hu
theorem fitsT_cons {F : TypeId → List T → Prop} {α : Type} {mk : α → List T} {Q : α → Prop} {tys : List TypeId} (hf : ∀ c, F t c → ∃ a, c = mk a ∧ Q a) (h : FitsT F (t :: tys) ts) : ∃ a r, ts = mk a ++ r ∧ Q a ∧ FitsT F tys r := by
  obtain ⟨a, b, rfl, h1, h2⟩ := h
  obtain ⟨x, rfl, hx⟩ := hf a h1
  exact ⟨x, b, rfl, hx, h2⟩
theorem argFit_struct {k : Nat} {tys : List TypeId} {x : V} (hu : structT P t = some tys) (h : ArgFit P (k + 1) t x) : ∃ ts, x = .ag (ts.map .t) ∧ FitsT (Fits P k) tys ts := by
  have hu' := hu
  unfold structT at hu
  unfold ArgFit at h
  split at hu
  · rename_i fs hf
    rw [hf] at h
    obtain ⟨ts, rfl, h⟩ := h
    exact ⟨ts, rfl, fits_struct hu' h⟩
  · cases hu
theorem argFit_int {k : Nat} {kd : IntKind} {x : V} (hu : P.underlying t = some (.int kd)) (h : ArgFit P (k + 1) t x) : ∃ m, x = .t (.i kd m) ∧ (Lit.int kd m).wf = true := by
  unfold ArgFit at h
  rw [hu] at h
  obtain ⟨y, rfl, h⟩ := h
  obtain ⟨m, hm, hw⟩ := fits_int hu h
  cases hm
  exact ⟨m, rfl, hw⟩
theorem argFit_bool {k : Nat} {x : V} (hu : P.underlying t = some .bool) (h : ArgFit P (k + 1) t x) : ∃ m, x = .t (.b m) := by
  unfold ArgFit at h
  rw [hu] at h
  obtain ⟨y, rfl, h⟩ := h
  obtain ⟨m, hm, _⟩ := fits_bool hu h
  cases hm
  exact ⟨m, rfl⟩
theorem argFit_string {k : Nat} {x : V} (hu : P.underlying t = some .string) (h : ArgFit P (k + 1) t x) : ∃ s, x = .t (.s s) ∧ s.length ≤ reachBytes := by
  unfold ArgFit at h
  rw [hu] at h
  obtain ⟨y, rfl, h⟩ := h
  obtain ⟨m, hm, hw⟩ := fits_string hu h
  cases hm
  exact ⟨m, rfl, hw⟩
theorem argFit_slice {k : Nat} {x : V} {α : Type} {mk : α → List T} {Q : α → Prop} {e : TypeId} (hu : P.underlying t = some (.slice e)) (he : ∀ c, Fits P k e c → ∃ a, c = mk a ∧ Q a) (h : ArgFit P (k + 1) t x) : ∃ l : List α, x = .t (.l (l.map mk)) ∧ (l.length * P.bytesOf e ≤ reachBytes ∧ ∀ a ∈ l, Q a) := by
  unfold ArgFit at h
  rw [hu] at h
  obtain ⟨y, rfl, h⟩ := h
  obtain ⟨l, hl, hw⟩ := fits_slice hu he h
  cases hl
  exact ⟨l, rfl, hw⟩
theorem argsFit_cons {k : Nat} {t : TypeId} {ts : List TypeId} {xs : List V} (h : ArgsFit P k (t :: ts) xs) : ∃ x r, xs = x :: r ∧ ArgFit P k t x ∧ ArgsFit P k ts r := by
  obtain ⟨x, r, rfl, h1, h2⟩ := h
  exact ⟨x, r, rfl, h1, h2⟩
theorem argsFit_nil {k : Nat} {xs : List V} (h : ArgsFit P k [] xs) : xs = [] := h
end
end Go.Pev
