/- Packets, plainly. -/
import Derived.Test.YtccnadleegcobaaPCrc
set_option linter.unusedVariables false
set_option linter.unusedSimpArgs false
namespace Go.Proofs.Ytccnadleegcobaa.Pv
open Go Go.Pev

def crcN (s : List UInt8) : Nat := (crcL 4294967295#32 s ^^^ 4294967295#32).toNat
theorem crcI_N (s : List UInt8) : crcI s = (crcN s : Int) := rfl
theorem crcN_lt (s : List UInt8) : crcN s < 4294967296 := (crcL 4294967295#32 s ^^^ 4294967295#32).isLt
def fourN (n : Nat) : List UInt8 := [UInt8.ofNat (n % 256), UInt8.ofNat (n / 256 % 256), UInt8.ofNat (n / 65536 % 256), UInt8.ofNat (n / 16777216 % 256)]
def fourD (a b c d : UInt8) : Nat := a.toNat + 256 * b.toNat + 65536 * c.toNat + 16777216 * d.toNat
theorem fourD_four (a b c d : UInt8) : fourN (fourD a b c d) = [a, b, c, d] := by
  have ha := a.toNat_lt
  have hb := b.toNat_lt
  have hc := c.toNat_lt
  have hd := d.toNat_lt
  unfold fourN fourD
  rw [show (a.toNat + 256 * b.toNat + 65536 * c.toNat + 16777216 * d.toNat) % 256 = a.toNat by omega,
    show (a.toNat + 256 * b.toNat + 65536 * c.toNat + 16777216 * d.toNat) / 256 % 256 = b.toNat by omega,
    show (a.toNat + 256 * b.toNat + 65536 * c.toNat + 16777216 * d.toNat) / 65536 % 256 = c.toNat by omega,
    show (a.toNat + 256 * b.toNat + 65536 * c.toNat + 16777216 * d.toNat) / 16777216 % 256 = d.toNat by omega]
  simp
theorem four_fourD {n : Nat} (h : n < 4294967296) : ∃ a b c d, fourN n = [a, b, c, d] ∧ fourD a b c d = n := by
  refine ⟨_, _, _, _, rfl, ?_⟩
  unfold fourD
  simp only [UInt8.toNat_ofNat', Nat.reducePow]
  omega
theorem fourN_len (n : Nat) : (fourN n).length = 4 := rfl
theorem fourN_inj {a b : Nat} (ha : a < 4294967296) (hb : b < 4294967296) (h : fourN a = fourN b) : a = b := by
  obtain ⟨a1, a2, a3, a4, e1, e2⟩ := four_fourD ha
  obtain ⟨b1, b2, b3, b4, e3, e4⟩ := four_fourD hb
  rw [e1, e3] at h
  simp only [List.cons.injEq, and_true] at h
  obtain ⟨rfl, rfl, rfl, rfl⟩ := h
  rw [← e2, ← e4]

def packB (kind : UInt8) (seq : Nat) (text : List UInt8) : List UInt8 := (kind :: fourN seq ++ text) ++ fourN (crcN (kind :: fourN seq ++ text))
def packOk (kind : UInt8) (seq : Int) (text : List UInt8) : Prop := (kind = 68 ∨ (kind = 65 ∧ text = [])) ∧ 0 ≤ seq ∧ seq ≤ 2147483647
instance (kind : UInt8) (seq : Int) (text : List UInt8) : Decidable (packOk kind seq text) := by unfold packOk; exact inferInstance
/-- What a packet tells: the kind, the number, the text, and the error. -/
def unpackP (s : List UInt8) : UInt8 × Int × List UInt8 × Int :=
  if s.length < 9 then (0, 0, [], 2)
  else if s.drop (s.length - 4) ≠ fourN (crcN (s.take (s.length - 4))) then (0, 0, [], 9)
  else if packOk (s.getD 0 0) (fourD (s.getD 1 0) (s.getD 2 0) (s.getD 3 0) (s.getD 4 0)) ((s.take (s.length - 4)).drop 5) then (s.getD 0 0, fourD (s.getD 1 0) (s.getD 2 0) (s.getD 3 0) (s.getD 4 0), (s.take (s.length - 4)).drop 5, 0)
  else (0, 0, [], 2)

theorem body_is {s : List UInt8} (h : 9 ≤ s.length) : s.take (s.length - 4) = s.getD 0 0 :: fourN (fourD (s.getD 1 0) (s.getD 2 0) (s.getD 3 0) (s.getD 4 0)) ++ (s.take (s.length - 4)).drop 5 := by
  rw [fourD_four]
  match s, h with
  | a :: b :: c :: d :: e :: r, h =>
    have hk : (a :: b :: c :: d :: e :: r).length - 4 = (r.length - 4) + 5 := by simp at h ⊢; omega
    rw [hk]
    simp
/-- A packet whose sum is right is the packet of what it tells. -/
theorem pack_is {s : List UInt8} (h : 9 ≤ s.length) (hc : s.drop (s.length - 4) = fourN (crcN (s.take (s.length - 4)))) : packB (s.getD 0 0) (fourD (s.getD 1 0) (s.getD 2 0) (s.getD 3 0) (s.getD 4 0)) ((s.take (s.length - 4)).drop 5) = s := by
  unfold packB
  rw [← body_is h, ← hc, List.take_append_drop]

theorem packB_len (kind : UInt8) (seq : Nat) (text : List UInt8) : (packB kind seq text).length = 9 + text.length := by
  simp only [packB, List.length_append, List.length_cons, fourN_len]; omega
/-- What is packed is unpacked. -/
theorem unpack_pack {kind : UInt8} {seq : Int} {text : List UInt8} (h : packOk kind seq text) : unpackP (packB kind seq.toNat text) = (kind, seq, text, 0) := by
  have hl := packB_len kind seq.toNat text
  have hs : seq.toNat < 4294967296 := by have := h.2; omega
  obtain ⟨a, b, c, d, e1, e2⟩ := four_fourD hs
  have hn : (packB kind seq.toNat text).length - 4 = (kind :: fourN seq.toNat ++ text).length := by
    rw [hl]; simp only [List.length_append, List.length_cons, fourN_len]; omega
  have ht : (packB kind seq.toNat text).take ((packB kind seq.toNat text).length - 4) = kind :: fourN seq.toNat ++ text := by
    rw [hn]; unfold packB; exact List.take_left
  have hd : (packB kind seq.toNat text).drop ((packB kind seq.toNat text).length - 4) = fourN (crcN (kind :: fourN seq.toNat ++ text)) := by
    rw [hn]; unfold packB; exact List.drop_left
  unfold unpackP
  rw [if_neg (by omega), ht, hd, if_neg (by simp)]
  have g : ∀ r : List UInt8, (kind :: fourN seq.toNat ++ text ++ r) = kind :: a :: b :: c :: d :: (text ++ r) := fun r => by rw [e1]; rfl
  have g0 : packB kind seq.toNat text = kind :: a :: b :: c :: d :: (text ++ fourN (crcN (kind :: fourN seq.toNat ++ text))) := g _
  have g5 : (kind :: fourN seq.toNat ++ text).drop 5 = text := by rw [e1]; rfl
  rw [g5, g0]
  simp only [List.getD_cons_zero, List.getD_cons_succ, e2]
  have hsn : ((seq.toNat : Nat) : Int) = seq := by have := h.2.1; omega
  rw [hsn, if_pos h]

/-- One byte turned: the sum is wrong. -/
theorem unpack_turned {kind : UInt8} {seq : Nat} {text : List UInt8} {i : Nat} (hi : i < (packB kind seq text).length) {v : UInt8} (hv : v ≠ (packB kind seq text)[i]) : unpackP ((packB kind seq text).set i v) = (0, 0, [], 9) := by
  have hl := packB_len kind seq text
  have hsl : ((packB kind seq text).set i v).length = (packB kind seq text).length := by simp
  generalize hb : kind :: fourN seq ++ text = body at *
  have hp : packB kind seq text = body ++ fourN (crcN body) := by unfold packB; rw [hb]
  have hbl : body.length = 5 + text.length := by rw [← hb]; simp only [List.length_append, List.length_cons, fourN_len]; try omega
  have hn : (packB kind seq text).length - 4 = body.length := by rw [hl, hbl]; omega
  unfold unpackP
  rw [hsl, if_neg (by omega), hn]
  rw [if_pos]
  intro hE
  by_cases hin : i < body.length
  · have h1 : ((packB kind seq text).set i v).take body.length = body.set i v := by
      rw [hp, List.set_append_left _ _ hin]
      have : body.length = (body.set i v).length := by simp
      rw [this]; exact List.take_left
    have h2 : ((packB kind seq text).set i v).drop body.length = fourN (crcN body) := by
      rw [hp, List.set_append_left _ _ hin]
      have : body.length = (body.set i v).length := by simp
      rw [this]; exact List.drop_left
    rw [h1, h2] at hE
    have h3 := fourN_inj (crcN_lt _) (crcN_lt _) hE
    have h4 : (packB kind seq text)[i] = body[i] := by simp only [hp]; exact List.getElem_append_left hin
    exact crcI_set hin (by rw [← h4]; exact hv) (by rw [crcI_N, crcI_N, ← h3])
  · have h1 : ((packB kind seq text).set i v).take body.length = body := by
      rw [hp, List.set_append_right _ _ (by omega)]; exact List.take_left
    have h2 : ((packB kind seq text).set i v).drop body.length = (fourN (crcN body)).set (i - body.length) v := by
      rw [hp, List.set_append_right _ _ (by omega)]; exact List.drop_left
    rw [h1, h2] at hE
    have hi4 : i - body.length < (fourN (crcN body)).length := by rw [fourN_len]; omega
    have h4 : (packB kind seq text)[i] = (fourN (crcN body))[i - body.length] := by simp only [hp]; exact List.getElem_append_right (by omega)
    have h5 : ((fourN (crcN body)).set (i - body.length) v)[i - body.length]'(by simpa using hi4) = (fourN (crcN body))[i - body.length] := by simp only [hE]
    rw [List.getElem_set_self] at h5
    exact hv (by rw [h4]; exact h5)
end Go.Proofs.Ytccnadleegcobaa.Pv
