/- Short names for what the printed forms are made of. -/
import Derived.Test.YtlfjlpleodlkmaaGreatDoorEn1
namespace Go.Pev
abbrev tm (n : Nat) : Opd := .tmp n
abbrev kz (n : Int) : Opd := .c (.t (.i .i64 n))
abbrev kT : Opd := .c (.t (.b true))
abbrev kF : Opd := .c (.t (.b false))
abbrev Qd (i d : Nat) (p : Po) : Nat × Pop := (i, ⟨some d, p, none⟩)
abbrev Gt (i d t : Nat) (p : Po) : Nat × Pop := (i, ⟨some d, p, some (t, true)⟩)
abbrev Gf (i d t : Nat) (p : Po) : Nat × Pop := (i, ⟨some d, p, some (t, false)⟩)
abbrev Qn (i : Nat) (p : Po) : Nat × Pop := (i, ⟨none, p, none⟩)
end Go.Pev
