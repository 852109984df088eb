/- strings.Split, TrimSuffix, strconv.Atoi, Itoa keep the contracts, over any program that bears them. -/
import Derived.Test.YtlfjlpleodlkmaaGreatDoorPrim7
import Derived.Shelf.Strings.Split
import Derived.Shelf.Strings.Prefix
import Derived.Shelf.Strconv.AtoiAll
import Derived.Shelf.Strconv.Itoa3
set_option linter.unusedVariables false
set_option linter.unusedSimpArgs false
namespace Go.Pev
open Go Go.Shelf Go.RowKit Go.Proofs
variable {P : Program} {ρ : Ren}

theorem trimSaid_of (L : Lays.n102 P ρ) : TrimSaid P (ρ.f 102) := fun s p w h => Any.strings_TrimSuffix L s p w (by omega)
theorem splitSaid_of (L : Lays.n146 P ρ) (hi9 : (P.info? (ρ.t 9)).map (fun i => (i.zero, i.size, i.bytes)) = some (some (.string ByteArray.empty), 1, 16)) (hG : ∀ w, globOk w → ∃ m, w.cell? ⟨ρ.g 1, 0, none⟩ = some (.int .i64 m)) : SplitSaid P (ρ.f 146) := by
  intro s p w hw h1 h2
  obtain ⟨m, hm⟩ := hG w hw
  refine (Any.strings_Split L hi9 s p m w h1 hm h2).mono ?_
  rintro e w' ⟨rfl, rfl⟩
  have hlen := Lib.splitB_all p h2 0 _ s rfl
  refine ⟨Lib.splitB p 0 (Lib.countB s p) s, ρ.t 9, ?_, by rw [hlen], rfl⟩
  rw [Lib.splitB_data]
  rfl
theorem itoaSaid_of (L : LaysM.n171 P ρ) (hG : ∀ w, globOk w → Lib.TabIs P w "internal/strconv.uint64pow10" .u64 Lib.pow10Tab) : ItoaSaid P (ρ.f 171) := by
  intro n w hw h0 h1
  refine (Any.strconv_Itoa L n h0 h1 w (hG w hw)).mono ?_
  rintro e w' ⟨rfl, k, os, rfl⟩
  refine ⟨rfl, rfl, rfl, rfl, by simp [Sort.grow, World.drewN], fun g hg => ?_⟩
  show ((w.drewN k).heap ++ os)[g]? = _
  exact Array.getElem?_append_left hg
theorem atoiSaid_of (L : LaysC.n172 P ρ) (h15 : ∀ w, globOk w → ∃ t p, w.cell? ⟨ρ.g 15, 0, none⟩ = some (.iface t p)) (h16 : ∀ w, globOk w → ∃ t p, w.cell? ⟨ρ.g 16, 0, none⟩ = some (.iface t p)) : AtoiSaid P (ρ.f 172) := by
  intro s w hw hl
  cases hx : Lib.atoiAll s.data.toList
  case ok v =>
    refine (Any.strconv_Atoi_ok L s (by omega) v hx w).mono ?_
    rintro e w' ⟨rfl, h⟩
    refine ⟨?_, rfl⟩
    rcases h with rfl | ⟨t, rfl⟩
    · exact Below.refl _ _
    · exact ⟨rfl, rfl, rfl, by rw [Lib.bytesWorld_size]; omega, fun j hj => Lib.bytesWorld_at_old _ _ _ _ hj⟩
  case range =>
    obtain ⟨t, p, hv⟩ := h16 w hw
    refine (Any.strconv_Atoi_range L s hl hx _ w hv (.inr ⟨t, p, rfl⟩)).mono ?_
    rintro e w' ⟨N, rfl, _, _, hb⟩
    exact ⟨hb, _, _, rfl⟩
  · obtain ⟨t, p, hv⟩ := h15 w hw
    refine (Any.strconv_Atoi_syntax L s hl hx _ w hv (.inr ⟨t, p, rfl⟩)).mono ?_
    rintro e w' ⟨N, rfl, _, _, hb⟩
    exact ⟨hb, _, _, rfl⟩
end Go.Pev
