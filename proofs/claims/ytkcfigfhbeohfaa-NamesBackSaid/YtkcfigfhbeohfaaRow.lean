/- Rows of laws: a slice of strings among the arguments, as the list of its strings. -/
import Derived.Test.YtkcfigfhbeohfaaWWords
import Derived.SizedLaws
import Derived.SliceStrings
namespace Go.Proofs.Ytkcfigfhbeohfaa.Row
open Go.ChangeShapes Go.WideShapes Go.RowKit Go.Proofs.YtkcfigfhbeohfaaW.PrintWords

theorem open_strs {H : Type} {enc : TypeId × Value → H} {P : Program} {W : World} {base : Nat} {spare : Nat → Bool} {held : Bool} {t e : TypeId} {A : Option Addr} {len cap : Nat} {d : DataW H} {ps : List MemPlace}
    (ht : P.underlying t = some (.slice e)) (he : P.underlying e = some .string) (hc : P.cellsOf e = 1) (h : DataW.Trod enc P W base spare held t (.slice A len cap) d ps) :
    ∃ l : List ByteArray, l.length = len ∧ len ≤ cap ∧ Kd.C Kd.string W A l.length l := by
  obtain ⟨fuel, hf⟩ := h
  rcases open_strings ht he hc hf with ⟨hcs, _⟩ | ⟨a, n, c, ss, hcs, _, hl, hm, hz, _, hcell, _⟩
  · simp [Value.cells] at hcs
    obtain ⟨rfl, rfl, rfl⟩ := hcs
    exact ⟨[], rfl, by omega, Kd.C_nil _ _⟩
  · simp [Value.cells] at hcs
    obtain ⟨rfl, rfl, rfl⟩ := hcs
    have hlen : (ss.take len).length = len := by
      rw [List.length_take, hz]
      split <;> omega
    refine ⟨ss.take len, hlen, hl, Kd.C_of_reads (d := ByteArray.empty) (h1 := fun _ => rfl) ⟨rfl, ?_, fun _ => ⟨a, rfl, fun j hj => ?_⟩⟩⟩
    · rw [hlen]
      have : maxLen = 9223372036854775807 := rfl
      omega
    · rw [hlen] at hj
      have h1 : j < ss.length := by rw [List.length_take] at hlen; omega
      rw [hcell j h1]
      congr 2
      simp only [List.getD_eq_getElem?_getD, List.getElem?_take]
      rw [if_pos hj]
end Go.Proofs.Ytkcfigfhbeohfaa.Row
