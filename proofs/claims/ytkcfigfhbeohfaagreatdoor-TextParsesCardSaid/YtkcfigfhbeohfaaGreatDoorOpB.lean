/- Rows of laws: bytes among the arguments. -/
import Derived.Test.YtkcfigfhbeohfaaGreatDoorTqe
import Derived.ChangeSlices
import Derived.WideShapes
import Derived.Laws.BytesArg
namespace Go.Proofs.YtkcfigfhbeohfaaGreatDoor.Row
open Go Go.ChangeShapes Go.WideShapes Go.RowKit
set_option maxRecDepth 100000 in
theorem open_bytes {H : Type} {enc : TypeId × Value → H} {W : World} {base b0 : Nat} {sp : Nat → Bool} {held : Bool} {r : Reach} {v : Value} {d : DataW H} {p : List MemPlace}
    (hv : Value.okWide Tryz.prog W r b0 22 v) (h : DataW.Trod enc Tryz.prog W base sp held 22 v d p) :
    ∃ (A : Option Addr) (c : Nat) (l : ByteArray), v = .slice A l.size c ∧ l.size ≤ c ∧ Tp.By W A l := by
  obtain ⟨a0, len0, cap0, rfl⟩ := okWide_slice Tryz.underlying22 hv
  obtain ⟨fuel, hf⟩ := h
  rcases open_ints Tryz.underlying22 Tryz.underlying5 (by kernel_rfl) hf with ⟨hcs, _⟩ | ⟨a, n, c, zs, hcs, _, hl, hm, hz, _, hcell, hw⟩
  · simp [Value.cells] at hcs
    obtain ⟨rfl, rfl, rfl⟩ := hcs
    exact ⟨none, 0, ⟨#[]⟩, rfl, Nat.le_refl _, ⟨fun _ => rfl, fun a ha => by cases ha⟩⟩
  · simp [Value.cells] at hcs
    obtain ⟨rfl, rfl, rfl⟩ := hcs
    have hlen : (zs.take len0).length = len0 := by
      rw [List.length_take, hz]
      split <;> omega
    have hs : (strOfNums (zs.take len0)).size = len0 := by rw [strOfNums_size, hlen]
    refine ⟨some a, cap0, strOfNums (zs.take len0), by rw [hs], by rw [hs]; exact hl, ⟨fun e => (by cases e), fun a' ha' j hj => ?_⟩⟩
    cases ha'
    rw [hs] at hj
    have h1 : j < zs.length := by rw [List.length_take] at hlen; omega
    rw [hcell j h1]
    have hx : zs.getD j 0 = zs[j] := by simp only [List.getD, List.getElem?_eq_getElem h1, Option.getD_some]
    have hwf := hw zs[j] (List.getElem_mem h1)
    have hb : 0 ≤ zs[j] ∧ zs[j] < 256 := by
      simp only [Lit.wf, IntKind.min, IntKind.max, IntKind.signed, IntKind.bits, Bool.and_eq_true, decide_eq_true_eq] at hwf
      simp at hwf
      omega
    rw [hx]
    have e1 : (strOfNums (zs.take len0))[j]'(by rw [hs]; exact hj) = UInt8.ofNat (zs[j]).toNat := by
      have e2 : (strOfNums (zs.take len0)).data.toList[j]? = some (UInt8.ofNat (zs[j]).toNat) := by
        rw [strOfNums_data, List.getElem?_map, List.getElem?_take_of_lt hj, List.getElem?_eq_getElem h1]; rfl
      have hj2 : j < (strOfNums (zs.take len0)).data.toList.length := by simpa using (show j < (strOfNums (zs.take len0)).size by rw [hs]; exact hj)
      rw [List.getElem?_eq_getElem hj2, Option.some.injEq] at e2
      exact e2
    rw [e1]
    congr 2
    have : (zs[j]).toNat < 256 := by omega
    simp [Nat.mod_eq_of_lt this]
    omega
end Go.Proofs.YtkcfigfhbeohfaaGreatDoor.Row
