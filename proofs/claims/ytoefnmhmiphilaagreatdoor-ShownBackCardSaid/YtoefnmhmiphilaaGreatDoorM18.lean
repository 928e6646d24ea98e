/- Texts of the claim, merged. -/
import Derived.Test.YtoefnmhmiphilaaGreatDoorM13
import Derived.Test.YtoefnmhmiphilaaGreatDoorRows
import Derived.ChangeArms
import Derived.SliceStrings
import Derived.DataElems
import Derived.DataReads
import Derived.WideShapes
import Derived.Lib.LaidU8
import Derived.MakeChecks
import Derived.LaidMore
import Derived.Test.YtoefnmhmiphilaaGreatDoorM12
import Derived.ChangeSlices
import Derived.Laws.BytesArg
set_option linter.unusedVariables false
set_option linter.unusedSimpArgs false
namespace Go.Proofs.YtoefnmhmiphilaaGreatDoor.Row
open Go Go.ChangeShapes Go.WideShapes Go.RowKit
theorem op_fields {P : Program} {H : Type} {enc : TypeId × Value → H} {W : World} {base : Nat} {sp : Nat → Bool} {held : Bool} {fuel : Nat} {t : TypeId} {fs : Array Field} {cs : List Value} {x : DataW H × List MemPlace} (ht : P.underlying t = some (.struct fs)) (h : DataW.trod enc P W base sp held fuel t cs = some x) :
    cs.length = P.cellsOf t ∧ ∃ m, ∀ (i : Nat) (f : Field), fs[i]? = some f → ∃ y, DataW.trod enc P W base sp held m f.type ((cs.drop f.offset).take (P.cellsOf f.type)) = some y := by
  obtain ⟨xs, n, _, _, hl, hx, hf⟩ := DataW.trod_struct ht h
  refine ⟨hl, n, fun i f hi => ?_⟩
  have h1 := (Array.getElem?_eq_some_iff.1 hi).1
  exact ⟨_, (hf i f hi).trans (List.getElem?_eq_getElem (by omega))⟩
set_option maxRecDepth 100000 in
theorem node_cells {H : Type} {enc : TypeId × Value → H} {W : World} {base : Nat} {sp : Nat → Bool} {held : Bool} {fuel : Nat} {cs : List Value} {x : DataW H × List MemPlace} (h : DataW.trod enc Tryz.prog W base sp held fuel 32 cs = some x) : ∃ nd : Tp.Nd, cs = Tp.cellsN nd := by
  obtain ⟨hl, m, hf⟩ := op_fields Tryz.underlying32 h
  rw [show Tryz.prog.cellsOf 32 = 4 by kernel_rfl] at hl
  match cs, hl with
  | [c0, c1, c2, c3], _ =>
    obtain ⟨y0, h0⟩ := hf 0 _ rfl
    obtain ⟨y1, h1⟩ := hf 1 _ rfl
    obtain ⟨y2, h2⟩ := hf 2 _ rfl
    obtain ⟨y3, h3⟩ := hf 3 _ rfl
    have ci : Tryz.prog.cellsOf 3 = 1 := by kernel_rfl
    have ck : Tryz.prog.cellsOf 30 = 1 := by kernel_rfl
    have cs : Tryz.prog.cellsOf 9 = 1 := by kernel_rfl
    have k0 : DataW.trod enc Tryz.prog W base sp held m 30 [c0] = some y0 := by simpa [ck] using h0
    have k1 : DataW.trod enc Tryz.prog W base sp held m 9 [c1] = some y1 := by simpa [cs] using h1
    have k2 : DataW.trod enc Tryz.prog W base sp held m 3 [c2] = some y2 := by simpa [ci] using h2
    have k3 : DataW.trod enc Tryz.prog W base sp held m 3 [c3] = some y3 := by simpa [ci] using h3
    obtain ⟨n0, e0, _⟩ := DataW.trod_int Tryz.underlying30 k0
    obtain ⟨n1, e1, _⟩ := DataW.trod_string Tryz.underlying9 k1
    obtain ⟨n2, e2, _⟩ := DataW.trod_int Tryz.underlying3 k2
    obtain ⟨n3, e3, _⟩ := DataW.trod_int Tryz.underlying3 k3
    simp only [List.cons.injEq, and_true] at e0 e1 e2 e3
    subst e0 e1 e2 e3
    exact ⟨⟨n0, n1, n2, n3⟩, rfl⟩
theorem encs_of {W : World} {a : Addr} : ∀ (len : Nat), (∀ i, i < len → ∃ nd : Tp.Nd, ∀ j, j < 4 → W.cell? (a.add (i * 4 + j)) = (Tp.cellsN nd)[j]?) → ∃ l : List Tp.Nd, l.length = len ∧ ∀ i, i < len * 4 → W.cell? (a.add i) = (Tp.encs l)[i]?
  | 0, _ => ⟨[], rfl, fun i hi => by omega⟩
  | n + 1, h => by
    obtain ⟨l, hl, hc⟩ := encs_of n (fun i hi => h i (by omega))
    obtain ⟨nd, hn⟩ := h n (by omega)
    refine ⟨l ++ [nd], by simp [hl], fun i hi => ?_⟩
    rw [Tp.encs_snoc]
    by_cases h1 : i < n * 4
    · rw [List.getElem?_append_left (by rw [Tp.encs_len]; omega)]; exact hc i h1
    · rw [List.getElem?_append_right (by rw [Tp.encs_len]; omega), Tp.encs_len, hl]
      have := hn (i - n * 4) (by omega)
      rwa [show n * 4 + (i - n * 4) = i by omega] at this
set_option maxRecDepth 100000 in
theorem open_nodes {H : Type} {enc : TypeId × Value → H} {W : World} {base b0 : Nat} {sp : Nat → Bool} {held : Bool} {r : Reach} {v : Value} {d : DataW H} {p : List MemPlace}
    (hv : Value.okWide Tryz.prog W r b0 22 v) (h : DataW.Trod enc Tryz.prog W base sp held 22 v d p) :
    ∃ (A : Option Addr) (n c : Nat) (l : List Tp.Nd), v = .slice A n c ∧ l.length = n ∧ n ≤ c ∧ Tp.Nv W A l ∧ (A = none → c = 0) := by
  obtain ⟨a0, len0, cap0, rfl⟩ := okWide_slice Tryz.underlying22 hv
  obtain ⟨fuel, hf⟩ := h
  rcases DataW.trod_slice Tryz.underlying22 hf with ⟨hcs, _⟩ | ⟨a, len, cap, elems, rest, n, _, hcs, _, hb, hl, hm, hlen, hel, hsp, hns⟩
  · simp [Value.cells] at hcs
    obtain ⟨rfl, rfl, rfl⟩ := hcs
    exact ⟨none, 0, 0, [], rfl, rfl, Nat.le_refl _, .inl rfl, fun _ => rfl⟩
  · simp [Value.cells] at hcs
    obtain ⟨rfl, rfl, rfl⟩ := hcs
    have hc4 : Tryz.prog.cellsOf 32 = 4 := by kernel_rfl
    have each : ∀ i, i < len0 → ∃ nd : Tp.Nd, ∀ j, j < 4 → W.cell? (a.add (i * 4 + j)) = (Tp.cellsN nd)[j]? := fun i hi => by
      have h1 := hel i hi
      rw [List.getElem?_eq_getElem (by omega), Option.bind_eq_some_iff] at h1
      obtain ⟨c, hcs, hc2⟩ := h1
      obtain ⟨nd, rfl⟩ := node_cells hc2
      have h3 := World.cells?_some hcs
      refine ⟨nd, fun j hj => ?_⟩
      have := h3.2.2 j (by rw [hc4]; exact hj)
      rw [Addr.add_add, hc4] at this
      exact this
    obtain ⟨l, hll, hlc⟩ := encs_of len0 each
    refine ⟨some a, len0, cap0, l, rfl, hll, hl, ?_, fun e => by cases e⟩
    rcases Nat.eq_zero_or_pos len0 with h0 | h0
    · left; exact List.eq_nil_of_length_eq_zero (by omega)
    · right
      obtain ⟨b, o, sp⟩ := a
      obtain ⟨nd, hnd⟩ := each 0 h0
      have h1 := hnd 0 (by omega)
      have hsp : sp = none := by
        cases sp with
        | none => rfl
        | some x =>
          unfold World.cell? at h1
          split at h1
          · simp [Addr.add, Tp.cellsN] at h1
          · simp [Tp.cellsN] at h1
      subst hsp
      refine ⟨b, o, rfl, fun i hi => ?_⟩
      rw [hll] at hi
      have h2 := hlc i hi
      unfold Addr.add at h2
      split at h2
      · rename_i h0'; subst h0'; exact h2
      · exact h2
end Go.Proofs.YtoefnmhmiphilaaGreatDoor.Row
namespace Go.Proofs.YtoefnmhmiphilaaGreatDoor.Tp
open Go Go.RowKit
theorem pow_tab : (Rows.laid_internal_strconv_uint64pow10 : DataW Unit) = Lib.tabData .u64 Lib.pow10Tab := by kernel_rfl
theorem PowD_of {l : List (String × DataW Unit)} {W : World} (h : laidMetH Tryz.prog l W) (hn : (l.all fun x => x.2.handleName?.isNone) = true)
    (h1 : ("internal/strconv.uint64pow10", Rows.laid_internal_strconv_uint64pow10) ∈ l) : PowD W := by
  rw [MakeChecks.laidMetH_plain _ _ _ hn] at h
  obtain ⟨g, t, cs, fuel, p, hg, ht, hv, hd⟩ := Lib.laidMet.reads h h1
  obtain rfl := Option.some.inj ((show Tryz.prog.globalNamed "internal/strconv.uint64pow10" = some 0 by kernel_rfl).symm.trans hg)
  obtain rfl := Option.some.inj ((show (Tryz.prog.globals[0]?).map (·.type) = some 147 by kernel_rfl).symm.trans ht)
  rw [pow_tab] at hd
  unfold PowD Lib.TabIs
  rw [hv, ← Lib.cells_of_tab Tryz.underlying147 Tryz.underlying123 (by kernel_rfl) (by kernel_rfl) hd]
end Go.Proofs.YtoefnmhmiphilaaGreatDoor.Tp

namespace Go.Proofs.YtoefnmhmiphilaaGreatDoor.Row
open Go Go.ChangeShapes Go.WideShapes Go.RowKit
set_option maxRecDepth 100000 in
theorem open_bytes {H : Type} {enc : TypeId × Value → H} {W : World} {base b0 : Nat} {sp : Nat → Bool} {held : Bool} {r : Reach} {v : Value} {d : DataW H} {p : List MemPlace}
    (hv : Value.okWide Tryz.prog W r b0 43 v) (h : DataW.Trod enc Tryz.prog W base sp held 43 v d p) :
    ∃ (A : Option Addr) (c : Nat) (l : ByteArray), v = .slice A l.size c ∧ l.size ≤ c ∧ Tp.By W A l := by
  obtain ⟨a0, len0, cap0, rfl⟩ := okWide_slice Tryz.underlying43 hv
  obtain ⟨fuel, hf⟩ := h
  rcases open_ints Tryz.underlying43 Tryz.underlying5 (by kernel_rfl) hf with ⟨hcs, _⟩ | ⟨a, n, c, zs, hcs, _, hl, hm, hz, _, hcell, hw⟩
  · simp [Value.cells] at hcs
    obtain ⟨rfl, rfl, rfl⟩ := hcs
    exact ⟨none, 0, ⟨#[]⟩, rfl, Nat.le_refl _, ⟨fun _ => rfl, fun a ha => by cases ha⟩⟩
  · simp [Value.cells] at hcs
    obtain ⟨rfl, rfl, rfl⟩ := hcs
    have hlen : (zs.take len0).length = len0 := by
      rw [List.length_take, hz]
      split <;> omega
    have hs : (strOfNums (zs.take len0)).size = len0 := by rw [strOfNums_size, hlen]
    refine ⟨some a, cap0, strOfNums (zs.take len0), by rw [hs], by rw [hs]; exact hl, ⟨fun e => (by cases e), fun a' ha' j hj => ?_⟩⟩
    cases ha'
    rw [hs] at hj
    have h1 : j < zs.length := by rw [List.length_take] at hlen; omega
    rw [hcell j h1]
    have hx : zs.getD j 0 = zs[j] := by simp only [List.getD, List.getElem?_eq_getElem h1, Option.getD_some]
    have hwf := hw zs[j] (List.getElem_mem h1)
    have hb : 0 ≤ zs[j] ∧ zs[j] < 256 := by
      simp only [Lit.wf, IntKind.min, IntKind.max, IntKind.signed, IntKind.bits, Bool.and_eq_true, decide_eq_true_eq] at hwf
      simp at hwf
      omega
    rw [hx]
    have e1 : (strOfNums (zs.take len0))[j]'(by rw [hs]; exact hj) = UInt8.ofNat (zs[j]).toNat := by
      have e2 : (strOfNums (zs.take len0)).data.toList[j]? = some (UInt8.ofNat (zs[j]).toNat) := by
        rw [strOfNums_data, List.getElem?_map, List.getElem?_take_of_lt hj, List.getElem?_eq_getElem h1]; rfl
      have hj2 : j < (strOfNums (zs.take len0)).data.toList.length := by simpa using (show j < (strOfNums (zs.take len0)).size by rw [hs]; exact hj)
      rw [List.getElem?_eq_getElem hj2, Option.some.injEq] at e2
      exact e2
    rw [e1]
    congr 2
    have : (zs[j]).toNat < 256 := by omega
    simp [Nat.mod_eq_of_lt this]
    omega
end Go.Proofs.YtoefnmhmiphilaaGreatDoor.Row
