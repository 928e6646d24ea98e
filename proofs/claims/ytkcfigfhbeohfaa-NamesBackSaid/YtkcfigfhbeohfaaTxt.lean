/- Plain lemmas on texts: what is left of a text at a place; for the loops of printed functions. -/
import Derived.Test.YtkcfigfhbeohfaaWWords
namespace Go.Proofs.Ytkcfigfhbeohfaa.Txt
open Go Go.RowKit Go.Proofs.YtkcfigfhbeohfaaW.PrintWords

/-- `r` is what is left of the text `s` at the place `i`. -/
structure At (s : ByteArray) (i : Int) (r : List UInt8) : Prop where
  ge : 0 ≤ i
  le : i ≤ s.size
  eq : s.data.toList.drop i.toNat = r

variable {s : ByteArray} {i : Int} {c : UInt8} {r : List UInt8}

theorem len (s : ByteArray) : s.data.toList.length = s.size := Array.length_toList
theorem At.zero (s : ByteArray) : At s 0 s.data.toList := ⟨by omega, by omega, rfl⟩
theorem At.length (h : At s i r) : (r.length : Int) = s.size - i := by
  have h1 := h.ge
  have h2 := h.le
  rw [← h.eq, List.length_drop, len]
  omega
theorem At.nil (h : At s i []) : i = s.size := by have := h.length; simp at this; omega
theorem At.lt (h : At s i (c :: r)) : i < s.size := by have := h.length; simp at this; omega
theorem At.not_lt (h : At s i []) : ¬ i < s.size := by have := h.nil; omega
theorem At.byte (h : At s i (c :: r)) : bt s i = c.toNat := by
  have h1 := h.lt
  have h0 := h.ge
  have hl : i.toNat < s.size := by omega
  have hg : s.data.toList[i.toNat]? = some c := by
    have := congrArg (·[0]?) h.eq
    simpa using this
  unfold bt
  rw [dif_pos hl]
  have hl' : i.toNat < s.data.toList.length := by rw [len]; exact hl
  rw [List.getElem?_eq_getElem hl', Option.some.injEq] at hg
  rw [← hg]
  rfl
theorem At.next (h : At s i (c :: r)) : At s (i + 1) r := by
  have h1 := h.lt
  have h0 := h.ge
  refine ⟨by omega, by omega, ?_⟩
  rw [show (i + 1).toNat = i.toNat + 1 by omega, ← List.drop_drop, h.eq]
  rfl
theorem At.wrap (h : At s i (c :: r)) (hs : s.size ≤ 4611686018427387904) : wrap64 (i + 1) = i + 1 := by
  have h1 := h.lt
  have h0 := h.ge
  unfold wrap64
  omega
theorem bt_lt (s : ByteArray) (i : Int) : 0 ≤ bt s i ∧ bt s i ≤ 255 := bt_range s i
theorem u8_le (c : UInt8) : c.toNat ≤ 255 := by have := UInt8.toNat_lt c; omega
theorem u8_eq {c d : UInt8} : c = d ↔ (c.toNat : Int) = d.toNat := by rw [← UInt8.toNat_inj]; omega

/-- A text out of a list of bytes. -/
def mk (l : List UInt8) : ByteArray := ⟨⟨l⟩⟩
theorem ext {a b : ByteArray} (h : a.data.toList = b.data.toList) : a = b := by
  cases a with | mk a => cases b with | mk b => cases a; cases b; simp at h; rw [h]
theorem eq_mk (s : ByteArray) : s = mk s.data.toList := ext rfl
@[simp] theorem mk_list (l : List UInt8) : (mk l).data.toList = l := rfl
@[simp] theorem mk_size (l : List UInt8) : (mk l).size = l.length := by rw [← len]; rfl
theorem toList_eq (s : ByteArray) : s.toList = s.data.toList := ByteArray.toList_eq s
@[simp] theorem mk_toList (l : List UInt8) : (mk l).toList = l := toList_eq _
theorem mk_append (a b : List UInt8) : mk a ++ mk b = mk (a ++ b) := ext (by simp [mk])
theorem extract_list (s : ByteArray) (a b : Nat) : (s.extract a b).data.toList = (s.data.toList.take b).drop a := by
  rw [ByteArray.data_extract, Array.toList_extract, List.extract_eq_take_drop]
  rw [List.drop_take]
theorem mk_extract (l : List UInt8) (a b : Nat) : (mk l).extract a b = mk ((l.take b).drop a) := ext (by rw [extract_list]; rfl)

end Go.Proofs.Ytkcfigfhbeohfaa.Txt
