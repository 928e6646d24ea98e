/- strings.Cut at a separator of one byte: what it answers, whatever the text. -/
import Derived.Test.YtkcfigfhbeohfaaShelf
import Derived.WalkKit
import Derived.WalkSpells
import Derived.Deep.QuietTactic
import Derived.BigQuiet
import Derived.Lib.Hide
namespace Go.Proofs.Ytkcfigfhbeohfaa.Cut
open Go Go.RowKit

/-- A text cut at the first byte `c`. -/
def cutB (s : ByteArray) (c : UInt8) : ByteArray × ByteArray × Bool :=
  if 0 ≤ Lib.indexByte s.data.toList c then
    (s.extract 0 (Lib.indexByte s.data.toList c).toNat, s.extract ((Lib.indexByte s.data.toList c).toNat + 1) s.size, true)
  else (s, ⟨#[]⟩, false)

theorem indexByte_lt (l : List UInt8) (c : UInt8) : Lib.indexByte l c < l.length := by
  induction l with
  | nil => unfold Lib.indexByte; decide
  | cons b l ih =>
    unfold Lib.indexByte
    split
    · simp
    · split
      · simp; omega
      · simp; omega

set_option maxHeartbeats 1000000 in
theorem lite_calls (s : ByteArray) (c : UInt8) (w : World) (hs : s.size ≤ 9223372036854775807) :
    Calls Try.prog 31 #[.string s, .string ⟨#[c]⟩] w fun e w' =>
      e = .returned (.tuple #[.string (cutB s c).1, .string (cutB s c).2.1, .bool (cutB s c).2.2]) ∧ ∃ n, w' = w.drewN n := by
  have hlt := indexByte_lt s.data.toList c
  rw [Array.length_toList] at hlt
  have hsz : s.data.size = s.size := rfl
  rw [hsz] at hlt
  by_cases h : 0 ≤ Lib.indexByte s.data.toList c
  · have hc : cutB s c = (s.extract 0 (Lib.indexByte s.data.toList c).toNat, s.extract ((Lib.indexByte s.data.toList c).toNat + 1) s.size, true) := if_pos h
    rw [hc]
    clear hc hsz
    have C := @Try.stringslite_Index_one s c
    revert C h hlt
    generalize Lib.indexByte s.data.toList c = i
    intro hlt h C
    have H := Lib.hid C
    clear C
    obtain ⟨k, rfl⟩ := Int.eq_ofNat_of_zero_le h
    rw [Int.toNat_natCast]
    have h1 : k + 1 ≤ s.size := by omega
    have h2 : k ≤ s.size := by omega
    go_enter Try.func31, Try.ntmps31
    go_wp2_with (go_at_call 38; refine (H.out _).mono ?_; rintro e w' ⟨rfl, rfl⟩)
    go_quiet (fail)
    go_wp2
    go_ret3
    exact ⟨rfl, _, rfl⟩
  · have hc : cutB s c = (s, ⟨#[]⟩, false) := if_neg h
    rw [hc]
    clear hc hsz
    have C := @Try.stringslite_Index_one s c
    revert C h hlt
    generalize Lib.indexByte s.data.toList c = i
    intro hlt h C
    have H := Lib.hid C
    clear C
    have hb : decide (0 ≤ i) = false := by simpa using h
    go_enter Try.func31, Try.ntmps31
    go_wp2_with (go_at_call 38; refine (H.out _).mono ?_; rintro e w' ⟨rfl, rfl⟩)
    go_ret3
    exact ⟨rfl, 0, rfl⟩

set_option maxHeartbeats 1000000 in
theorem cut_calls (s : ByteArray) (c : UInt8) (w : World) (hs : s.size ≤ 9223372036854775807) :
    Calls Try.prog 21 #[.string s, .string ⟨#[c]⟩] w fun e w' =>
      e = .returned (.tuple #[.string (cutB s c).1, .string (cutB s c).2.1, .bool (cutB s c).2.2]) ∧ ∃ n, w' = w.drewN n := by
  have H := Lib.hid (fun w => lite_calls s c w hs)
  revert H
  generalize cutB s c = r
  intro H
  go_enter Try.func21, Try.ntmps21
  go_wp2_with (go_at_call 31; refine (H.out _).mono ?_; rintro e w' ⟨rfl, n, rfl⟩)
  go_ret3
  exact ⟨rfl, _, rfl⟩

end Go.Proofs.Ytkcfigfhbeohfaa.Cut
