/- The reference's run, for any two bounds. -/
import Derived.Test.YtkcfigfhbeohfaaGreatDoorTrd
namespace Go.Proofs.YtkcfigfhbeohfaaGreatDoor.Tp
open Go Go.RowKit Go.Maps Go.Proofs.YtkcfigfhbeohfaaGreatDoorW.PrintWords
/-- Between two bytes. -/
def btw (lo hi c : UInt8) : Bool := decide (lo.toNat ≤ c.toNat) && decide (c.toNat ≤ hi.toNat)
theorem all_snocP {P : UInt8 → Bool} {l : List UInt8} {q : Nat} (hq : q < l.length) (h : (l.take q).all P = true) (hc : P l[q] = true) : (l.take (q + 1)).all P = true := by
  rw [List.take_succ_eq_append_getElem hq, List.all_append, h]
  simp [hc]
theorem tw_lenP {P : UInt8 → Bool} {l : List UInt8} {q : Nat} (h : (l.take q).all P = true) (hq : q ≤ l.length) (hn : ∀ c t, l.drop q = c :: t → P c = false) : (l.takeWhile P).length = q := by
  have h1 := (while_follow (x := l.drop q) h hn).1
  rw [List.take_append_drop] at h1
  rw [h1, List.length_take]; omega
set_option maxHeartbeats 8000000 in
set_option maxRecDepth 100000 in
theorem run_gen (W : World) (D : ByteArray) (lo hi : UInt8) (hz : D.size ≤ 4294967296) :
    Calls Tryz.prog 48 #[.string D, .int .u8 (lo.toNat : Int), .int .u8 (hi.toNat : Int)] W fun e W' => e = .returned (.int .i64 ((D.data.toList.takeWhile (btw lo hi)).length : Int)) ∧ W' = W := by
  have HZ := Lib.hid hz
  have HL := Lib.hid (show D.data.toList.length = D.size by simp)
  clear hz
  go_enter Tryz.func48, Tryz.ntmps48
  go_wp2_with fail
  go_loopg [7] D.size (fun k v7 W' => ∃ q : Nat, v7 = .int .i64 (q : Int) ∧ Hid (k = D.size - q) ∧ Hid (q ≤ D.size) ∧ Hid ((D.data.toList.take q).all (btw lo hi) = true) ∧ Hid (W' = W))
  case atStart => exact ⟨0, rfl, Lib.hid rfl, Lib.hid (Nat.zero_le _), Lib.hid (by simp), Lib.hid rfl⟩
  case round =>
    obtain ⟨q, rfl, HK, HQ, HD, HW⟩ := hrel
    by_cases hlt : q < D.size
    · have d1 : decide ((q : Int) < (D.size : Int)) = true := by simp; omega
      obtain ⟨c, hc⟩ : ∃ c, D[q]'hlt = c := ⟨_, rfl⟩
      have HC := Lib.hid hc
      have HDR := Lib.hid (show D.data.toList.drop q = c :: D.data.toList.drop (q + 1) by
        rw [List.drop_eq_getElem_cons (by rw [HL.out]; exact hlt), show D.data.toList[q]'(by rw [HL.out]; exact hlt) = c from hc])
      have hw : wrap64 ((q : Int) + 1) = ((q + 1 : Nat) : Int) := by have := HZ.out; unfold wrap64; omega
      by_cases h1 : lo.toNat ≤ c.toNat
      · have d2 : decide ((lo.toNat : Int) ≤ (c.toNat : Int)) = true := by simp; omega
        by_cases h2 : c.toNat ≤ hi.toNat
        · have d3 : decide ((c.toNat : Int) ≤ (hi.toNat : Int)) = true := by simp; omega
          have HDG := Lib.hid (show btw lo hi c = true by simp [btw]; omega)
          go_wp2_with fail
          go_roundg (D.size - (q + 1))
          case rel => exact ⟨q + 1, by rw [hw], Lib.hid rfl, Lib.hid hlt, Lib.hid (all_snocP (by rw [HL.out]; exact hlt) HD.out (by have := HC.out; rw [show D.data.toList[q] = D[q] from rfl, this]; exact HDG.out)), HW⟩
          case measure => have := HK.out; omega
        · have d3 : decide ((c.toNat : Int) ≤ (hi.toNat : Int)) = false := by simp; omega
          have HT := Lib.hid (tw_lenP HD.out (by rw [HL.out]; exact HQ.out) (fun c' t' e => by rw [HDR.out] at e; cases e; simp [btw]; omega))
          go_wp2_with fail
          go_ret
          exact ⟨by rw [HT.out]; rfl, HW.out⟩
      · have d2 : decide ((lo.toNat : Int) ≤ (c.toNat : Int)) = false := by simp; omega
        have HT := Lib.hid (tw_lenP HD.out (by rw [HL.out]; exact HQ.out) (fun c' t' e => by rw [HDR.out] at e; cases e; simp [btw]; omega))
        go_wp2_with fail
        go_ret
        exact ⟨by rw [HT.out]; rfl, HW.out⟩
    · have d1 : decide ((q : Int) < (D.size : Int)) = false := by simp; omega
      have HT := Lib.hid (tw_lenP HD.out (by rw [HL.out]; exact HQ.out) (fun c' t' e => by have := congrArg List.length e; rw [List.length_drop, HL.out] at this; simp at this; omega))
      go_wp2_with fail
      go_ret
      exact ⟨by rw [HT.out]; rfl, HW.out⟩
end Go.Proofs.YtkcfigfhbeohfaaGreatDoor.Tp
