/- The reference's Quote. -/
import Derived.Test.YtkcfigfhbeohfaaDoorTqc
namespace Go.Proofs.YtkcfigfhbeohfaaDoor.Tp
open Go Go.RowKit Go.Maps Go.Proofs.YtkcfigfhbeohfaaDoorW.PrintWords
theorem str_of {B : ByteArray} {l : List UInt8} (h : B.data.toList = l) : B = ⟨l.toArray⟩ := by
  subst h
  exact ByteArray.ext (by simp)
theorem app_list (A B : ByteArray) : (A ++ B).data.toList = A.data.toList ++ B.data.toList := by rw [ByteArray.data_append, Array.toList_append]
set_option maxHeartbeats 8000000 in
set_option maxRecDepth 100000 in
theorem refquote_calls (W : World) (s : ByteArray) (hz : s.size ≤ 4294967296) :
    Calls Tryd.prog 9 #[.string s] W fun e W' => e = .returned (quoteV (quote s.data.toList)) ∧ Below W.heap.size W W' := by
  have HZ := Lib.hid hz
  have HQ0 := Lib.hid (show quote s.data.toList = QR [34] (rest s 0) by rw [rest_zero]; rfl)
  clear hz
  go_enter Tryd.func9, Tryd.ntmps9
  go_wp2_with fail
  go_loopg [4, 5] s.size (fun k v4 v5 W' => ∃ (q : Nat) (O : ByteArray), v4 = .string O ∧ v5 = .int .i64 (q : Int) ∧ Hid (k = s.size - q) ∧ Hid (q ≤ s.size) ∧ Hid (O.size ≤ 2 * q + 1) ∧ Hid (Below W.heap.size W W') ∧ Hid (quote s.data.toList = QR O.data.toList (rest s q)))
  case atStart => exact ⟨0, ⟨#[34]⟩, rfl, rfl, Lib.hid rfl, Lib.hid (Nat.zero_le _), Lib.hid (by decide), Lib.hid (Below.refl _ _), HQ0⟩
  case round =>
    obtain ⟨q, O, rfl, rfl, HK, HQ, HA, HE, HR⟩ := hrel
    by_cases hlt : q < s.size
    · have d1 : decide ((q : Int) < (s.size : Int)) = true := by simp; omega
      have hrq := rest_cons hlt
      obtain ⟨c, hc⟩ : ∃ c, s[q]'hlt = c := ⟨_, rfl⟩
      rw [hc] at hrq
      have HRQ := Lib.hid hrq
      clear hrq
      have HX := Lib.hid (one_cut HRQ.out)
      have hw : wrap64 ((q : Int) + 1) = ((q + 1 : Nat) : Int) := by have := HZ.out; unfold wrap64; omega
      obtain ⟨X, hX⟩ : ∃ X, s.extract q (q + 1) = X := ⟨_, rfl⟩
      rw [hX] at HX
      have hXs : X.size = 1 := congrArg List.length HX.out
      have m1 : ¬ 9223372036854775807 < O.size + 1 := by have := HA.out; have := HQ.out; have := HZ.out; omega
      have m2 : ¬ 9223372036854775807 < O.size + 1 + 1 := by have := HA.out; have := HQ.out; have := HZ.out; omega
      have m3 : ¬ 9223372036854775807 < O.size + 2 := by have := HA.out; have := HQ.out; have := HZ.out; omega
      by_cases h34 : c = 34
      · have t34 : ((c.toNat : Int) == 34) = true := by rw [h34]; rfl
        have HESC := Lib.hid (show esc c = some [92, c] by unfold esc; rw [if_pos (.inl h34)])
        clear h34
        go_wp2_with fail
        go_roundg (s.size - (q + 1))
        case rel => exact ⟨q + 1, O ++ ⟨#[92]⟩ ++ X, rfl, by rw [hw], Lib.hid rfl, Lib.hid hlt, Lib.hid (by have := HA.out; have z1 : (⟨#[92]⟩ : ByteArray).size = 1 := rfl; have z2 : (⟨#[92, 110]⟩ : ByteArray).size = 2 := rfl; simp only [ByteArray.size_append]; omega), HE, Lib.hid (by rw [HR.out, HRQ.out, QR_step HESC.out]; first | rfl | (congr 1; simp only [app_list, HX.out, List.append_assoc]; first | done | rfl) | (congr 1; simp only [app_list, HX.out]))⟩
        case measure => have := HK.out; omega
      · have t34 : ((c.toNat : Int) == 34) = false := u8_ne (y := 34) h34
        by_cases h92 : c = 92
        · have t92 : ((c.toNat : Int) == 92) = true := by rw [h92]; rfl
          have HESC := Lib.hid (show esc c = some [92, c] by unfold esc; rw [if_pos (.inr h92)])
          clear h34 h92
          go_wp2_with fail
          go_roundg (s.size - (q + 1))
          case rel => exact ⟨q + 1, O ++ ⟨#[92]⟩ ++ X, rfl, by rw [hw], Lib.hid rfl, Lib.hid hlt, Lib.hid (by have := HA.out; have z1 : (⟨#[92]⟩ : ByteArray).size = 1 := rfl; have z2 : (⟨#[92, 110]⟩ : ByteArray).size = 2 := rfl; simp only [ByteArray.size_append]; omega), HE, Lib.hid (by rw [HR.out, HRQ.out, QR_step HESC.out]; first | rfl | (congr 1; simp only [app_list, HX.out, List.append_assoc]; first | done | rfl) | (congr 1; simp only [app_list, HX.out]))⟩
          case measure => have := HK.out; omega
        · have t92 : ((c.toNat : Int) == 92) = false := u8_ne (y := 92) h92
          by_cases h10 : c = 10
          · have t10 : ((c.toNat : Int) == 10) = true := by rw [h10]; rfl
            have HESC := Lib.hid (show esc c = some [92, 110] by unfold esc; rw [if_neg (by simp [h34, h92]), if_pos h10])
            clear h34 h92 h10
            go_wp2_with fail
            go_roundg (s.size - (q + 1))
            case rel => exact ⟨q + 1, O ++ ⟨#[92, 110]⟩, rfl, by rw [hw], Lib.hid rfl, Lib.hid hlt, Lib.hid (by have := HA.out; have z1 : (⟨#[92]⟩ : ByteArray).size = 1 := rfl; have z2 : (⟨#[92, 110]⟩ : ByteArray).size = 2 := rfl; simp only [ByteArray.size_append]; omega), HE, Lib.hid (by rw [HR.out, HRQ.out, QR_step HESC.out]; first | rfl | (congr 1; simp only [app_list, HX.out, List.append_assoc]; first | done | rfl) | (congr 1; simp only [app_list, HX.out]))⟩
            case measure => have := HK.out; omega
          · have t10 : ((c.toNat : Int) == 10) = false := u8_ne (y := 10) h10
            by_cases hbad : c.toNat < 32 ∨ 126 < c.toNat
            · have HESC := Lib.hid (show esc c = none by unfold esc; rw [if_neg (by simp [h34, h92]), if_neg h10, if_pos hbad])
              have HQN := Lib.hid (show quote s.data.toList = none by rw [HR.out, HRQ.out]; exact QR_none HESC.out _ _)
              clear h34 h92 h10
              rcases hbad with h1 | h1
              · have d32 : decide ((c.toNat : Int) < 32) = true := by simp; omega
                go_wp2_with fail
                go_ret2
                exact ⟨by rw [HQN.out]; rfl, HE.out⟩
              · have d32 : decide ((c.toNat : Int) < 32) = false := by simp; omega
                have d126 : decide ((126 : Int) < (c.toNat : Int)) = true := by simp; omega
                go_wp2_with fail
                go_ret2
                exact ⟨by rw [HQN.out]; rfl, HE.out⟩
            · have d32 : decide ((c.toNat : Int) < 32) = false := by simp; omega
              have d126 : decide ((126 : Int) < (c.toNat : Int)) = false := by simp; omega
              have HESC := Lib.hid (show esc c = some [c] by unfold esc; rw [if_neg (by simp [h34, h92]), if_neg h10, if_neg hbad])
              clear h34 h92 h10 hbad
              go_wp2_with fail
              go_roundg (s.size - (q + 1))
              case rel => exact ⟨q + 1, O ++ X, rfl, by rw [hw], Lib.hid rfl, Lib.hid hlt, Lib.hid (by have := HA.out; have z1 : (⟨#[92]⟩ : ByteArray).size = 1 := rfl; have z2 : (⟨#[92, 110]⟩ : ByteArray).size = 2 := rfl; simp only [ByteArray.size_append]; omega), HE, Lib.hid (by rw [HR.out, HRQ.out, QR_step HESC.out]; first | rfl | (congr 1; simp only [app_list, HX.out, List.append_assoc]; first | done | rfl) | (congr 1; simp only [app_list, HX.out]))⟩
              case measure => have := HK.out; omega
    · have d1 : decide ((q : Int) < (s.size : Int)) = false := by simp; omega
      have m1 : ¬ 9223372036854775807 < O.size + 1 := by have := HA.out; have := HQ.out; have := HZ.out; omega
      have HQE := Lib.hid (show quote s.data.toList = some (O.data.toList ++ [34]) by
        have : rest s q = [] := (rest_nil HQ.out).2 (by have := HQ.out; omega)
        rw [HR.out, this]; exact QR_nil _)
      go_wp2_with fail
      go_ret2
      exact ⟨by rw [HQE.out, str_of (B := O ++ ⟨#[34]⟩) (l := O.data.toList ++ [34]) (app_list _ _)]; rfl, HE.out⟩
end Go.Proofs.YtkcfigfhbeohfaaDoor.Tp
