/- Quote. -/
import Derived.Test.YtkcfigfhbeohfaaGreatDoorTpx
namespace Go.Proofs.YtkcfigfhbeohfaaGreatDoor.Tp
open Go Go.RowKit Go.Maps Go.Proofs.YtkcfigfhbeohfaaGreatDoorW.PrintWords
/-- What is left of a quotation. -/
def QR (acc r : List UInt8) : Option (List UInt8) := (escs r).map fun x => acc ++ x ++ [34]
theorem QR_nil (acc : List UInt8) : QR acc [] = some (acc ++ [34]) := by simp [QR, escs]
theorem QR_step {c : UInt8} {x : List UInt8} (h : esc c = some x) (acc t : List UInt8) : QR acc (c :: t) = QR (acc ++ x) t := by
  unfold QR
  simp only [escs, h]
  cases escs t <;> simp
theorem QR_none {c : UInt8} (h : esc c = none) (acc t : List UInt8) : QR acc (c :: t) = none := by
  unfold QR
  simp only [escs, h]
  simp
theorem esc_len {c : UInt8} {x : List UInt8} (h : esc c = some x) : x.length ≤ 2 := by
  unfold esc at h
  split at h
  · cases h; simp
  · split at h
    · cases h; simp
    · split at h
      · cases h
      · cases h; simp
theorem writeS (b : Nat) (acc x : List UInt8) (s' : ByteArray) (hx : s'.data.toList = x) (W : World) (h : Lib.IsBuilder 63 5 b b (Lib.byteCells acc) W) (hl : acc.length + x.length ≤ 140737488355328) (hb : b ≤ W.heap.size) :
    Calls Tryz.prog 36 #[.pointer (some ⟨b, 0, none⟩), .string s'] W fun e W' => (∃ v, e = .returned v) ∧ Hid (Lib.IsBuilder 63 5 b b (Lib.byteCells (acc ++ x)) W') ∧ Hid (Below b W W') := by
  have hs : s'.size = x.length := by rw [← hx]; simp
  refine (Bld.writeString b b (Lib.byteCells acc) s' W h (by rw [Lib.byteCells_length, hs]; exact hl) hb).mono ?_
  rintro e W' ⟨rfl, h1, h2⟩
  refine ⟨⟨_, rfl⟩, Lib.hid (.inr ?_), Lib.hid h2⟩
  have : Lib.byteCells acc ++ Lib.strCells s' = Lib.byteCells (acc ++ x) := by rw [Lib.strCells_eq, hx]; simp [Lib.byteCells]
  rw [← this]; exact h1
theorem one_cut {s : ByteArray} {q : Nat} {c : UInt8} {t : List UInt8} (h : rest s q = c :: t) : (s.extract q (q + 1)).data.toList = [c] := by
  rw [Lib.extract_data, show q + 1 - q = 1 by omega]
  show (rest s q).take 1 = _
  rw [h]; rfl
def quoteV : Option (List UInt8) → Value
  | some x => .tuple #[.string ⟨x.toArray⟩, .bool true]
  | none => .tuple #[.string ⟨#[]⟩, .bool false]
set_option maxHeartbeats 8000000 in
set_option maxRecDepth 100000 in
theorem quote_calls (W : World) (s : ByteArray) (hz : s.size ≤ 4294967296) :
    Calls Tryz.prog 15 #[.string s] W fun e W' => e = .returned (quoteV (quote s.data.toList)) ∧ Below W.heap.size W W' := by
  obtain ⟨b, hb⟩ : ∃ b, W.heap.size = b := ⟨_, rfl⟩
  rw [hb]
  have HZ := Lib.hid hz
  have HQ0 := Lib.hid (show quote s.data.toList = QR [34] (rest s 0) by rw [rest_zero]; rfl)
  have B0 : Hid (Lib.IsBuilder 63 5 b b (Lib.byteCells []) (W.alloc (.cells #[.pointer none, .slice none 0 0] 63))) := by
    refine Lib.hid (.inl ⟨Nat.le_refl _, .slice none 0 0, ?_, own_nil _ _ _ _, by simp [Value.ownBlock]⟩)
    rw [← hb]; exact blk_new W _
  have Z0 : Hid (b + 1 ≤ (W.alloc (.cells #[.pointer none, .slice none 0 0] 63)).heap.size) := Lib.hid (by simp; omega)
  have E0 : Hid (Below b W (W.alloc (.cells #[.pointer none, .slice none 0 0] 63))) := Lib.hid ((Below.refl b W).alloc (by omega) _)
  clear hz
  go_enter Tryz.func15, Tryz.ntmps15
  go_wp2_with (first | (go_at_call 36; refine (writeS b [] [34] _ rfl _ B0.out ?hl ?hb).mono ?_; (case hl => simp); (case hb => have := Z0.out; omega); rintro e W1 ⟨⟨vW1, rfl⟩, BW1, EW1⟩))
  go_loopg [13] s.size (fun k v13 W' => ∃ (q : Nat) (acc : List UInt8), v13 = .int .i64 (q : Int) ∧ Hid (k = s.size - q) ∧ Hid (q ≤ s.size) ∧ Hid (acc.length ≤ 2 * q + 1) ∧ Hid (Lib.IsBuilder 63 5 b b (Lib.byteCells acc) W') ∧ Hid (b + 1 ≤ W'.heap.size) ∧ Hid (Below b W W') ∧ Hid (quote s.data.toList = QR acc (rest s q)))
  case atStart => exact ⟨0, [34], rfl, Lib.hid rfl, Lib.hid (Nat.zero_le _), Lib.hid (by simp), BW1, Lib.hid (Nat.le_trans Z0.out EW1.out.size), Lib.hid (E0.out.trans EW1.out), HQ0⟩
  case round =>
    obtain ⟨q, acc, rfl, HK, HQ, HA, HB, HS, HE, HR⟩ := hrel
    by_cases hlt : q < s.size
    · have d1 : decide ((q : Int) < (s.size : Int)) = true := by simp; omega
      have hrq := rest_cons hlt
      obtain ⟨c, hc⟩ : ∃ c, s[q]'hlt = c := ⟨_, rfl⟩
      rw [hc] at hrq
      have HRQ := Lib.hid hrq
      clear hrq
      have HX := Lib.hid (one_cut HRQ.out)
      have hw : wrap64 ((q : Int) + 1) = ((q + 1 : Nat) : Int) := by have := HZ.out; unfold wrap64; omega
      by_cases h34 : c = 34
      · have t34 : ((c.toNat : Int) == 34) = true := by rw [h34]; rfl
        have HESC := Lib.hid (show esc c = some [92, c] by unfold esc; rw [if_pos (.inl h34)])
        clear h34
        go_wp2_with (first | (go_at_call 36; refine (writeS b acc [92, c] _ (by rw [ByteArray.data_append, Array.toList_append, HX.out]; rfl) _ HB.out ?hl ?hb).mono ?_; (case hl => have := HA.out; have := HQ.out; have := HZ.out; simp; omega); (case hb => have := HS.out; omega); rintro e W5 ⟨⟨v5, rfl⟩, B5, E5⟩))
        go_roundg (s.size - (q + 1))
        case rel => exact ⟨q + 1, acc ++ [92, c], by rw [hw], Lib.hid rfl, Lib.hid hlt, Lib.hid (by have := HA.out; simp; omega), B5, Lib.hid (Nat.le_trans HS.out E5.out.size), Lib.hid (HE.out.trans E5.out), Lib.hid (by rw [HR.out, HRQ.out]; exact QR_step HESC.out _ _)⟩
        case measure => have := HK.out; omega
      · have t34 : ((c.toNat : Int) == 34) = false := u8_ne (y := 34) h34
        by_cases h92 : c = 92
        · have t92 : ((c.toNat : Int) == 92) = true := by rw [h92]; rfl
          have HESC := Lib.hid (show esc c = some [92, c] by unfold esc; rw [if_pos (.inr h92)])
          clear h34 h92
          go_wp2_with (first | (go_at_call 36; refine (writeS b acc [92, c] _ (by rw [ByteArray.data_append, Array.toList_append, HX.out]; rfl) _ HB.out ?hl ?hb).mono ?_; (case hl => have := HA.out; have := HQ.out; have := HZ.out; simp; omega); (case hb => have := HS.out; omega); rintro e W5 ⟨⟨v5, rfl⟩, B5, E5⟩))
          go_roundg (s.size - (q + 1))
          case rel => exact ⟨q + 1, acc ++ [92, c], by rw [hw], Lib.hid rfl, Lib.hid hlt, Lib.hid (by have := HA.out; simp; omega), B5, Lib.hid (Nat.le_trans HS.out E5.out.size), Lib.hid (HE.out.trans E5.out), Lib.hid (by rw [HR.out, HRQ.out]; exact QR_step HESC.out _ _)⟩
          case measure => have := HK.out; omega
        · have t92 : ((c.toNat : Int) == 92) = false := u8_ne (y := 92) h92
          by_cases h10 : c = 10
          · have t10 : ((c.toNat : Int) == 10) = true := by rw [h10]; rfl
            have HESC := Lib.hid (show esc c = some [92, 110] by unfold esc; rw [if_neg (by simp [h34, h92]), if_pos h10])
            clear h34 h92 h10
            go_wp2_with (first | (go_at_call 36; refine (writeS b acc [92, 110] _ rfl _ HB.out ?hl ?hb).mono ?_; (case hl => have := HA.out; have := HQ.out; have := HZ.out; simp; omega); (case hb => have := HS.out; omega); rintro e W5 ⟨⟨v5, rfl⟩, B5, E5⟩))
            go_roundg (s.size - (q + 1))
            case rel => exact ⟨q + 1, acc ++ [92, 110], by rw [hw], Lib.hid rfl, Lib.hid hlt, Lib.hid (by have := HA.out; simp; omega), B5, Lib.hid (Nat.le_trans HS.out E5.out.size), Lib.hid (HE.out.trans E5.out), Lib.hid (by rw [HR.out, HRQ.out]; exact QR_step HESC.out _ _)⟩
            case measure => have := HK.out; omega
          · have t10 : ((c.toNat : Int) == 10) = false := u8_ne (y := 10) h10
            by_cases hbad : c.toNat < 32 ∨ 126 < c.toNat
            · have HESC := Lib.hid (show esc c = none by unfold esc; rw [if_neg (by simp [h34, h92]), if_neg h10, if_pos hbad])
              have HQN := Lib.hid (show quote s.data.toList = none by rw [HR.out, HRQ.out]; exact QR_none HESC.out _ _)
              clear h34 h92 h10
              rcases hbad with h1 | h1
              · have d32 : decide ((c.toNat : Int) < 32) = true := by simp; omega
                go_wp2_with fail
                go_ret2
                exact ⟨by rw [HQN.out]; rfl, HE.out⟩
              · have d32 : decide ((c.toNat : Int) < 32) = false := by simp; omega
                have d126 : decide ((126 : Int) < (c.toNat : Int)) = true := by simp; omega
                go_wp2_with fail
                go_ret2
                exact ⟨by rw [HQN.out]; rfl, HE.out⟩
            · have d32 : decide ((c.toNat : Int) < 32) = false := by simp; omega
              have d126 : decide ((126 : Int) < (c.toNat : Int)) = false := by simp; omega
              have HESC := Lib.hid (show esc c = some [c] by unfold esc; rw [if_neg (by simp [h34, h92]), if_neg h10, if_neg hbad])
              clear h34 h92 h10 hbad
              go_wp2_with (first | (go_at_call 36; refine (writeS b acc [c] _ HX.out _ HB.out ?hl ?hb).mono ?_; (case hl => have := HA.out; have := HQ.out; have := HZ.out; simp; omega); (case hb => have := HS.out; omega); rintro e W5 ⟨⟨v5, rfl⟩, B5, E5⟩))
              go_roundg (s.size - (q + 1))
              case rel => exact ⟨q + 1, acc ++ [c], by rw [hw], Lib.hid rfl, Lib.hid hlt, Lib.hid (by have := HA.out; simp; omega), B5, Lib.hid (Nat.le_trans HS.out E5.out.size), Lib.hid (HE.out.trans E5.out), Lib.hid (by rw [HR.out, HRQ.out]; exact QR_step HESC.out _ _)⟩
              case measure => have := HK.out; omega
    · have d1 : decide ((q : Int) < (s.size : Int)) = false := by simp; omega
      have HQE := Lib.hid (show quote s.data.toList = some (acc ++ [34]) by
        have : rest s q = [] := (rest_nil HQ.out).2 (by have := HQ.out; omega)
        rw [HR.out, this]; exact QR_nil acc)
      go_wp2_with (first | (go_at_call 36; refine (writeS b acc [34] _ rfl _ HB.out ?hl ?hb).mono ?_; (case hl => have := HA.out; have := HQ.out; have := HZ.out; simp; omega); (case hb => have := HS.out; omega); rintro e W5 ⟨⟨v5, rfl⟩, B5, E5⟩) | (go_at_call 37; refine (Tryz.Builder_String_any b b (acc ++ [34]) _ B5.out ?hw).mono ?_; (case hw => have := HS.out; have := E5.out.size; omega); rintro e W6 ⟨rfl, hb6⟩; have E6 := Lib.hid hb6; clear hb6))
      go_ret2
      exact ⟨by rw [HQE.out]; rfl, (HE.out.trans E5.out).trans E6.out⟩
end Go.Proofs.YtkcfigfhbeohfaaGreatDoor.Tp
