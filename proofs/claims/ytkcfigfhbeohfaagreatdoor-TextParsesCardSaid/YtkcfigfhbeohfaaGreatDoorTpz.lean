/- Has a text this Fail? -/
import Derived.Test.YtkcfigfhbeohfaaGreatDoorTpy
import Derived.Lib.ConvBytes
import Derived.Lib.SlBytesRow
import Derived.Lib.SlBytesConst
namespace Go.Proofs.YtkcfigfhbeohfaaGreatDoor.Tp
open Go Go.RowKit Go.Maps Go.Proofs.YtkcfigfhbeohfaaGreatDoorW.PrintWords
theorem PRes.err {s : ByteArray} {W W' : World} {r : Ending} {c q : Int} (hx : parsed s.data.toList = .error (c, q)) (h : PRes s W r W') : r = .returned (.tuple #[.slice none 0 0, .agg #[.int .i64 c, .int .i64 q]]) ∧ Below W.heap.size W W' := by
  unfold PRes at h; rw [hx] at h; exact ⟨h.2, h.1⟩
theorem PRes.ok {s : ByteArray} {W W' : World} {r : Ending} {o : List Nd} (hx : parsed s.data.toList = .ok o) (h : PRes s W r W') : ∃ a cap, r = .returned (.tuple #[.slice a o.length cap, .agg #[.int .i64 0, .int .i64 0]]) ∧ W'.ownsRow W.heap.size 45 4 (.slice a o.length cap) o.length (encs o) ∧ Below W.heap.size W W' := by
  unfold PRes at h; rw [hx] at h
  obtain ⟨h1, v', h2, h3⟩ := h
  obtain ⟨a, cap, rfl⟩ := own_slice h3
  exact ⟨a, cap, h2, h3, h1⟩
theorem bytes_lies (W : World) (s : ByteArray) : Lib.Bytes (Lib.bytesWorld W 5 s) W.heap.size 0 s := by
  intro i hi
  rw [Nat.zero_add, Lib.bytesWorld_cell W _ s i hi]
  have : s.data.toList.getD i 0 = s[i] := by
    have hi' : i < s.data.toList.length := by simpa using hi
    simp only [List.getD, List.getElem?_eq_getElem hi', Option.getD_some]; rfl
  rw [this]
theorem Bytes.below {W W' : World} {b o B : Nat} {s : ByteArray} (h : Lib.Bytes W b o s) (hb : Below B W W') (hB : b < B) : Lib.Bytes W' b o s := fun i hi => by
  rw [← h i hi]; exact hb.cell (p := ⟨b, o + i, none⟩) hB
theorem bytes_below (W : World) (s : ByteArray) : Below W.heap.size W (Lib.bytesWorld W 5 s) :=
  ⟨rfl, rfl, rfl, by rw [Lib.bytesWorld_size]; omega, fun k hk => Lib.bytesWorld_at_old W _ s k hk⟩
theorem conv_bytes (W : World) (s : ByteArray) : (convert 9 22 (.string s)).run Tryz.prog W = .ok (.slice (some ⟨W.heap.size, 0, none⟩) s.size (grownCap W s.size 0 5)) (Lib.bytesWorld W 5 s) :=
  Lib.run_convert_string_bytes W _ _ _ s Tryz.underlying9 Tryz.underlying22 Tryz.underlying5
/-- Parse of bytes that lie at a block's head. -/
theorem parse_at (W : World) (b cap : Nat) (s : ByteArray) (h : Lib.Bytes W b 0 s) (hb : b < W.heap.size) (hz : s.size ≤ 4611686018427387904) :
    Calls Tryz.prog 4 #[.slice (some ⟨b, 0, none⟩) s.size cap] W (PRes s W) :=
  parse_calls W (some ⟨b, 0, none⟩) cap s (fun W' hb' => Lib.run_convert_whole W' _ _ _ Tryz.underlying22 Tryz.underlying5 Tryz.underlying9 b 0 s (Bytes.below h hb' hb) cap) hz
theorem parse_str (W : World) (s : ByteArray) (cap : Nat) (hz : s.size ≤ 4611686018427387904) :
    Calls Tryz.prog 4 #[.slice (some ⟨W.heap.size, 0, none⟩) s.size cap] (Lib.bytesWorld W 5 s) (PRes s (Lib.bytesWorld W 5 s)) :=
  parse_at _ _ cap s (bytes_lies W s) (by rw [Lib.bytesWorld_size]; omega) hz
set_option maxHeartbeats 8000000 in
set_option maxRecDepth 100000 in
theorem fails_calls (W : World) (s : ByteArray) (c q : Int) (hz : s.size ≤ 4611686018427387904) (hx : parsed s.data.toList = .error (c, q)) :
    Calls Tryz.prog 17 #[.string s, .int .i64 c, .int .i64 q] W fun e W' => e = .returned (.bool true) ∧ Below W.heap.size W W' := by
  have HX := Lib.hid hx
  have HZ := Lib.hid hz
  have kb := conv_bytes W s
  clear hx hz
  go_enter Tryz.func17, Tryz.ntmps17
  go_wp2_with (first | (go_at_call 4; refine (parse_str W s _ HZ.out).mono ?_; intro e1 W1 hR; obtain ⟨rfl, hb1⟩ := hR.err HX.out; have B1 := Lib.hid hb1; clear hR hb1))
  go_ret
  refine ⟨rfl, ((bytes_below W s).trans (B1.out.mono (by rw [Lib.bytesWorld_size]; omega))).alloc ?_ _⟩
  have := B1.out.size
  rw [Lib.bytesWorld_size] at this
  omega
end Go.Proofs.YtkcfigfhbeohfaaGreatDoor.Tp
