/- Texts of the claim, merged. -/
import Derived.Test.YtoefnmhmiphilaaGreatDoorM6
import Derived.Lib.ConvBytes
import Derived.Lib.SlBytesRow
import Derived.Lib.SlBytesConst
set_option linter.unusedVariables false
set_option linter.unusedSimpArgs false
namespace Go.Proofs.YtoefnmhmiphilaaGreatDoor.Tp
open Go Go.RowKit Go.Maps Go.Proofs.YtoefnmhmiphilaaGreatDoorW.PrintWords
theorem PRes.err {s : ByteArray} {W W' : World} {r : Ending} {c q : Int} (hx : parsed s.data.toList = .error (c, q)) (h : PRes s W r W') : r = .returned (.tuple #[.slice none 0 0, .agg #[.int .i64 c, .int .i64 q]]) ∧ Below W.heap.size W W' := by
  unfold PRes at h; rw [hx] at h; exact ⟨h.2, h.1⟩
theorem PRes.ok {s : ByteArray} {W W' : World} {r : Ending} {o : List Nd} (hx : parsed s.data.toList = .ok o) (h : PRes s W r W') : ∃ a cap, r = .returned (.tuple #[.slice a o.length cap, .agg #[.int .i64 0, .int .i64 0]]) ∧ W'.ownsRow W.heap.size 32 4 (.slice a o.length cap) o.length (encs o) ∧ Below W.heap.size W W' := by
  unfold PRes at h; rw [hx] at h
  obtain ⟨h1, v', h2, h3⟩ := h
  obtain ⟨a, cap, rfl⟩ := own_slice h3
  exact ⟨a, cap, h2, h3, h1⟩
theorem bytes_lies (W : World) (s : ByteArray) : Lib.Bytes (Lib.bytesWorld W 5 s) W.heap.size 0 s := by
  intro i hi
  rw [Nat.zero_add, Lib.bytesWorld_cell W _ s i hi]
  have : s.data.toList.getD i 0 = s[i] := by
    have hi' : i < s.data.toList.length := by simpa using hi
    simp only [List.getD, List.getElem?_eq_getElem hi', Option.getD_some]; rfl
  rw [this]
theorem Bytes.below {W W' : World} {b o B : Nat} {s : ByteArray} (h : Lib.Bytes W b o s) (hb : Below B W W') (hB : b < B) : Lib.Bytes W' b o s := fun i hi => by
  rw [← h i hi]; exact hb.cell (p := ⟨b, o + i, none⟩) hB
theorem bytes_below (W : World) (s : ByteArray) : Below W.heap.size W (Lib.bytesWorld W 5 s) :=
  ⟨rfl, rfl, rfl, by rw [Lib.bytesWorld_size]; omega, fun k hk => Lib.bytesWorld_at_old W _ s k hk⟩
theorem conv_bytes (W : World) (s : ByteArray) : (convert 9 43 (.string s)).run Tryz.prog W = .ok (.slice (some ⟨W.heap.size, 0, none⟩) s.size (grownCap W s.size 0 5)) (Lib.bytesWorld W 5 s) :=
  Lib.run_convert_string_bytes W _ _ _ s Tryz.underlying9 Tryz.underlying43 Tryz.underlying5
theorem parse_at (W : World) (b cap : Nat) (s : ByteArray) (h : Lib.Bytes W b 0 s) (hb : b < W.heap.size) (hz : s.size ≤ 4611686018427387904) :
    Calls Tryz.prog 24 #[.slice (some ⟨b, 0, none⟩) s.size cap] W (PRes s W) :=
  parse_calls W (some ⟨b, 0, none⟩) cap s (fun W' hb' => Lib.run_convert_whole W' _ _ _ Tryz.underlying43 Tryz.underlying5 Tryz.underlying9 b 0 s (Bytes.below h hb' hb) cap) hz
theorem parse_str (W : World) (s : ByteArray) (cap : Nat) (hz : s.size ≤ 4611686018427387904) :
    Calls Tryz.prog 24 #[.slice (some ⟨W.heap.size, 0, none⟩) s.size cap] (Lib.bytesWorld W 5 s) (PRes s (Lib.bytesWorld W 5 s)) :=
  parse_at _ _ cap s (bytes_lies W s) (by rw [Lib.bytesWorld_size]; omega) hz
theorem PRes.okn {s : ByteArray} {W W' : World} {r : Ending} {o : List Nd} (hx : parsed s.data.toList = .ok o) {n : Nat} (hn : o.length = n + 1) (h : PRes s W r W') : ∃ g cap, r = .returned (.tuple #[.slice (some ⟨g, 0, none⟩) (n + 1) cap, .agg #[.int .i64 0, .int .i64 0]]) ∧ Row W' g o ∧ g < W'.heap.size ∧ Below W.heap.size W W' ∧ W.heap.size ≤ g := by
  obtain ⟨a, cap, h1, h2, h3⟩ := h.ok hx
  rw [hn] at h1 h2
  rcases h2.2 with ⟨_, h4⟩ | ⟨g, cap', cur, h4, h5, h6, _, _, h9, h10⟩
  · omega
  · injection h4 with h4 _ h4'
    subst h4; subst h4'
    refine ⟨g, cap, h1, fun i hi => ?_, blk_lt h6, h3, h5⟩
    rw [Lib.cell_of_heap h6, ← h10, List.getElem?_take_of_lt (by omega), Array.getElem?_toList]
theorem Row.below {W W' : World} {b : Nat} {o : List Nd} (h : Row W b o) {B : Nat} (hb : Below B W W') (hB : b < B) : Row W' b o := fun i hi => by
  rw [← h i hi]; exact hb.cell (p := ⟨b, i, none⟩) hB
theorem new_at (W : World) (o : Obj) : (W.alloc o).heap[W.heap.size]? = some o := by
  show (W.heap.push o)[W.heap.size]? = _
  simp
structure By (W : World) (ad : Option Addr) (s : ByteArray) : Prop where
  nil : ad = none → s.size = 0
  cells : ∀ a, ad = some a → ∀ j (h : j < s.size), W.cell? (a.add j) = some (.int .u8 (s[j].toNat : Int))
theorem cell_lt {W : World} {a : Addr} {v : Value} (h : W.cell? a = some v) : a.block < W.heap.size := by
  rcases Nat.lt_or_ge a.block W.heap.size with h' | h'
  · exact h'
  · simp [World.cell?, Array.getElem?_eq_none h'] at h
theorem By.below {W W' : World} {ad : Option Addr} {s : ByteArray} (h : By W ad s) {B : Nat} (hB : W.heap.size ≤ B) (hb : Below B W W') : By W' ad s :=
  ⟨h.nil, fun a ha j hj => by
    have h1 := h.cells a ha j hj
    rw [← h1]
    exact hb.cell (p := a.add j) (Nat.lt_of_lt_of_le (cell_lt h1) hB)⟩
theorem empty_of {s : ByteArray} (h : s.size = 0) : s = ⟨#[]⟩ := ByteArray.ext (Array.eq_empty_of_size_eq_zero h)
theorem By.conv {W : World} {ad : Option Addr} {s : ByteArray} (h : By W ad s) (cap : Nat) : (convert 43 9 (.slice ad s.size cap)).run Tryz.prog W = .ok (.string s) W := by
  cases ad with
  | none =>
    rw [empty_of (h.nil rfl)]
    exact run_convert_bytes_nil W 43 5 Tryz.underlying43 Tryz.underlying5 0 cap 9 Tryz.underlying9
  | some a =>
    have hl : s.data.toList.length = s.size := by simp
    have := run_convert_bytes_back (P := Tryz.prog) W 43 9 5 a cap s.data.toList Tryz.underlying43 Tryz.underlying5 Tryz.underlying9 (fun j hj => by
      rw [h.cells a rfl j (by rw [← hl]; exact hj)]; rfl)
    rw [hl] at this
    exact this
theorem parse_by (W : World) (ad : Option Addr) (cap : Nat) (s : ByteArray) (h : By W ad s) (hz : s.size ≤ 4611686018427387904) :
    Calls Tryz.prog 24 #[.slice ad s.size cap] W (PRes s W) :=
  parse_calls W ad cap s (fun _ hb' => (h.below (Nat.le_refl _) hb').conv cap) hz
theorem By.head {W : World} {ad : Option Addr} {s : ByteArray} (h : By W ad s) (h0 : 0 < s.size) : ∃ b o, ad = some ⟨b, o, none⟩ ∧ ∀ j (hj : j < s.size), W.cell? ⟨b, o + j, none⟩ = some (.int .u8 (s[j].toNat : Int)) := by
  cases ad with
  | none => have := h.nil rfl; omega
  | some a =>
    obtain ⟨b, o, sp⟩ := a
    have h1 := h.cells _ rfl 0 h0
    have hsp : sp = none := by
      cases sp with
      | none => rfl
      | some x =>
        unfold World.cell? at h1
        split at h1
        · simp [Addr.add] at h1
        · cases h1
    subst hsp
    exact ⟨b, o, rfl, fun j hj => by
      have h2 := h.cells _ rfl j hj
      unfold Addr.add at h2
      split at h2
      · rename_i h0; subst h0; exact h2
      · exact h2⟩
theorem By.init {W : World} {b o : Nat} {s t : ByteArray} (h : By W (some ⟨b, o, none⟩) s) (ht : t.size ≤ s.size) (hx : ∀ j (h1 : j < t.size) (h2 : j < s.size), t[j] = s[j]) : By W (some ⟨b, o, none⟩) t :=
  ⟨fun e => (by cases e), fun a ha j hj => by rw [h.cells a ha j (by omega), hx j hj (by omega)]⟩
end Go.Proofs.YtoefnmhmiphilaaGreatDoor.Tp
