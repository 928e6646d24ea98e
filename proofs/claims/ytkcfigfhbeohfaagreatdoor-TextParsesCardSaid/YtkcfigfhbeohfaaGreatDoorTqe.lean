/- Bytes handed in; Parse of them. -/
import Derived.Test.YtkcfigfhbeohfaaGreatDoorTqa
import Derived.Test.YtkcfigfhbeohfaaGreatDoorTqd
namespace Go.Proofs.YtkcfigfhbeohfaaGreatDoor.Tp
open Go Go.RowKit Go.Maps Go.Proofs.YtkcfigfhbeohfaaGreatDoorW.PrintWords
/-- A slice's bytes. -/
structure By (W : World) (ad : Option Addr) (s : ByteArray) : Prop where
  nil : ad = none → s.size = 0
  cells : ∀ a, ad = some a → ∀ j (h : j < s.size), W.cell? (a.add j) = some (.int .u8 (s[j].toNat : Int))
theorem cell_lt {W : World} {a : Addr} {v : Value} (h : W.cell? a = some v) : a.block < W.heap.size := by
  rcases Nat.lt_or_ge a.block W.heap.size with h' | h'
  · exact h'
  · simp [World.cell?, Array.getElem?_eq_none h'] at h
theorem By.below {W W' : World} {ad : Option Addr} {s : ByteArray} (h : By W ad s) {B : Nat} (hB : W.heap.size ≤ B) (hb : Below B W W') : By W' ad s :=
  ⟨h.nil, fun a ha j hj => by
    have h1 := h.cells a ha j hj
    rw [← h1]
    exact hb.cell (p := a.add j) (Nat.lt_of_lt_of_le (cell_lt h1) hB)⟩
theorem empty_of {s : ByteArray} (h : s.size = 0) : s = ⟨#[]⟩ := ByteArray.ext (Array.eq_empty_of_size_eq_zero h)
theorem By.conv {W : World} {ad : Option Addr} {s : ByteArray} (h : By W ad s) (cap : Nat) : (convert 22 9 (.slice ad s.size cap)).run Tryz.prog W = .ok (.string s) W := by
  cases ad with
  | none =>
    rw [empty_of (h.nil rfl)]
    exact run_convert_bytes_nil W 22 5 Tryz.underlying22 Tryz.underlying5 0 cap 9 Tryz.underlying9
  | some a =>
    have hl : s.data.toList.length = s.size := by simp
    have := run_convert_bytes_back (P := Tryz.prog) W 22 9 5 a cap s.data.toList Tryz.underlying22 Tryz.underlying5 Tryz.underlying9 (fun j hj => by
      rw [h.cells a rfl j (by rw [← hl]; exact hj)]; rfl)
    rw [hl] at this
    exact this
theorem parse_by (W : World) (ad : Option Addr) (cap : Nat) (s : ByteArray) (h : By W ad s) (hz : s.size ≤ 4611686018427387904) :
    Calls Tryz.prog 4 #[.slice ad s.size cap] W (PRes s W) :=
  parse_calls W ad cap s (fun _ hb' => (h.below (Nat.le_refl _) hb').conv cap) hz
theorem By.head {W : World} {ad : Option Addr} {s : ByteArray} (h : By W ad s) (h0 : 0 < s.size) : ∃ b o, ad = some ⟨b, o, none⟩ ∧ ∀ j (hj : j < s.size), W.cell? ⟨b, o + j, none⟩ = some (.int .u8 (s[j].toNat : Int)) := by
  cases ad with
  | none => have := h.nil rfl; omega
  | some a =>
    obtain ⟨b, o, sp⟩ := a
    have h1 := h.cells _ rfl 0 h0
    have hsp : sp = none := by
      cases sp with
      | none => rfl
      | some x =>
        unfold World.cell? at h1
        split at h1
        · simp [Addr.add] at h1
        · cases h1
    subst hsp
    exact ⟨b, o, rfl, fun j hj => by
      have h2 := h.cells _ rfl j hj
      unfold Addr.add at h2
      split at h2
      · rename_i h0; subst h0; exact h2
      · exact h2⟩
theorem By.init {W : World} {b o : Nat} {s t : ByteArray} (h : By W (some ⟨b, o, none⟩) s) (ht : t.size ≤ s.size) (hx : ∀ j (h1 : j < t.size) (h2 : j < s.size), t[j] = s[j]) : By W (some ⟨b, o, none⟩) t :=
  ⟨fun e => (by cases e), fun a ha j hj => by rw [h.cells a ha j (by omega), hx j hj (by omega)]⟩
end Go.Proofs.YtkcfigfhbeohfaaGreatDoor.Tp
