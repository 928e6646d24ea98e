/- Same: of two like rows. -/
import Derived.Test.YtkcfigfhbeohfaaGreatDoorTpw
namespace Go.Proofs.YtkcfigfhbeohfaaGreatDoor.Tp
open Go Go.RowKit Go.Maps Go.Proofs.YtkcfigfhbeohfaaGreatDoorW.PrintWords
/-- The cells of a row of nodes at a block's head. -/
def Row (W : World) (b : Nat) (o : List Nd) : Prop := ∀ i, i < o.length * 4 → W.cell? ⟨b, i, none⟩ = (encs o)[i]?
theorem encs_get (o : List Nd) (k : Nat) (hk : k < o.length) (j : Nat) (hj : j < 4) : (encs o)[k * 4 + j]? = (cellsN o[k])[j]? := by
  induction o generalizing k with
  | nil => simp at hk
  | cons n o ih =>
    unfold encs
    rw [List.flatMap_cons]
    cases k with
    | zero => rw [List.getElem?_append_left (by simp [cellsN]; omega)]; simp
    | succ k =>
      rw [List.getElem?_append_right (by simp [cellsN]; omega)]
      have := ih k (by simpa using hk)
      unfold encs at this
      simp only [List.getElem_cons_succ]
      rw [← this]
      congr 1
      simp [cellsN]; omega
theorem Row.at_ {W : World} {b : Nat} {o : List Nd} (h : Row W b o) (k : Nat) (hk : k < o.length) : W.cell? ⟨b, k * 4, none⟩ = some (.int .i64 o[k].f0) ∧ W.cell? ⟨b, k * 4 + 1, none⟩ = some (.string o[k].f1) ∧ W.cell? ⟨b, k * 4 + 2, none⟩ = some (.int .i64 o[k].f2) ∧ W.cell? ⟨b, k * 4 + 3, none⟩ = some (.int .i64 o[k].f3) :=
  ⟨(h (k * 4) (by omega)).trans (encs_get o k hk 0 (by omega)), (h (k * 4 + 1) (by omega)).trans (encs_get o k hk 1 (by omega)), (h (k * 4 + 2) (by omega)).trans (encs_get o k hk 2 (by omega)), (h (k * 4 + 3) (by omega)).trans (encs_get o k hk 3 (by omega))⟩
theorem Row.drewN {W : World} {b : Nat} {o : List Nd} (h : Row W b o) (n : Nat) : Row (W.drewN n) b o := fun i hi => by rw [← h i hi]; rfl
set_option maxHeartbeats 8000000 in
set_option maxRecDepth 100000 in
theorem same_calls (W : World) (o : List Nd) (b1 b2 c1 c2 : Nat) (h1 : Row W b1 o) (h2 : Row W b2 o) (hl : o.length ≤ 4294967296) :
    Calls Tryz.prog 7 #[.slice (some ⟨b1, 0, none⟩) o.length c1, .slice (some ⟨b2, 0, none⟩) o.length c2] W fun e W' => e = .returned (.bool true) ∧ ∃ n, W' = W.drewN n := by
  have H1 := Lib.hid h1
  have H2 := Lib.hid h2
  have HL := Lib.hid hl
  obtain ⟨nn, hn⟩ : ∃ nn, o.length = nn := ⟨_, rfl⟩
  rw [hn]
  have HN := Lib.hid hn
  clear h1 h2 hl hn
  go_enter Tryz.func7, Tryz.ntmps7
  go_wp2_with fail
  go_loopg [5] nn (fun k v5 W' => ∃ q : Nat, v5 = .int .i64 (q : Int) ∧ Hid (k = nn - q) ∧ Hid (q ≤ nn) ∧ Hid (∃ n, W' = W.drewN n))
  case atStart => exact ⟨0, rfl, Lib.hid rfl, Lib.hid (Nat.zero_le _), Lib.hid ⟨0, rfl⟩⟩
  case round =>
    obtain ⟨q, rfl, HK, HQ, HW⟩ := hrel
    by_cases hlt : q < nn
    · have d1 : decide ((q : Int) < (nn : Int)) = true := by simp; omega
      obtain ⟨x0, x1, x2, x3⟩ := (show Row wr b1 o by obtain ⟨n, e⟩ := HW.out; rw [e]; exact H1.out.drewN n).at_ q (by rw [HN.out]; exact hlt)
      obtain ⟨y0, y1, y2, y3⟩ := (show Row wr b2 o by obtain ⟨n, e⟩ := HW.out; rw [e]; exact H2.out.drewN n).at_ q (by rw [HN.out]; exact hlt)
      go_wp2_with fail
      go_quiet (fail)
      go_wp2
      have hw : wrap64 ((q : Int) + 1) = ((q + 1 : Nat) : Int) := by have := HL.out; have := HN.out; unfold wrap64; omega
      rw [hw]
      go_roundg (nn - (q + 1))
      case rel => exact ⟨q + 1, rfl, Lib.hid rfl, Lib.hid hlt, Lib.hid (by obtain ⟨n, e⟩ := HW.out; exact ⟨n + nq, by rw [e]; simp [World.drewN, Nat.add_assoc]⟩)⟩
      case measure => have := HK.out; omega
    · have d1 : decide ((q : Int) < (nn : Int)) = false := by simp; omega
      go_wp2_with fail
      go_ret
      exact ⟨rfl, HW.out⟩
end Go.Proofs.YtkcfigfhbeohfaaGreatDoor.Tp
