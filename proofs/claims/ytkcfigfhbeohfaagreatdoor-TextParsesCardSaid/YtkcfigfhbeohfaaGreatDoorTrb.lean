/- The reader's ok, is, wrong, put, skip, sign. -/
import Derived.Test.YtkcfigfhbeohfaaGreatDoorTra
namespace Go.Proofs.YtkcfigfhbeohfaaGreatDoor.Tp
open Go Go.RowKit Go.Maps Go.Proofs.YtkcfigfhbeohfaaGreatDoorW.PrintWords
section
variable {W : World} {g base : Nat} {s : ByteArray} {p : Nat} {o : List Nd} {c a : Int} {v : Value}
set_option maxRecDepth 100000 in
set_option maxHeartbeats 2000000 in
theorem rok_calls (h : Rd W g base s p o c a v) : Calls Tryz.prog 12 #[.pointer (some ⟨g, 0, none⟩)] W fun r W' => r = .returned (.bool (c == 0)) ∧ W' = W := by
  obtain ⟨c0, c1, c2, c3, c4⟩ := h.reads
  clear h
  go_enter Tryz.func12, Tryz.ntmps12
  go_wp2
  go_ret
  exact ⟨rfl, rfl⟩
set_option maxRecDepth 100000 in
set_option maxHeartbeats 2000000 in
theorem wrong_calls (h : Rd W g base s p o 0 a v) (X : Nat → Prop) (e q : Int) : Calls Tryz.prog 14 #[.pointer (some ⟨g, 0, none⟩), .int .i64 e, .int .i64 q] W fun r W' => r = .returned (.tuple #[]) ∧ Rd W' g base s p o e q v ∧ Stp X g W v W' v := by
  obtain ⟨c0, c1, c2, c3, c4⟩ := h.reads
  have f3 := h.frz 3
  have f4 := h.frz 4
  have H := Lib.hid h
  clear h
  go_enter Tryz.func14, Tryz.ntmps14
  go_wp2
  go_end0
  exact ⟨rfl, H.out.fail e q, ((Stp.refl X g W v).set _).set _⟩
set_option maxRecDepth 100000 in
set_option maxHeartbeats 2000000 in
theorem wrong_bad (h : Rd W g base s p o c a v) (hc : c ≠ 0) (e q : Int) : Calls Tryz.prog 14 #[.pointer (some ⟨g, 0, none⟩), .int .i64 e, .int .i64 q] W fun r W' => r = .returned (.tuple #[]) ∧ W' = W := by
  obtain ⟨c0, c1, c2, c3, c4⟩ := h.reads
  have hb : (c == 0) = false := by rw [beq_eq_false_iff_ne]; exact hc
  clear h hc
  go_enter Tryz.func14, Tryz.ntmps14
  go_wp2
  go_end0
  exact ⟨rfl, rfl⟩
/-- Does this byte stand here? -/
def isB (b : UInt8) : List UInt8 → Bool
  | x :: _ => x == b
  | [] => false
theorem Rd.rest_nil (h : Rd W g base s p o c a v) (hp : ¬ p < s.size) : rest s p = [] := by
  apply List.eq_nil_of_length_eq_zero; rw [rest_len]; omega
set_option maxRecDepth 100000 in
set_option maxHeartbeats 4000000 in
theorem is_calls (h : Rd W g base s p o c a v) (b : UInt8) : Calls Tryz.prog 51 #[.pointer (some ⟨g, 0, none⟩), .int .u8 (b.toNat : Int)] W fun r W' => r = .returned (.bool (isB b (rest s p))) ∧ ∃ n, W' = W.drewN n := by
  obtain ⟨c0, c1, c2, c3, c4⟩ := h.reads
  by_cases hlt : p < s.size
  · have d1 : decide ((p : Int) < (s.size : Int)) = true := by simp; omega
    obtain ⟨x, hx⟩ : ∃ x, s[p]'hlt = x := ⟨_, rfl⟩
    have hr := rest_cons hlt
    rw [hx] at hr
    by_cases hb : x = b
    · subst hb
      have HR := Lib.hid (show isB x (rest s p) = true by rw [hr]; simp [isB])
      clear h hr
      go_enter Tryz.func51, Tryz.ntmps51
      go_wp2_with fail
      go_quiet (fail)
      go_wp2_with fail
      go_ret
      exact ⟨by rw [HR.out]; rfl, _, rfl⟩
    · have hf := u8_ne hb
      have HR := Lib.hid (show isB b (rest s p) = false by rw [hr]; simp [isB, hb])
      clear h hr
      go_enter Tryz.func51, Tryz.ntmps51
      go_wp2_with fail
      go_quiet (fail)
      go_wp2_with fail
      go_ret
      exact ⟨by rw [HR.out]; rfl, _, rfl⟩
  · have d1 : decide ((p : Int) < (s.size : Int)) = false := by simp; omega
    have HR := Lib.hid (show isB b (rest s p) = false by rw [h.rest_nil hlt]; rfl)
    clear h
    go_enter Tryz.func51, Tryz.ntmps51
    go_wp2_with fail
    go_quiet (fail)
    go_wp2_with fail
    go_ret
    exact ⟨by rw [HR.out]; rfl, _, rfl⟩
end
end Go.Proofs.YtkcfigfhbeohfaaGreatDoor.Tp
