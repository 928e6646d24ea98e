/- The reader's sign, escaped, has no error so far; run for any two bounds. -/
import Derived.Test.YtkcfigfhbeohfaaGreatDoorTrc
namespace Go.Proofs.YtkcfigfhbeohfaaGreatDoor.Tp
open Go Go.RowKit Go.Maps Go.Proofs.YtkcfigfhbeohfaaGreatDoorW.PrintWords
section
variable {W : World} {g base : Nat} {s : ByteArray} {p : Nat} {o : List Nd} {c a : Int} {v : Value}
theorem adv_le (s : ByteArray) {p : Nat} (hp : p ≤ s.size) : adv s p ≤ s.size ∧ rest s (adv s p) = skip (rest s p) := by
  unfold adv
  rw [if_pos hp]
  exact ⟨by omega, rest_skip hp⟩
set_option maxRecDepth 100000 in
set_option maxHeartbeats 4000000 in
theorem rsign_ok (h : Rd W g base s p o 0 a v) (hp : p ≤ s.size) (X : Nat → Prop) (hz : s.size ≤ 4294967296) (b : UInt8) (t : List UInt8) (ht : takeB b (rest s p) = .ok t) :
    Calls Tryz.prog 50 #[.pointer (some ⟨g, 0, none⟩), .int .u8 (b.toNat : Int)] W fun r W' => r = .returned (.tuple #[]) ∧ Rd W' g base s (s.size - t.length) o 0 a v ∧ Stp X g W v W' v := by
  obtain ⟨l1, l2⟩ := adv_le s hp
  have hs : skip (rest s p) = b :: t := by
    unfold takeB at ht
    split at ht
    · cases ht
    · rename_i x u hs
      split at ht
      · rename_i e; cases ht; rw [hs, e]
      · cases ht
  have CN := Lib.hid (rskip_calls h X hz)
  obtain ⟨q, hq⟩ : ∃ q, adv s p = q := ⟨_, rfl⟩
  rw [hq] at CN l1 l2
  rw [hs] at l2
  have hlt := rest_lt l2
  have hl : s.size - t.length = q + 1 := by
    have := rest_len s q
    rw [l2, List.length_cons] at this
    omega
  rw [hl]
  have hx : s[q]'hlt = b := (rest_get l2 hlt).1
  have d1 : decide ((s.size : Int) ≤ (q : Int)) = false := by simp; omega
  clear h ht hs hl hq l2 hp
  go_enter Tryz.func50, Tryz.ntmps50
  go_wp2_with (first | (go_at_call 13; refine CN.out.mono ?_; rintro e W1 ⟨rfl, hS, hT⟩; have S1 := Lib.hid hS; have T1 := Lib.hid hT; obtain ⟨d0, e1, d2, d3, d4⟩ := hS.reads; have f1 := hS.frz 1; clear hS hT))
  go_quiet (fail)
  go_wp2_with fail
  go_quiet (fail)
  go_wp2_with fail
  go_end0
  exact ⟨rfl, (S1.out.drewN _).at_ (q + 1) (by omega), (T1.out.drewN _).set _⟩
set_option maxRecDepth 100000 in
set_option maxHeartbeats 4000000 in
theorem rsign_err (h : Rd W g base s p o 0 a v) (hp : p ≤ s.size) (X : Nat → Prop) (hz : s.size ≤ 4294967296) (b : UInt8) (x : Int × Nat) (ht : takeB b (rest s p) = .error x) :
    Calls Tryz.prog 50 #[.pointer (some ⟨g, 0, none⟩), .int .u8 (b.toNat : Int)] W fun r W' => r = .returned (.tuple #[]) ∧ (∃ q, q ≤ s.size ∧ Rd W' g base s q o x.1 ((s.size : Int) - x.2) v) ∧ Stp X g W v W' v := by
  obtain ⟨l1, l2⟩ := adv_le s hp
  have CN := Lib.hid (rskip_calls h X hz)
  obtain ⟨q, hq⟩ : ∃ q, adv s p = q := ⟨_, rfl⟩
  rw [hq] at CN l1 l2
  cases hs : skip (rest s p) with
  | nil =>
    rw [hs] at l2
    have hx : x = (11, 0) := by unfold takeB at ht; rw [hs] at ht; cases ht; rfl
    subst hx
    have hqs : q = s.size := (rest_nil l1).1 l2
    have d1 : s.size ≤ q := by omega
    clear h ht hs hq l2 hp hqs
    go_enter Tryz.func50, Tryz.ntmps50
    go_wp2_with (first | (go_at_call 13; refine CN.out.mono ?_; rintro e W1 ⟨rfl, hS, hT⟩; have S1 := Lib.hid hS; have T1 := Lib.hid hT; obtain ⟨d0, e1, d2, d3, d4⟩ := hS.reads; have f1 := hS.frz 1; clear hS hT))
    go_quiet (fail)
    go_wp2_with (first | (go_at_call 14; refine (wrong_calls (S1.out.drewN _) X _ _).mono ?_; rintro e W2 ⟨rfl, hS, hT⟩; have S2 := Lib.hid hS; have T2 := Lib.hid hT; clear hS hT))
    refine bodyPost_ret (results_none rfl _ _ _) rfl ?_
    exact ⟨rfl, ⟨_, l1, by simpa using S2.out⟩, (T1.out.drewN _).trans T2.out⟩
  | cons y u =>
    rw [hs] at l2
    have hlt := rest_lt l2
    have hy : s[q]'hlt = y := (rest_get l2 hlt).1
    have hyb : y ≠ b := by
      rintro rfl
      unfold takeB at ht
      rw [hs] at ht
      simp at ht
    have hx : x = (10, u.length + 1) := by
      unfold takeB at ht
      rw [hs] at ht
      simp only at ht
      rw [if_neg hyb] at ht
      cases ht; rfl
    subst hx
    have hqn : (q : Int) = (s.size : Int) - ((u.length + 1 : Nat) : Int) := by
      have := rest_len s q
      rw [l2, List.length_cons] at this
      omega
    have HQ := Lib.hid hqn
    have d1 : decide ((s.size : Int) ≤ (q : Int)) = false := by simp; omega
    have t1 : ((y.toNat : Int) != (b.toNat : Int)) = true := by rw [bne, u8_ne hyb]; rfl
    clear h ht hs hq l2 hp hqn
    go_enter Tryz.func50, Tryz.ntmps50
    go_wp2_with (first | (go_at_call 13; refine CN.out.mono ?_; rintro e W1 ⟨rfl, hS, hT⟩; have S1 := Lib.hid hS; have T1 := Lib.hid hT; obtain ⟨d0, e1, d2, d3, d4⟩ := hS.reads; have f1 := hS.frz 1; clear hS hT))
    go_quiet (fail)
    go_wp2_with fail
    go_quiet (fail)
    go_wp2_with (first | (go_at_call 14; refine (wrong_calls (S1.out.drewN _) X _ _).mono ?_; rintro e W2 ⟨rfl, hS, hT⟩; have S2 := Lib.hid hS; have T2 := Lib.hid hT; clear hS hT))
    refine bodyPost_ret (results_none rfl _ _ _) rfl ?_
    exact ⟨rfl, ⟨_, l1, by rw [← HQ.out]; exact S2.out⟩, (T1.out.drewN _).trans T2.out⟩
set_option maxRecDepth 100000 in
set_option maxHeartbeats 4000000 in
/-- Behind an error: the error stays. -/
theorem rsign_bad (h : Rd W g base s p o c a v) (hc : c ≠ 0) (X : Nat → Prop) (hz : s.size ≤ 4294967296) (b : UInt8) :
    Calls Tryz.prog 50 #[.pointer (some ⟨g, 0, none⟩), .int .u8 (b.toNat : Int)] W fun r W' => r = .returned (.tuple #[]) ∧ (∃ q, Rd W' g base s q o c a v) ∧ Stp X g W v W' v := by
  have CN := Lib.hid (rskip_calls h X hz)
  have HC := Lib.hid hc
  obtain ⟨q, hq⟩ : ∃ q, adv s p = q := ⟨_, rfl⟩
  rw [hq] at CN
  by_cases hlt : q < s.size
  · have d1 : decide ((s.size : Int) ≤ (q : Int)) = false := by simp; omega
    obtain ⟨y, hy⟩ : ∃ y, s[q]'hlt = y := ⟨_, rfl⟩
    by_cases hyb : y = b
    · subst hyb
      clear h hc hq
      go_enter Tryz.func50, Tryz.ntmps50
      go_wp2_with (first | (go_at_call 13; refine CN.out.mono ?_; rintro e W1 ⟨rfl, hS, hT⟩; have S1 := Lib.hid hS; have T1 := Lib.hid hT; obtain ⟨d0, e1, d2, d3, d4⟩ := hS.reads; have f1 := hS.frz 1; clear hS hT))
      go_quiet (fail)
      go_wp2_with fail
      go_quiet (fail)
      go_wp2_with fail
      go_end0
      exact ⟨rfl, ⟨_, (S1.out.drewN _).at_ (q + 1) (by omega)⟩, (T1.out.drewN _).set _⟩
    · have t1 : ((y.toNat : Int) != (b.toNat : Int)) = true := by rw [bne, u8_ne hyb]; rfl
      clear h hc hq hyb
      go_enter Tryz.func50, Tryz.ntmps50
      go_wp2_with (first | (go_at_call 13; refine CN.out.mono ?_; rintro e W1 ⟨rfl, hS, hT⟩; have S1 := Lib.hid hS; have T1 := Lib.hid hT; obtain ⟨d0, e1, d2, d3, d4⟩ := hS.reads; have f1 := hS.frz 1; clear hS hT))
      go_quiet (fail)
      go_wp2_with fail
      go_quiet (fail)
      go_wp2_with (first | (go_at_call 14; refine (wrong_bad (S1.out.drewN _) HC.out _ _).mono ?_; rintro e W2 ⟨rfl, hw⟩; have HW := Lib.hid hw; clear hw))
      refine bodyPost_ret (results_none rfl _ _ _) rfl ?_
      exact ⟨rfl, ⟨_, by rw [HW.out]; exact S1.out.drewN _⟩, by rw [HW.out]; exact T1.out.drewN _⟩
  · have d1 : s.size ≤ q := by omega
    clear h hc hq
    go_enter Tryz.func50, Tryz.ntmps50
    go_wp2_with (first | (go_at_call 13; refine CN.out.mono ?_; rintro e W1 ⟨rfl, hS, hT⟩; have S1 := Lib.hid hS; have T1 := Lib.hid hT; obtain ⟨d0, e1, d2, d3, d4⟩ := hS.reads; have f1 := hS.frz 1; clear hS hT))
    go_quiet (fail)
    go_wp2_with (first | (go_at_call 14; refine (wrong_bad (S1.out.drewN _) HC.out _ _).mono ?_; rintro e W2 ⟨rfl, hw⟩; have HW := Lib.hid hw; clear hw))
    refine bodyPost_ret (results_none rfl _ _ _) rfl ?_
    exact ⟨rfl, ⟨_, by rw [HW.out]; exact S1.out.drewN _⟩, by rw [HW.out]; exact T1.out.drewN _⟩
end
end Go.Proofs.YtkcfigfhbeohfaaGreatDoor.Tp
