/- The reader's number. -/
import Derived.Test.YtkcfigfhbeohfaaGreatDoorTrg
namespace Go.Proofs.YtkcfigfhbeohfaaGreatDoor.Tp
open Go Go.RowKit Go.Maps Go.Proofs.YtkcfigfhbeohfaaGreatDoorW.PrintWords
theorem wrapN {x : Int} {n : Nat} (h : x = (n : Int)) (hn : n ≤ 4611686018427387904) : wrap64 x = (n : Int) := by subst h; unfold wrap64; omega
theorem wrapK {x : Int} {n : Nat} (h : x = (n : Int)) (hn : n ≤ 4611686018427387904) : IntKind.i64.wrap x = (n : Int) := by rw [IntKind.wrap_i64]; subst h; omega
section
variable {W : World} {g base : Nat} {s : ByteArray} {p : Nat} {o : List Nd} {c a : Int} {v : Value}
set_option maxHeartbeats 8000000 in
set_option maxRecDepth 100000 in
theorem rnumber_calls (h : Rd W g base s p o 0 a v) (X : Nat → Prop) (hz : s.size ≤ 4294967296) (hl : o.length ≤ 4294967296) (b : UInt8) (t : List UInt8) (hr : rest s p = b :: t) (N : Nat) (hN : o.length ≤ N) :
    Calls Tryz.prog 31 #[.pointer (some ⟨g, 0, none⟩)] W (RR N X g base s a W v o (number (rest s p))) := by
  obtain ⟨c0, c1, c2, c3, c4⟩ := h.reads
  have f1 := h.frz 1
  have hlt := rest_lt hr
  have hrt := (rest_get hr hlt).2
  have hrl := rest_len s (p + 1)
  rw [hrt] at hrl
  have H := Lib.hid h
  have HL := Lib.hid hl
  clear h hl
  obtain ⟨D, hD⟩ : ∃ D, s.extract (p + 1) s.size = D := ⟨_, rfl⟩
  have hDl : D.data.toList = t := by
    rw [← hD, Lib.extract_data]
    show (rest s (p + 1)).take _ = _
    rw [hrt, List.take_of_length_le (by omega)]
  have hDs : D.size = t.length := by rw [← hDl]; simp
  obtain ⟨w, hw⟩ : ∃ w, t.takeWhile digit = w := ⟨_, rfl⟩
  have CR := Lib.hid (fun W => run_calls W D (by omega))
  rw [hDl, hw] at CR
  have hsp := List.takeWhile_append_dropWhile (p := digit) (l := t)
  rw [hw] at hsp
  have hes := rest_suffix (s := s) (p := p) (c := b :: w) (x := t.dropWhile digit) (by omega) (by rw [hr, List.cons_append, hsp])
  have hwl : p + (1 + w.length) ≤ s.size := by
    have := congrArg List.length hsp
    rw [List.length_append] at this
    omega
  obtain ⟨T, hT⟩ : ∃ T, s.extract p (p + (1 + w.length)) = T := ⟨_, rfl⟩
  have hTl : T.data.toList = b :: w := by
    rw [← hT, Lib.extract_data, Nat.add_sub_cancel_left]
    show (rest s p).take (1 + w.length) = b :: w
    rw [hr, Nat.add_comm 1, List.take_succ_cons, ← hsp, List.take_left]
  have hTs : T.size = 1 + w.length := by rw [show T.size = T.data.toList.length by simp, hTl]; simp; omega
  have CN := Lib.hid (fun W => refnumber_calls W T (by omega))
  rw [hTl] at CN
  have HE := Lib.hid (show s.size - (t.dropWhile digit).length = p + (1 + w.length) by rw [hes.2]; simp; omega)
  have HR := Lib.hid (show ((s.size : Int) - ((rest s p).length : Nat)) = (p : Int) by have := rest_len s p; rw [this]; omega)
  have hw1 : wrap64 ((p : Int) + 1) = ((p + 1 : Nat) : Int) := wrapN (by omega) (by omega)
  obtain ⟨m, hm⟩ : ∃ m, 1 + w.length = m := ⟨_, rfl⟩
  rw [hm] at hwl
  have hmz : p + m ≤ 4611686018427387904 := Nat.le_trans hwl (Nat.le_trans hz (by decide))
  have hw2 : wrap64 (1 + (w.length : Int)) = (m : Int) := wrapN (by rw [← hm]; rfl) (Nat.le_trans (Nat.le_add_left m p) hmz)
  have hw3 : wrap64 ((p : Int) + (m : Int)) = ((p + m : Nat) : Int) := wrapN rfl hmz
  rw [hm] at hT HE hTs
  have hw4 : (IntKind.i64.wrap ((p : Int) + (m : Int))) = ((p + m : Nat) : Int) := wrapK rfl hmz
  have hs1 : (p : Int) + (m : Int) ≤ (s.size : Int) := Int.ofNat_le.2 hwl
  have hs2 : ((p : Int) + (m : Int)).toNat = p + m := Int.toNat_natCast (p + m)
  have hs3 : (0 : Int) ≤ (p : Int) + (m : Int) := Int.natCast_nonneg (p + m)
  have hs4 : (p : Int) ≤ (p : Int) + (m : Int) := Int.ofNat_le.2 (Nat.le_add_right p m)
  clear hm hmz
  have hnum : number (rest s p) = match num (b :: w) with | some n => .ok ([nd 3 n 0], t.dropWhile digit) | none => .error (10, (rest s p).length) := by
    rw [hr]
    simp only [number, hw, List.length_cons]
    cases num (b :: w) <;> rfl
  clear hes hsp hrl hDl hDs hTl hTs hrt hr hw
  cases hn : num (b :: w) with
  | some n =>
    rw [hn] at hnum
    rw [hn, show numV (some n) = .tuple #[.int .i64 n, .bool true] from rfl] at CN
    have HX := Lib.hid hnum
    clear hnum hn
    go_enter Tryz.func31, Tryz.ntmps31
    go_wp2_with fail
    go_quiet ((go_at_call 48; exact Calls.quiet_of_same (CR.out _)))
    go_wp2_with fail
    rw [hw2]
    have S4 := Lib.hid (H.out.drewN nq)
    have T4 := Lib.hid ((Stp.refl X g W v).drewN nq)
    clear c0 c1 c2 c3 c4 f1
    revert S4 T4
    generalize W.drewN nq = W4
    intro S4 T4
    obtain ⟨c0, c1, c2, c3, c4⟩ := S4.out.reads
    have f1 := S4.out.frz 1
    go_quiet ((go_at_call 49; exact Calls.quiet_of_same (CN.out _)))
    go_wp2_with (first | (go_at_call 33; refine (rput_calls (S4.out.drewN _) X _ _ _ _ HL.out).mono ?_; rintro e W2 ⟨v2, rfl, hS2, hT2⟩; have S2 := Lib.hid hS2; have T2 := Lib.hid hT2; obtain ⟨d0, d1, d2, d3, d4⟩ := hS2.reads; have g1 := hS2.frz 1; clear hS2 hT2))
    go_end0
    exact RR.mk_ok HX.out (by rw [HE.out]; exact S2.out.at_ (p + m) (by omega)) ((T4.out.drewN _).trans T2.out |>.set _)
  | none =>
    rw [hn] at hnum
    rw [hn, show numV none = .tuple #[.int .i64 0, .bool false] from rfl] at CN
    have HX := Lib.hid hnum
    clear hnum hn
    go_enter Tryz.func31, Tryz.ntmps31
    go_wp2_with fail
    go_quiet ((go_at_call 48; exact Calls.quiet_of_same (CR.out _)))
    go_wp2_with fail
    rw [hw2]
    have S4 := Lib.hid (H.out.drewN nq)
    have T4 := Lib.hid ((Stp.refl X g W v).drewN nq)
    clear c0 c1 c2 c3 c4 f1
    revert S4 T4
    generalize W.drewN nq = W4
    intro S4 T4
    obtain ⟨c0, c1, c2, c3, c4⟩ := S4.out.reads
    have f1 := S4.out.frz 1
    go_quiet ((go_at_call 49; exact Calls.quiet_of_same (CN.out _)))
    go_wp2_with (first | (go_at_call 14; refine (wrong_calls (S4.out.drewN _) X _ _).mono ?_; rintro e W2 ⟨rfl, hS2, hT2⟩; have S2 := Lib.hid hS2; have T2 := Lib.hid hT2; clear hS2 hT2))
    refine bodyPost_ret (results_none rfl _ _ _) rfl ?_
    exact RR.mk_err HX.out (by rw [HR.out]; exact S2.out) ((T4.out.drewN _).trans T2.out) hN
end
end Go.Proofs.YtkcfigfhbeohfaaGreatDoor.Tp
