/- The reader's word. -/
import Derived.Test.YtkcfigfhbeohfaaGreatDoorTrf
namespace Go.Proofs.YtkcfigfhbeohfaaGreatDoor.Tp
open Go Go.RowKit Go.Maps Go.Proofs.YtkcfigfhbeohfaaGreatDoorW.PrintWords
section
variable {W : World} {g base : Nat} {s : ByteArray} {p : Nat} {o : List Nd} {c a : Int} {v : Value}
/-- How a method of the reader's ends that began without an error. -/
def RR (N : Nat) (X : Nat → Prop) (g base : Nat) (s : ByteArray) (a : Int) (W : World) (v : Value) (o : List Nd) (x : R (List Nd)) (r : Ending) (W' : World) : Prop :=
  r = .returned (.tuple #[]) ∧ match x with
  | .ok (o', r1) => ∃ v', Rd W' g base s (s.size - r1.length) (o ++ o') 0 a v' ∧ Stp X g W v W' v'
  | .error e => ∃ q o2 v', Rd W' g base s q o2 e.1 ((s.size : Int) - e.2) v' ∧ Stp X g W v W' v' ∧ o2.length ≤ N
theorem RR.mk_ok {N : Nat} {X : Nat → Prop} {W' W0 : World} {v' v0 : Value} {o' : List Nd} {r1 : List UInt8} {x : R (List Nd)} (hx : x = .ok (o', r1)) (h : Rd W' g base s (s.size - r1.length) (o ++ o') 0 a v') (ht : Stp X g W0 v0 W' v') : RR N X g base s a W0 v0 o x (.returned (.tuple #[])) W' := by
  subst hx; exact ⟨rfl, v', h, ht⟩
theorem RR.mk_err {N : Nat} {X : Nat → Prop} {W' W0 : World} {v' v0 : Value} {o2 : List Nd} {q : Nat} {e : Int × Nat} {x : R (List Nd)} (hx : x = .error e) (h : Rd W' g base s q o2 e.1 ((s.size : Int) - e.2) v') (ht : Stp X g W0 v0 W' v') (hn : o2.length ≤ N) : RR N X g base s a W0 v0 o x (.returned (.tuple #[])) W' := by
  subst hx; exact ⟨rfl, q, o2, v', h, ht, hn⟩
set_option maxHeartbeats 8000000 in
set_option maxRecDepth 100000 in
theorem rword_calls (h : Rd W g base s p o 0 a v) (hp : p ≤ s.size) (X : Nat → Prop) (hz : s.size ≤ 4294967296) (hl : o.length ≤ 4294967296) (N : Nat) (hN : o.length ≤ N) :
    Calls Tryz.prog 30 #[.pointer (some ⟨g, 0, none⟩)] W (RR N X g base s a W v o (word (rest s p))) := by
  obtain ⟨c0, c1, c2, c3, c4⟩ := h.reads
  have f1 := h.frz 1
  have hrl := rest_len s p
  have H := Lib.hid h
  have HL := Lib.hid hl
  clear h hl
  obtain ⟨D, hD⟩ : ∃ D, s.extract p s.size = D := ⟨_, rfl⟩
  have hDl : D.data.toList = rest s p := by
    rw [← hD, Lib.extract_data]
    show (rest s p).take _ = _
    rw [List.take_of_length_le (by rw [rest_len]; exact Nat.le_refl _)]
  have hDs : D.size = s.size - p := by rw [← hrl, ← hDl]; simp
  obtain ⟨w, hw⟩ : ∃ w, (rest s p).takeWhile small = w := ⟨_, rfl⟩
  have CR := Lib.hid (fun W => run_small W D (by omega))
  rw [hDl, hw] at CR
  have hsp := List.takeWhile_append_dropWhile (p := small) (l := rest s p)
  rw [hw] at hsp
  have hes := rest_suffix (c := w) (x := (rest s p).dropWhile small) hp hsp.symm
  have hwl : p + w.length ≤ s.size := by
    have := congrArg List.length hsp
    rw [List.length_append, hrl] at this
    omega
  obtain ⟨T, hT⟩ : ∃ T, s.extract p (p + w.length) = T := ⟨_, rfl⟩
  have hTl : T.toList = w := by
    rw [ByteArray.toList_eq, ← hT, Lib.extract_data, Nat.add_sub_cancel_left]
    show (rest s p).take w.length = w
    rw [← hsp, List.take_left]
  have HE := Lib.hid hes.2
  have HR := Lib.hid (show ((s.size : Int) - ((rest s p).length : Nat)) = (p : Int) by rw [hrl]; omega)
  have hwr : wrap64 ((p : Int) + (w.length : Int)) = ((p + w.length : Nat) : Int) := by unfold wrap64; omega
  clear hes hsp hrl hDl hDs
  by_cases h1 : w = [110, 117, 108, 108]
  · have t1 : (T.toList == [110, 117, 108, 108]) = true := by rw [hTl, h1]; rfl
    have HX := Lib.hid (show word (rest s p) = .ok ([nd 1 0 0], (rest s p).dropWhile small) by unfold word; simp only [hw, if_pos h1])
    clear hTl h1  hw
    go_enter Tryz.func30, Tryz.ntmps30
    go_wp2_with fail
    go_quiet ((go_at_call 48; exact Calls.quiet_of_same (CR.out _)))
    go_wp2_with fail
    go_quiet (fail)
    go_wp2_with (first | (go_at_call 33; refine (rput_calls (H.out.drewN _) X _ _ _ _ HL.out).mono ?_; rintro e W2 ⟨v2, rfl, hS2, hT2⟩; have S2 := Lib.hid hS2; have T2 := Lib.hid hT2; obtain ⟨d0, d1, d2, d3, d4⟩ := hS2.reads; have g1 := hS2.frz 1; clear hS2 hT2))
    go_end0
    exact RR.mk_ok HX.out (by rw [HE.out]; exact S2.out.at_ (p + w.length) (by omega)) (((Stp.refl X g W v).drewN _).trans T2.out |>.set _)
  · have t1 : (T.toList == [110, 117, 108, 108]) = false := by rw [hTl]; simpa using h1
    by_cases h2 : w = [116, 114, 117, 101]
    · have t2 : (T.toList == [116, 114, 117, 101]) = true := by rw [hTl, h2]; rfl
      have HX := Lib.hid (show word (rest s p) = .ok ([nd 2 1 0], (rest s p).dropWhile small) by unfold word; simp only [hw, if_neg h1, if_pos h2])
      clear hTl h2 h1 hw
      go_enter Tryz.func30, Tryz.ntmps30
      go_wp2_with fail
      go_quiet ((go_at_call 48; exact Calls.quiet_of_same (CR.out _)))
      go_wp2_with fail
      go_quiet (fail)
      go_wp2_with (first | (go_at_call 33; refine (rput_calls (H.out.drewN _) X _ _ _ _ HL.out).mono ?_; rintro e W2 ⟨v2, rfl, hS2, hT2⟩; have S2 := Lib.hid hS2; have T2 := Lib.hid hT2; obtain ⟨d0, d1, d2, d3, d4⟩ := hS2.reads; have g1 := hS2.frz 1; clear hS2 hT2))
      go_end0
      exact RR.mk_ok HX.out (by rw [HE.out]; exact S2.out.at_ (p + w.length) (by omega)) (((Stp.refl X g W v).drewN _).trans T2.out |>.set _)
    · have t2 : (T.toList == [116, 114, 117, 101]) = false := by rw [hTl]; simpa using h2
      by_cases h3 : w = [102, 97, 108, 115, 101]
      · have t3 : (T.toList == [102, 97, 108, 115, 101]) = true := by rw [hTl, h3]; rfl
        have HX := Lib.hid (show word (rest s p) = .ok ([nd 2 0 0], (rest s p).dropWhile small) by unfold word; simp only [hw, if_neg h1, if_neg h2, if_pos h3])
        clear hTl h3 h1 h2 hw
        go_enter Tryz.func30, Tryz.ntmps30
        go_wp2_with fail
        go_quiet ((go_at_call 48; exact Calls.quiet_of_same (CR.out _)))
        go_wp2_with fail
        go_quiet (fail)
        go_wp2_with (first | (go_at_call 33; refine (rput_calls (H.out.drewN _) X _ _ _ _ HL.out).mono ?_; rintro e W2 ⟨v2, rfl, hS2, hT2⟩; have S2 := Lib.hid hS2; have T2 := Lib.hid hT2; obtain ⟨d0, d1, d2, d3, d4⟩ := hS2.reads; have g1 := hS2.frz 1; clear hS2 hT2))
        go_end0
        exact RR.mk_ok HX.out (by rw [HE.out]; exact S2.out.at_ (p + w.length) (by omega)) (((Stp.refl X g W v).drewN _).trans T2.out |>.set _)
      · have t3 : (T.toList == [102, 97, 108, 115, 101]) = false := by rw [hTl]; simpa using h3
        have HX := Lib.hid (show word (rest s p) = .error (10, (rest s p).length) by unfold word; simp only [hw, if_neg h1, if_neg h2, if_neg h3])
        clear hTl h1 h2 h3 hw
        go_enter Tryz.func30, Tryz.ntmps30
        go_wp2_with fail
        go_quiet ((go_at_call 48; exact Calls.quiet_of_same (CR.out _)))
        go_wp2_with fail
        go_quiet (fail)
        go_wp2_with (first | (go_at_call 14; refine (wrong_calls (H.out.drewN _) X _ _).mono ?_; rintro e W2 ⟨rfl, hS2, hT2⟩; have S2 := Lib.hid hS2; have T2 := Lib.hid hT2; obtain ⟨d0, d1, d2, d3, d4⟩ := hS2.reads; have g1 := hS2.frz 1; clear hS2 hT2))
        go_end0
        exact RR.mk_err HX.out (by rw [HR.out]; exact S2.out.at_ (p + w.length) (by omega)) (((Stp.refl X g W v).drewN _).trans T2.out |>.set _) hN
end
end Go.Proofs.YtkcfigfhbeohfaaGreatDoor.Tp
