/- The scanner's word and number. -/
import Derived.Test.YtkcfigfhbeohfaaGreatDoorTpp
import Derived.Deep.RegionHeld3
namespace Go.Proofs.YtkcfigfhbeohfaaGreatDoor.Tp
open Go Go.RowKit Go.Proofs.YtkcfigfhbeohfaaGreatDoorW.PrintWords
section
variable {W : World} {g base : Nat} {s : ByteArray} {p : Nat} {o : List Nd} {c a : Int} {v : Value}
/-- How a method ends that takes a value: what it told, where the scanner stands. -/
def Res (X : Nat → Prop) (g base : Nat) (s : ByteArray) (c a : Int) (W : World) (v : Value) (o : List Nd) (x : R (List Nd)) (r : Ending) (W' : World) : Prop :=
  match x with
  | .ok (o', r1) => ∃ v', r = .returned (.bool true) ∧ Sc W' g base s (s.size - r1.length) (o ++ o') c a v' ∧ Stp X g W v W' v'
  | .error e => ∃ q o2 v', r = .returned (.bool false) ∧ Sc W' g base s q o2 e.1 ((s.size : Int) - e.2) v' ∧ Stp X g W v W' v'
theorem Res.mk_ok {X : Nat → Prop} {W' W0 : World} {v' v0 : Value} {o' : List Nd} {r1 : List UInt8} {x : R (List Nd)} (hx : x = .ok (o', r1)) (h : Sc W' g base s (s.size - r1.length) (o ++ o') c a v') (ht : Stp X g W0 v0 W' v') : Res X g base s c a W0 v0 o x (.returned (.bool true)) W' := by
  subst hx; exact ⟨v', rfl, h, ht⟩
theorem Res.mk_err {X : Nat → Prop} {W' W0 : World} {v' v0 : Value} {o2 : List Nd} {q : Nat} {e : Int × Nat} {x : R (List Nd)} (hx : x = .error e) (h : Sc W' g base s q o2 e.1 ((s.size : Int) - e.2) v') (ht : Stp X g W0 v0 W' v') : Res X g base s c a W0 v0 o x (.returned (.bool false)) W' := by
  subst hx; exact ⟨q, o2, v', rfl, h, ht⟩
set_option maxHeartbeats 4000000 in
set_option maxRecDepth 100000 in
theorem word_calls (h : Sc W g base s p o c a v) (X : Nat → Prop) (hz : s.size ≤ 4611686018427387904) (hl : o.length ≤ 4294967296) :
    Calls Tryz.prog 20 #[.pointer (some ⟨g, 0, none⟩)] W (Res X g base s c a W v o (word (rest s p))) := by
  obtain ⟨c0, c1, c2, c3, c4⟩ := h.reads
  have hp := h.le
  have hrl := rest_len s p
  have hes := (rest_suffix (c := (rest s p).takeWhile small) (x := (rest s p).dropWhile small) hp (List.takeWhile_append_dropWhile).symm).2
  have CS := Lib.hid (span_small h X hz)
  have HL := Lib.hid hl
  clear h hl
  obtain ⟨w, hw⟩ : ∃ w, (rest s p).takeWhile small = w := ⟨_, rfl⟩
  obtain ⟨T, hT⟩ : ∃ T : ByteArray, (⟨w.toArray⟩ : ByteArray) = T := ⟨_, rfl⟩
  have hTl : T.toList = w := (ByteArray.toList_eq T).trans (by rw [← hT])
  rw [hw, hT] at CS
  rw [hw] at hes
  have HE := Lib.hid hes
  have hrest : ((s.size : Int) - ((rest s p).length : Nat)) = (p : Int) := by rw [hrl]; omega
  have HR := Lib.hid hrest
  clear hes hT hrest hrl
  by_cases h1 : w = [110, 117, 108, 108]
  · have t1 : (T.toList == [110, 117, 108, 108]) = true := by rw [hTl, h1]; rfl
    have hx : word (rest s p) = .ok ([nd 1 0 0], (rest s p).dropWhile small) := by unfold word; simp only [hw, if_pos h1]
    have HX := Lib.hid hx
    clear hTl h1 hw hx
    go_enter Tryz.func20, Tryz.ntmps20
    go_wp2_with (first | (go_at_call 41; refine CS.out.mono ?_; rintro e W1 ⟨rfl, hS, hT⟩; have S1 := Lib.hid hS; clear hS) | (go_at_call 24; refine (put_calls S1.out X _ _ _ _ HL.out).mono ?_; rintro e W2 ⟨v2, rfl, hS2, hT2⟩; have S2 := Lib.hid hS2; clear hS2))
    go_ret
    exact Res.mk_ok HX.out (by rw [HE.out]; exact S2.out) (hT.trans hT2)
  · have t1 : (T.toList == [110, 117, 108, 108]) = false := by rw [hTl]; simpa using h1
    by_cases h2 : w = [116, 114, 117, 101]
    · have t2 : (T.toList == [116, 114, 117, 101]) = true := by rw [hTl, h2]; rfl
      have hx : word (rest s p) = .ok ([nd 2 1 0], (rest s p).dropWhile small) := by unfold word; simp only [hw, if_neg h1, if_pos h2]
      have HX := Lib.hid hx
      clear hTl h1 h2 hw hx
      go_enter Tryz.func20, Tryz.ntmps20
      go_wp2_with (first | (go_at_call 41; refine CS.out.mono ?_; rintro e W1 ⟨rfl, hS, hT⟩; have S1 := Lib.hid hS; clear hS) | (go_at_call 24; refine (put_calls S1.out X _ _ _ _ HL.out).mono ?_; rintro e W2 ⟨v2, rfl, hS2, hT2⟩; have S2 := Lib.hid hS2; clear hS2))
      go_ret
      exact Res.mk_ok HX.out (by rw [HE.out]; exact S2.out) (hT.trans hT2)
    · have t2 : (T.toList == [116, 114, 117, 101]) = false := by rw [hTl]; simpa using h2
      by_cases h3 : w = [102, 97, 108, 115, 101]
      · have t3 : (T.toList == [102, 97, 108, 115, 101]) = true := by rw [hTl, h3]; rfl
        have hx : word (rest s p) = .ok ([nd 2 0 0], (rest s p).dropWhile small) := by unfold word; simp only [hw, if_neg h1, if_neg h2, if_pos h3]
        have HX := Lib.hid hx
        clear hTl h1 h2 h3 hw hx
        go_enter Tryz.func20, Tryz.ntmps20
        go_wp2_with (first | (go_at_call 41; refine CS.out.mono ?_; rintro e W1 ⟨rfl, hS, hT⟩; have S1 := Lib.hid hS; clear hS) | (go_at_call 24; refine (put_calls S1.out X _ _ _ _ HL.out).mono ?_; rintro e W2 ⟨v2, rfl, hS2, hT2⟩; have S2 := Lib.hid hS2; clear hS2))
        go_ret
        exact Res.mk_ok HX.out (by rw [HE.out]; exact S2.out) (hT.trans hT2)
      · have t3 : (T.toList == [102, 97, 108, 115, 101]) = false := by rw [hTl]; simpa using h3
        have hx : word (rest s p) = .error (10, (rest s p).length) := by unfold word; simp only [hw, if_neg h1, if_neg h2, if_neg h3]
        have HX := Lib.hid hx
        clear hTl h1 h2 h3 hw hx
        go_enter Tryz.func20, Tryz.ntmps20
        go_wp2_with (first | (go_at_call 41; refine CS.out.mono ?_; rintro e W1 ⟨rfl, hS, hT⟩; have S1 := Lib.hid hS; clear hS) | (go_at_call 18; refine (stop_calls S1.out X _ _).mono ?_; rintro e W2 ⟨rfl, hS2, hT2⟩; have S2 := Lib.hid hS2; clear hS2))
        go_ret
        exact Res.mk_err HX.out (by rw [HR.out]; exact S2.out) (hT.trans hT2)
set_option maxHeartbeats 4000000 in
set_option maxRecDepth 100000 in
theorem number_calls (h : Sc W g base s p o c a v) (X : Nat → Prop) (hz : s.size ≤ 4611686018427387904) (hl : o.length ≤ 4294967296) (b : UInt8) (t : List UInt8) (hr : rest s p = b :: t) :
    Calls Tryz.prog 22 #[.pointer (some ⟨g, 0, none⟩)] W (Res X g base s c a W v o (number (rest s p))) := by
  obtain ⟨c0, c1, c2, c3, c4⟩ := h.reads
  have f1 := h.frz 1
  have hp := h.le
  have hlt := rest_lt hr
  have hrt := (rest_get hr hlt).2
  have hrl := rest_len s p
  have H := Lib.hid h
  have HL := Lib.hid hl
  have hS0 := h.at_ (p + 1) (by omega)
  have CS := Lib.hid (span_digit hS0 X hz)
  rw [hrt] at CS
  have hes := (rest_suffix (c := b :: t.takeWhile digit) (x := t.dropWhile digit) hp (by rw [hr, List.cons_append, List.takeWhile_append_dropWhile])).2
  obtain ⟨w, hw⟩ : ∃ w, t.takeWhile digit = w := ⟨_, rfl⟩
  rw [hw] at CS hes
  rw [List.length_cons] at hes
  have hql : p + 1 + w.length ≤ s.size := by omega
  have hx : (s.extract p (p + 1 + w.length)).data.toList = b :: w := by
    have e4 : s.data.toList.drop p = (b :: w) ++ t.dropWhile digit := by
      have : rest s p = _ := hr
      rw [show s.data.toList.drop p = rest s p from rfl, hr, ← hw, List.cons_append, List.takeWhile_append_dropWhile]
    have e5 : p + 1 + w.length - p = (b :: w).length := by simp; omega
    simp only [ByteArray.data_extract, Array.toList_extract, List.extract_eq_take_drop]
    rw [e4, e5, List.take_left]
  have hDz : (s.extract p (p + 1 + w.length)).size ≤ 4611686018427387904 := by rw [ByteArray.size_extract]; omega
  have hrest : ((s.size : Int) - ((rest s p).length : Nat)) = (p : Int) := by rw [hrl]; omega
  have HR := Lib.hid hrest
  have HE := Lib.hid (show s.size - (t.dropWhile digit).length = p + 1 + w.length by omega)
  have hpq : (p : Int) ≤ ((p + 1 + w.length : Nat) : Int) := by omega
  have hnum : number (rest s p) = match num (b :: w) with | some n => .ok ([nd 3 n 0], t.dropWhile digit) | none => .error (10, (rest s p).length) := by
    rw [hr]
    simp only [number, hw, List.length_cons]
    cases num (b :: w) <;> rfl
  obtain ⟨q, hq⟩ : ∃ q, p + 1 + w.length = q := ⟨_, rfl⟩
  rw [hq] at HE CS hpq hql hx hDz
  cases hn : num (b :: w) with
  | some n =>
    rw [hn] at hnum
    have HX := Lib.hid hnum
    have CN := Lib.hid (fun W => number_some (s.extract p q) n W hDz (by rw [hx]; exact hn))
    clear h hl hS0 hes hrest hrl hn hnum hx hDz hr hrt hw hq
    go_enter Tryz.func22, Tryz.ntmps22
    go_wp2_with (first | (go_at_call 41; refine CS.out.mono ?_; rintro e W1 ⟨rfl, hS, hT⟩; have S1 := Lib.hid hS; obtain ⟨d0, d1, d2, d3, d4⟩ := hS.reads; clear hS))
    go_region_held3 (fun W' => W'.cell? ⟨g, 0, none⟩ = some (.string s) ∧ W'.cell? ⟨g, 1, none⟩ = some (.int .i64 (q : Int)) ∧ Hid (Sc W' g base s q o c a v) ∧ Hid (Stp X g W v W' v)) (first | (have hq : Sc W1.drew g base s q o c a v := S1.out.drew; have hs : Stp X g W v W1.drew v := (((Stp.refl X g W v).set _).trans hT).drew; with_reducible exact ⟨hq.reads.1, hq.reads.2.1, Lib.hid hq, Lib.hid hs⟩) | (with_reducible assumption) | (go_split_ands; have hq : Sc w9 g base s q o c a v := Sc.below (Hid.out (by with_reducible assumption)) hb; have hs : Stp X g W v w9 v := Stp.trans (v1 := v) (Hid.out (by with_reducible assumption)) ⟨Kp.of_below hb, fun _ h => .inl h⟩; exact ⟨hq.reads.1, hq.reads.2.1, Lib.hid hq, Lib.hid hs⟩)) (first | (go_at_call 16; refine (CN.out _).mono ?_; rintro e w9 ⟨rfl, hb⟩))
    go_split_ands
    have S2 : Hid (Sc w9 g base s q o c a v) := by assumption
    have T2 : Hid (Stp X g W v w9 v) := by assumption
    go_wp2_with (first | (go_at_call 24; refine (put_calls S2.out X _ _ _ _ HL.out).mono ?_; rintro e W2 ⟨v2, rfl, hS2, hT2⟩; have S3 := Lib.hid hS2; clear hS2))
    go_ret
    exact Res.mk_ok HX.out (by rw [HE.out]; exact S3.out) (T2.out.trans hT2)
  | none =>
    rw [hn] at hnum
    have HX := Lib.hid hnum
    have CN := Lib.hid (fun W => number_none (s.extract p q) W hDz (by rw [hx]; exact hn))
    clear h hl hS0 hes hrest hrl hn hnum hx hDz hr hrt hw hq
    go_enter Tryz.func22, Tryz.ntmps22
    go_wp2_with (first | (go_at_call 41; refine CS.out.mono ?_; rintro e W1 ⟨rfl, hS, hT⟩; have S1 := Lib.hid hS; obtain ⟨d0, d1, d2, d3, d4⟩ := hS.reads; clear hS))
    go_region_held3 (fun W' => W'.cell? ⟨g, 0, none⟩ = some (.string s) ∧ W'.cell? ⟨g, 1, none⟩ = some (.int .i64 (q : Int)) ∧ Hid (Sc W' g base s q o c a v) ∧ Hid (Stp X g W v W' v)) (first | (have hq : Sc W1.drew g base s q o c a v := S1.out.drew; have hs : Stp X g W v W1.drew v := (((Stp.refl X g W v).set _).trans hT).drew; with_reducible exact ⟨hq.reads.1, hq.reads.2.1, Lib.hid hq, Lib.hid hs⟩) | (with_reducible assumption) | (go_split_ands; have hq : Sc w9 g base s q o c a v := Sc.below (Hid.out (by with_reducible assumption)) hb; have hs : Stp X g W v w9 v := Stp.trans (v1 := v) (Hid.out (by with_reducible assumption)) ⟨Kp.of_below hb, fun _ h => .inl h⟩; exact ⟨hq.reads.1, hq.reads.2.1, Lib.hid hq, Lib.hid hs⟩)) (first | (go_at_call 16; refine (CN.out _).mono ?_; rintro e w9 ⟨rfl, hb⟩))
    go_split_ands
    have S2 : Hid (Sc w9 g base s q o c a v) := by assumption
    have T2 : Hid (Stp X g W v w9 v) := by assumption
    go_wp2_with (first | (go_at_call 18; refine (stop_calls S2.out X _ _).mono ?_; rintro e W2 ⟨rfl, hS2, hT2⟩; have S3 := Lib.hid hS2; clear hS2))
    go_ret
    exact Res.mk_err HX.out (by rw [HR.out]; exact S3.out) (T2.out.trans hT2)
end
end Go.Proofs.YtkcfigfhbeohfaaGreatDoor.Tp
