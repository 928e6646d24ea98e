/- The reference's Number, at the seat of TextParses. -/
import Derived.Test.YtkcfigfhbeohfaaGreatDoorTre
namespace Go.Proofs.YtkcfigfhbeohfaaGreatDoor.Tp
open Go Go.RowKit Go.Maps Go.Proofs.YtkcfigfhbeohfaaGreatDoorW.PrintWords
theorem tw_all {t : List UInt8} (h : t.all digit = true) : t.takeWhile digit = t ∧ t.dropWhile digit = [] := by
  induction t with
  | nil => exact ⟨rfl, rfl⟩
  | cons c t ih =>
    simp only [List.all_cons, Bool.and_eq_true] at h
    simp [h.1, ih h.2]
theorem tw_len {l : List UInt8} {q : Nat} (h : (l.take q).all digit = true) (hq : q ≤ l.length) (hn : ∀ c t, l.drop q = c :: t → digit c = false) : (l.takeWhile digit).length = q := by
  have h1 := (while_follow (x := l.drop q) h hn).1
  rw [List.take_append_drop] at h1
  rw [h1, List.length_take]; omega
theorem pow_le6 {n : Nat} (h : n ≤ 6) : (10 : Int) ^ n ≤ 1000000 := by
  rcases (show n = 0 ∨ n = 1 ∨ n = 2 ∨ n = 3 ∨ n = 4 ∨ n = 5 ∨ n = 6 by omega) with rfl | rfl | rfl | rfl | rfl | rfl | rfl <;> decide
theorem val_snoc : ∀ (l : List UInt8) (c : UInt8) (m : Int), val (l ++ [c]) m = 10 * val l m + ((c.toNat : Int) - 48)
  | [], c, m => rfl
  | x :: l, c, m => by simp only [List.cons_append, val]; exact val_snoc l c _
theorem run_calls (W : World) (D : ByteArray) (hz : D.size ≤ 4294967296) :
    Calls Tryz.prog 48 #[.string D, .int .u8 48, .int .u8 57] W fun e W' => e = .returned (.int .i64 ((D.data.toList.takeWhile digit).length : Int)) ∧ W' = W := run_gen W D 48 57 hz
theorem run_small (W : World) (D : ByteArray) (hz : D.size ≤ 4294967296) :
    Calls Tryz.prog 48 #[.string D, .int .u8 97, .int .u8 122] W fun e W' => e = .returned (.int .i64 ((D.data.toList.takeWhile small).length : Int)) ∧ W' = W := run_gen W D 97 122 hz
def numV : Option Int → Value
  | some n => .tuple #[.int .i64 n, .bool true]
  | none => .tuple #[.int .i64 0, .bool false]
set_option maxHeartbeats 8000000 in
set_option maxRecDepth 100000 in
theorem refnumber_calls (W : World) (s : ByteArray) (hz : s.size ≤ 4294967296) :
    Calls Tryz.prog 49 #[.string s] W fun e W' => e = .returned (numV (num s.data.toList)) ∧ W' = W := by
  have hsl : s.data.toList.length = s.size := by simp
  cases hL : s.data.toList with
  | nil =>
    have h0 : s.size = 0 := by rw [hL] at hsl; simpa using hsl.symm
    have e : s = ⟨#[]⟩ := ByteArray.ext (Array.eq_empty_of_size_eq_zero h0)
    subst e
    clear hL hsl h0 hz
    go_enter Tryz.func49, Tryz.ntmps49
    go_wp2_with fail
    go_ret2
    exact ⟨rfl, rfl⟩
  | cons b t =>
    have hpos : 0 < s.size := by rw [hL] at hsl; simp at hsl; omega
    have hne : s.toList.isEmpty = false := by rw [ByteArray.toList_eq, hL]; rfl
    have hs0 : s[0]'hpos = b := by
      have : s.data.toList[0]'(by rw [hsl]; exact hpos) = b := by simp [hL]
      exact this
    rw [← hL]
    by_cases hb45 : b = 45
    · have xb : ((b.toNat : Int) == 45) = true := by rw [hb45]; rfl
      obtain ⟨d, hd⟩ : ∃ d, unsigned s.data.toList = d := ⟨_, rfl⟩
      have HU := Lib.hid hd
      have hdt : d = t := by rw [← hd, hL]; simp [unsigned, hb45]
      obtain ⟨D, hD⟩ : ∃ D, s.extract 1 s.size = D := ⟨_, rfl⟩
      have hdl : D.data.toList = d := by
        rw [← hD, Lib.extract_data, hL, hdt]
        simp; rw [hL] at hsl; simp at hsl; exact List.take_of_length_le (by omega)
      have hds : d.length = D.size := by rw [← hdl]; simp
      have HNS := Lib.hid (show s.size = d.length + 1 by rw [hdt, ← hsl, hL]; simp)
      have HB := Lib.hid (show s.data.toList.head? = some 45 by rw [hL, hb45]; rfl)
      have hb := hL
      have hle : D.size < s.size := by have := HNS.out; omega
      have hpos0 := hpos
      clear hdt hd hL hsl hb45
      have HDL := Lib.hid hdl
      have HDS := Lib.hid hds
      have HDZ := Lib.hid (show D.size ≤ 4294967296 by omega)
      by_cases c1 : d = []
      · have HN := Lib.hid (show num s.data.toList = none by rw [num_def, if_pos (.inl (by rw [HU.out]; exact c1))])
        have x1 : decide ((D.size : Int) < 1) = true := by rw [show D.size = 0 by rw [← hds, c1]; rfl]; decide
        clear hdl hds hb hz c1
        go_enter Tryz.func49, Tryz.ntmps49
        go_wp2_with fail
        go_ret2
        exact ⟨by rw [HN.out]; rfl, rfl⟩
      · have x1 : decide ((D.size : Int) < 1) = false := by
          have : 0 < d.length := List.length_pos_iff.2 c1
          simp; omega
        by_cases c2 : 6 < D.size
        · have HN := Lib.hid (show num s.data.toList = none by rw [num_def, if_pos (.inr (.inl (by rw [HU.out, hds]; exact c2)))])
          have x2 : decide ((6 : Int) < (D.size : Int)) = true := by simp; omega
          clear hdl hds hb hz c1 c2
          go_enter Tryz.func49, Tryz.ntmps49
          go_wp2_with fail
          go_ret2
          exact ⟨by rw [HN.out]; rfl, rfl⟩
        · have x2 : decide ((6 : Int) < (D.size : Int)) = false := by simp; omega
          have hposD : 0 < D.size := by (have := List.length_pos_iff.2 c1; omega)
          have H6 := Lib.hid (show D.size ≤ 6 by omega)
          obtain ⟨kk, hk⟩ : ∃ kk, (d.takeWhile digit).length = kk := ⟨_, rfl⟩
          have HK := Lib.hid hk
          by_cases c3 : d.all digit = true
          · have hkd : kk = D.size := by rw [← hk, (tw_all c3).1, hds]
            subst hkd
            have HALL := Lib.hid c3
            obtain ⟨c0, hc0⟩ : ∃ c0, D[0]'hposD = c0 := ⟨_, rfl⟩
            have hhd : d.head? = some c0 := by
              rw [List.head?_eq_getElem?, ← hdl, List.getElem?_eq_getElem (show 0 < D.data.toList.length by rw [hdl]; exact List.length_pos_iff.2 c1)]
              exact congrArg some hc0
            have hpos := hposD
            by_cases c4 : c0 = 48 ∧ 1 < s.size
            · have HN := Lib.hid (show num s.data.toList = none by rw [num_def, if_pos (.inr (.inr (.inr ⟨by rw [HU.out, hhd, c4.1], fun e => by have := congrArg List.length e; rw [show s.data.toList.length = s.size by simp] at this; simp at this; omega⟩)))])
              have x3 : ((c0.toNat : Int) == 48) = true := by rw [c4.1]; rfl
              have x4 : decide ((1 : Int) < (s.size : Int)) = true := by simp; omega
              clear hdl hds hb hz c1 c2 c3 c4 hk hhd
              go_enter Tryz.func49, Tryz.ntmps49
              go_wp2_with (first | (go_at_call 48; with_reducible refine (run_calls _ D HDZ.out).mono ?_; rw [HDL.out, HK.out]; rintro e1 W' ⟨rfl, hw1⟩; have hw2 := hw1.symm; clear hw1; subst hw2))
              go_ret2
              exact ⟨by rw [HN.out]; rfl, rfl⟩
            · have HN := Lib.hid (show num s.data.toList = some (- val d 0) by
                rw [num_def, if_neg, if_pos (HB.out), HU.out]
                rw [HU.out]
                simp only [not_or, Bool.not_eq_false]
                refine ⟨c1, by rw [hds]; omega, c3, fun hh => c4 ⟨by have := hhd.symm.trans hh.1; exact Option.some.inj this, ?_⟩⟩
                rcases Nat.lt_or_ge 1 s.size with h1 | h1
                · exact h1
                · exfalso
                  apply hh.2
                  have hl : s.data.toList.length = s.size := by simp
                  have h0 := hh.1
                  have := hds; have := hpos; have hq : s.size = d.length + 1 := HNS.out; omega)
              rcases (show (((c0.toNat : Int) == 48) = true ∧ decide ((1 : Int) < (s.size : Int)) = false) ∨ ((c0.toNat : Int) == 48) = false by
                by_cases h48 : c0 = 48
                · left; exact ⟨by rw [h48]; rfl, by have := Nat.not_lt.1 (fun h1 => c4 ⟨h48, h1⟩); simp; omega⟩
                · right; exact u8_ne (y := 48) h48) with ⟨x3, x4⟩ | x3
              all_goals
                clear hdl hds hb hz c1 c2 c3 c4 hk hhd
                go_enter Tryz.func49, Tryz.ntmps49
                go_wp2_with (first | (go_at_call 48; with_reducible refine (run_calls _ D HDZ.out).mono ?_; rw [HDL.out, HK.out]; rintro e1 W' ⟨rfl, hw1⟩; have hw2 := hw1.symm; clear hw1; subst hw2))
                go_loopg [5, 6] D.size (fun k v5 v6 W' => ∃ q : Nat, v5 = .int .i64 (val (d.take q) 0) ∧ v6 = .int .i64 (q : Int) ∧ Hid (k = D.size - q) ∧ Hid (q ≤ D.size) ∧ Hid (W' = W))
                case atStart => exact ⟨0, rfl, rfl, Lib.hid rfl, Lib.hid (Nat.zero_le _), Lib.hid rfl⟩
                case round =>
                  obtain ⟨q, rfl, rfl, HK2, HQ, HW⟩ := hrel
                  by_cases hlt : q < D.size
                  · have d1 : decide ((q : Int) < (D.size : Int)) = true := by simp; omega
                    obtain ⟨c, hc⟩ : ∃ c, D[q]'hlt = c := ⟨_, rfl⟩
                    have HTK := Lib.hid (show d.take (q + 1) = d.take q ++ [c] by
                      have e1 : D.data.toList[q]'(by rw [HDL.out, HDS.out]; exact hlt) = c := hc
                      have e2 : d[q]'(by rw [HDS.out]; exact hlt) = c := by rw [← e1]; congr 1; exact HDL.out.symm
                      rw [List.take_succ_eq_append_getElem (by rw [HDS.out]; exact hlt), e2])
                    have HCD := Lib.hid (show 48 ≤ c.toNat ∧ c.toNat ≤ 57 by
                      have h1 := HALL.out
                      have h2 : (d.take (q + 1)).all digit = true := by
                        rw [← List.take_append_drop (q + 1) d, List.all_append, Bool.and_eq_true] at h1; exact h1.1
                      rw [HTK.out, List.all_append, Bool.and_eq_true] at h2
                      have h3 := h2.2
                      simp [digit] at h3; exact h3)
                    have HVB := Lib.hid (show 0 ≤ val (d.take q) 0 ∧ val (d.take q) 0 < 1000000 by
                      have h1 := HALL.out
                      rw [← List.take_append_drop q d, List.all_append, Bool.and_eq_true] at h1
                      have h2 := val_bound (d.take q) 0 1 h1.1 (by omega) (by omega)
                      have h3 : (10 : Int) ^ (d.take q).length ≤ 1000000 := pow_le6 (by rw [List.length_take]; have := HDS.out; have := H6.out; omega)
                      omega)
                    have HVS := Lib.hid (show val (d.take (q + 1)) 0 = 10 * val (d.take q) 0 + ((c.toNat : Int) - 48) by rw [HTK.out]; exact val_snoc _ _ _)
                    have hw : wrap64 ((q : Int) + 1) = ((q + 1 : Nat) : Int) := by have := HDZ.out; unfold wrap64; omega
                    go_wp2_with fail
                    go_roundg (D.size - (q + 1))
                    case rel => exact ⟨q + 1, by rw [HVS.out]; have := HVB.out; have := HCD.out; congr 1; unfold wrap64; omega, by rw [hw], Lib.hid rfl, Lib.hid hlt, HW⟩
                    case measure => have := HK2.out; omega
                  · have d1 : decide ((q : Int) < (D.size : Int)) = false := by simp; omega
                    have HT := Lib.hid (show d.take q = d from List.take_of_length_le (by rw [HDS.out]; omega))
                    have HVD := Lib.hid (val_bound d 0 1 HALL.out (by omega) (by omega))
                    have HP6 := Lib.hid (pow_le6 (n := d.length) (by have := HDS.out; have := H6.out; omega))
                    go_wp2_with fail
                    go_ret2
                    refine ⟨?_, HW.out⟩
                    rw [HN.out, HT.out]
                    rw [show wrap64 (- val d 0) = - val d 0 by have := HVD.out; have := HP6.out; unfold wrap64; omega]
                    rfl
          · have HN := Lib.hid (show num s.data.toList = none by rw [num_def, if_pos (.inr (.inr (.inl (by rw [HU.out]; simpa using c3))))])
            have x3 : ((kk : Int) != (D.size : Int)) = true := by
              have : kk ≠ D.size := by
                intro e
                apply c3
                have h1 : (d.takeWhile digit).length = d.length := by rw [hk, hds, e]
                have h2 := List.takeWhile_append_dropWhile (p := digit) (l := d)
                have h3 : d.takeWhile digit = d := by
                  have h4 := congrArg List.length h2
                  rw [List.length_append] at h4
                  have h5 : d.dropWhile digit = [] := List.eq_nil_of_length_eq_zero (by omega)
                  rw [h5, List.append_nil] at h2; exact h2
                rw [← h3]; exact List.all_takeWhile
              simp; omega
            clear hdl hds hb hz c1 c2 c3 hk
            go_enter Tryz.func49, Tryz.ntmps49
            go_wp2_with (first | (go_at_call 48; with_reducible refine (run_calls _ D HDZ.out).mono ?_; rw [HDL.out, HK.out]; rintro e1 W' ⟨rfl, hw1⟩; have hw2 := hw1.symm; clear hw1; subst hw2))
            go_ret2
            exact ⟨by rw [HN.out]; rfl, rfl⟩
    · have xb : ((b.toNat : Int) == 45) = false := u8_ne (y := 45) hb45
      obtain ⟨d, hd⟩ : ∃ d, unsigned s.data.toList = d := ⟨_, rfl⟩
      have HU := Lib.hid hd
      have hdl : s.data.toList = d := by rw [← hd, hL]; simp [unsigned, hb45]
      have hds : d.length = s.size := by rw [← hdl]; simp
      have HB := Lib.hid (show ¬ s.data.toList.head? = some 45 by rw [hL]; simpa using hb45)
      have hb := hL
      have hpos0 := hpos
      clear hd hL hsl hb45
      have HDL := Lib.hid hdl
      have HDS := Lib.hid hds
      have HDZ := Lib.hid (show s.size ≤ 4294967296 by omega)
      by_cases c1 : d = []
      · have HN := Lib.hid (show num s.data.toList = none by rw [num_def, if_pos (.inl (by rw [HU.out]; exact c1))])
        have x1 : decide ((s.size : Int) < 1) = true := by rw [show s.size = 0 by rw [← hds, c1]; rfl]; decide
        clear hdl hds hb hz c1
        go_enter Tryz.func49, Tryz.ntmps49
        go_wp2_with fail
        go_ret2
        exact ⟨by rw [HN.out]; rfl, rfl⟩
      · have x1 : decide ((s.size : Int) < 1) = false := by
          have : 0 < d.length := List.length_pos_iff.2 c1
          simp; omega
        by_cases c2 : 6 < s.size
        · have HN := Lib.hid (show num s.data.toList = none by rw [num_def, if_pos (.inr (.inl (by rw [HU.out, hds]; exact c2)))])
          have x2 : decide ((6 : Int) < (s.size : Int)) = true := by simp; omega
          clear hdl hds hb hz c1 c2
          go_enter Tryz.func49, Tryz.ntmps49
          go_wp2_with fail
          go_ret2
          exact ⟨by rw [HN.out]; rfl, rfl⟩
        · have x2 : decide ((6 : Int) < (s.size : Int)) = false := by simp; omega
          have hposD : 0 < s.size := by (have := List.length_pos_iff.2 c1; omega)
          have H6 := Lib.hid (show s.size ≤ 6 by omega)
          obtain ⟨kk, hk⟩ : ∃ kk, (d.takeWhile digit).length = kk := ⟨_, rfl⟩
          have HK := Lib.hid hk
          by_cases c3 : d.all digit = true
          · have hkd : kk = s.size := by rw [← hk, (tw_all c3).1, hds]
            subst hkd
            have HALL := Lib.hid c3
            obtain ⟨c0, hc0⟩ : ∃ c0, s[0]'hposD = c0 := ⟨_, rfl⟩
            have hcb : c0 = b := hc0.symm.trans hs0
            subst hcb
            have hhd : d.head? = some c0 := by
              rw [List.head?_eq_getElem?, ← hdl, List.getElem?_eq_getElem (show 0 < s.data.toList.length by rw [hdl]; exact List.length_pos_iff.2 c1)]
              exact congrArg some hc0
            have hpos := hposD
            by_cases c4 : c0 = 48 ∧ 1 < s.size
            · have HN := Lib.hid (show num s.data.toList = none by rw [num_def, if_pos (.inr (.inr (.inr ⟨by rw [HU.out, hhd, c4.1], fun e => by have := congrArg List.length e; rw [show s.data.toList.length = s.size by simp] at this; simp at this; omega⟩)))])
              have x3 : ((c0.toNat : Int) == 48) = true := by rw [c4.1]; rfl
              have x4 : decide ((1 : Int) < (s.size : Int)) = true := by simp; omega
              clear hdl hds hb hz c1 c2 c3 c4 hk hhd
              go_enter Tryz.func49, Tryz.ntmps49
              go_wp2_with (first | (go_at_call 48; with_reducible refine (run_calls _ s HDZ.out).mono ?_; rw [HDL.out, HK.out]; rintro e1 W' ⟨rfl, hw1⟩; have hw2 := hw1.symm; clear hw1; subst hw2))
              go_ret2
              exact ⟨by rw [HN.out]; rfl, rfl⟩
            · have HN := Lib.hid (show num s.data.toList = some (val d 0) by
                rw [num_def, if_neg, if_neg (HB.out), HU.out]
                rw [HU.out]
                simp only [not_or, Bool.not_eq_false]
                refine ⟨c1, by rw [hds]; omega, c3, fun hh => c4 ⟨by have := hhd.symm.trans hh.1; exact Option.some.inj this, ?_⟩⟩
                rcases Nat.lt_or_ge 1 s.size with h1 | h1
                · exact h1
                · exfalso
                  apply hh.2
                  have hl : s.data.toList.length = s.size := by simp
                  have h0 := hh.1
                  rw [← hdl] at h0; cases hs : s.data.toList with | nil => (rw [hs] at h0; cases h0) | cons a r => (rw [hs] at h0 hl; simp at h0 hl; subst h0; cases r with | nil => rfl | cons => (simp at hl; omega)))
              rcases (show (((c0.toNat : Int) == 48) = true ∧ decide ((1 : Int) < (s.size : Int)) = false) ∨ ((c0.toNat : Int) == 48) = false by
                by_cases h48 : c0 = 48
                · left; exact ⟨by rw [h48]; rfl, by have := Nat.not_lt.1 (fun h1 => c4 ⟨h48, h1⟩); simp; omega⟩
                · right; exact u8_ne (y := 48) h48) with ⟨x3, x4⟩ | x3
              all_goals
                clear hdl hds hb hz c1 c2 c3 c4 hk hhd
                go_enter Tryz.func49, Tryz.ntmps49
                go_wp2_with (first | (go_at_call 48; with_reducible refine (run_calls _ s HDZ.out).mono ?_; rw [HDL.out, HK.out]; rintro e1 W' ⟨rfl, hw1⟩; have hw2 := hw1.symm; clear hw1; subst hw2))
                go_loopg [5, 6] s.size (fun k v5 v6 W' => ∃ q : Nat, v5 = .int .i64 (val (d.take q) 0) ∧ v6 = .int .i64 (q : Int) ∧ Hid (k = s.size - q) ∧ Hid (q ≤ s.size) ∧ Hid (W' = W))
                case atStart => exact ⟨0, rfl, rfl, Lib.hid rfl, Lib.hid (Nat.zero_le _), Lib.hid rfl⟩
                case round =>
                  obtain ⟨q, rfl, rfl, HK2, HQ, HW⟩ := hrel
                  by_cases hlt : q < s.size
                  · have d1 : decide ((q : Int) < (s.size : Int)) = true := by simp; omega
                    obtain ⟨c, hc⟩ : ∃ c, s[q]'hlt = c := ⟨_, rfl⟩
                    have HTK := Lib.hid (show d.take (q + 1) = d.take q ++ [c] by
                      have e1 : s.data.toList[q]'(by rw [HDL.out, HDS.out]; exact hlt) = c := hc
                      have e2 : d[q]'(by rw [HDS.out]; exact hlt) = c := by rw [← e1]; congr 1; exact HDL.out.symm
                      rw [List.take_succ_eq_append_getElem (by rw [HDS.out]; exact hlt), e2])
                    have HCD := Lib.hid (show 48 ≤ c.toNat ∧ c.toNat ≤ 57 by
                      have h1 := HALL.out
                      have h2 : (d.take (q + 1)).all digit = true := by
                        rw [← List.take_append_drop (q + 1) d, List.all_append, Bool.and_eq_true] at h1; exact h1.1
                      rw [HTK.out, List.all_append, Bool.and_eq_true] at h2
                      have h3 := h2.2
                      simp [digit] at h3; exact h3)
                    have HVB := Lib.hid (show 0 ≤ val (d.take q) 0 ∧ val (d.take q) 0 < 1000000 by
                      have h1 := HALL.out
                      rw [← List.take_append_drop q d, List.all_append, Bool.and_eq_true] at h1
                      have h2 := val_bound (d.take q) 0 1 h1.1 (by omega) (by omega)
                      have h3 : (10 : Int) ^ (d.take q).length ≤ 1000000 := pow_le6 (by rw [List.length_take]; have := HDS.out; have := H6.out; omega)
                      omega)
                    have HVS := Lib.hid (show val (d.take (q + 1)) 0 = 10 * val (d.take q) 0 + ((c.toNat : Int) - 48) by rw [HTK.out]; exact val_snoc _ _ _)
                    have hw : wrap64 ((q : Int) + 1) = ((q + 1 : Nat) : Int) := by have := HDZ.out; unfold wrap64; omega
                    go_wp2_with fail
                    go_roundg (s.size - (q + 1))
                    case rel => exact ⟨q + 1, by rw [HVS.out]; have := HVB.out; have := HCD.out; congr 1; unfold wrap64; omega, by rw [hw], Lib.hid rfl, Lib.hid hlt, HW⟩
                    case measure => have := HK2.out; omega
                  · have d1 : decide ((q : Int) < (s.size : Int)) = false := by simp; omega
                    have HT := Lib.hid (show d.take q = d from List.take_of_length_le (by rw [HDS.out]; omega))
                    have HVD := Lib.hid (val_bound d 0 1 HALL.out (by omega) (by omega))
                    have HP6 := Lib.hid (pow_le6 (n := d.length) (by have := HDS.out; have := H6.out; omega))
                    go_wp2_with fail
                    go_ret2
                    refine ⟨?_, HW.out⟩
                    rw [HN.out, HT.out]
                    rfl
          · have HN := Lib.hid (show num s.data.toList = none by rw [num_def, if_pos (.inr (.inr (.inl (by rw [HU.out]; simpa using c3))))])
            have x3 : ((kk : Int) != (s.size : Int)) = true := by
              have : kk ≠ s.size := by
                intro e
                apply c3
                have h1 : (d.takeWhile digit).length = d.length := by rw [hk, hds, e]
                have h2 := List.takeWhile_append_dropWhile (p := digit) (l := d)
                have h3 : d.takeWhile digit = d := by
                  have h4 := congrArg List.length h2
                  rw [List.length_append] at h4
                  have h5 : d.dropWhile digit = [] := List.eq_nil_of_length_eq_zero (by omega)
                  rw [h5, List.append_nil] at h2; exact h2
                rw [← h3]; exact List.all_takeWhile
              simp; omega
            clear hdl hds hb hz c1 c2 c3 hk
            go_enter Tryz.func49, Tryz.ntmps49
            go_wp2_with (first | (go_at_call 48; with_reducible refine (run_calls _ s HDZ.out).mono ?_; rw [HDL.out, HK.out]; rintro e1 W' ⟨rfl, hw1⟩; have hw2 := hw1.symm; clear hw1; subst hw2))
            go_ret2
            exact ⟨by rw [HN.out]; rfl, rfl⟩
end Go.Proofs.YtkcfigfhbeohfaaGreatDoor.Tp
