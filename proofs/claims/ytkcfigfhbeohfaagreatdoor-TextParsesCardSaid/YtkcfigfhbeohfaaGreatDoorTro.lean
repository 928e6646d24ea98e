/- The reader's value: the contract at each depth. -/
import Derived.Test.YtkcfigfhbeohfaaGreatDoorTrn
namespace Go.Proofs.YtkcfigfhbeohfaaGreatDoor.Tp
open Go Go.RowKit Go.Maps Go.Proofs.YtkcfigfhbeohfaaGreatDoorW.PrintWords
section
variable {W : World} {g base : Nat} {s : ByteArray} {p : Nat} {o : List Nd} {c a : Int} {v : Value}
theorem RS.vok {N d : Nat} {W' : World} {v' : Value} {o' : List Nd} {r1 : List UInt8} (hp : p ≤ s.size) (hN : o.length + (s.size - p) ≤ N) (hx : value d (rest s p) = .ok (o', r1)) (h : Rd W' g base s (s.size - r1.length) (o ++ o') 0 a v') (ht : Stp X0 g W v W' v') : RS N g base s a W v o (Tp.value d (rest s p)) W' := by
  obtain ⟨cc, ecc, _⟩ := (value_ext d).2 _ _ _ hx
  have h1 := rest_suffix hp ecc
  have h2 := value_len _ _ _ _ hx
  have h3 := congrArg List.length ecc
  rw [rest_len] at h2 h3
  rw [List.length_append] at h3
  rw [hx]
  exact ⟨_, _, 0, a, v', h, ht, by rw [List.length_append]; omega, rfl, rfl, rfl, by omega, h1.1⟩
theorem RS.verr {N d q : Nat} {W' : World} {v' : Value} {o2 : List Nd} {e : Int × Nat} (hx : value d (rest s p) = .error e) (h : Rd W' g base s q o2 e.1 ((s.size : Int) - e.2) v') (ht : Stp X0 g W v W' v') (hn : o2.length ≤ N) : RS N g base s a W v o (Tp.value d (rest s p)) W' := by
  rw [hx]
  exact ⟨q, o2, _, _, v', h, ht, hn, rfl, rfl, value_code _ _ _ hx⟩
theorem RS.of_rr {N d : Nat} {W1 W' : World} {x : R (List Nd)} {r : Ending} (hp : p ≤ s.size) (hN : o.length + (s.size - p) ≤ N) (hx : value d (rest s p) = x) (ht : Stp X0 g W v W1 v) (h : RR N X0 g base s a W1 v o x r W') : r = .returned (.tuple #[]) ∧ RS N g base s a W v o (Tp.value d (rest s p)) W' := by
  obtain ⟨rfl, h⟩ := h
  refine ⟨rfl, ?_⟩
  cases x with
  | error e => obtain ⟨q, o2, v', h1, h2, h3⟩ := h; exact RS.verr hx h1 (ht.trans h2) h3
  | ok y => obtain ⟨o', r1⟩ := y; obtain ⟨v', h1, h2⟩ := h; exact RS.vok hp hN hx h1 (ht.trans h2)
theorem RS.from {N : Nat} {W1 W' : World} {v1 : Value} {x : R (List Nd)} (h : RS N g base s a W1 v1 o x W') (ht : Stp X0 g W v W1 v1) : RS N g base s a W v o x W' := by
  obtain ⟨q, o2, c, a2, v', h1, h2, h3, h4⟩ := h
  exact ⟨q, o2, c, a2, v', h1, ht.trans h2, h3, h4⟩
theorem value_headL (d : Nat) {r : List UInt8} {b : UInt8} {t : List UInt8} (hs : skip r = b :: t) : value (d + 1) r = if small b then word (b :: t) else if digit b || b == 45 then number (b :: t) else if b = 34 then (match str t [] with | .error x => .error x | .ok (s, r1) => .ok ([⟨4, ⟨s.toArray⟩, 0, 0⟩], r1)) else if b = 91 then finL 5 (rows 93 (elem (value d)) () t) else if b = 123 then finL 7 (rows 125 (member (value d)) [] t) else .error (10, t.length + 1) := by
  rw [value_head d hs]
  rfl
theorem str_put {t : List UInt8} {T : ByteArray} (hT : IsKey (34 :: t) T) : xput ⟨4, T, 0, 0⟩ (xquo [] (34 :: t)) = (match str t [] with | .error x => .error x | .ok (s, r1) => .ok ([⟨4, ⟨s.toArray⟩, 0, 0⟩], r1)) := by
  have hq : quoted (34 :: t) = str t [] := by
    unfold quoted takeB
    rw [skip_nb (by decide)]
    simp
  unfold xquo
  unfold IsKey at hT
  rw [hq] at hT ⊢
  cases hs : str t [] with
  | error e => rfl
  | ok y =>
    obtain ⟨key, r1⟩ := y
    rw [hT _ _ hs]
    rfl
theorem rok0 (h : Rd W g base s p o 0 a v) : Calls Tryz.prog 12 #[.pointer (some ⟨g, 0, none⟩)] W fun r W' => r = .returned (.bool true) ∧ W' = W := rok_calls h
set_option maxHeartbeats 32000000 in
set_option maxRecDepth 100000 in
theorem rvalue_step (d : Nat) (hd : d ≤ 20) (ih : ∀ d', d = d' + 1 → VR d') : VR d := by
  intro W g base s p o a v N h hp hz hN1 hN2
  obtain ⟨dep, hdep⟩ : ∃ dep : Int, (21 : Int) - (d : Int) = dep := ⟨_, rfl⟩
  rw [hdep]
  have H := Lib.hid h
  have CN := Lib.hid (rskip_calls h X0 (by omega))
  obtain ⟨l1, l2⟩ := adv_le s hp
  obtain ⟨q, hq⟩ : ∃ q, adv s p = q := ⟨_, rfl⟩
  rw [hq] at CN l1 l2
  have HP := Lib.hid hp
  have hln := rest_len s q
  have hsl := skip_le (rest s p)
  rw [← l2, rest_len, rest_len] at hsl
  have HNN := Lib.hid (show o.length + (s.size - p) ≤ N by omega)
  have HON := Lib.hid (show o.length ≤ N by omega)
  have HOL := Lib.hid (show o.length ≤ 4294967296 by omega)
  have HZ2 := Lib.hid (show s.size ≤ 4294967296 by omega)
  cases hs : skip (rest s p) with
  | nil =>
    rw [hs] at l2
    have hx : value d (rest s p) = .error (11, 0) := by cases d <;> (unfold value; rw [hs])
    have HX := Lib.hid hx
    have hqs : q = s.size := (rest_nil l1).1 l2
    have d1 : (s.size : Int) ≤ (q : Int) := by omega
    have HZ0 := Lib.hid (show (s.size : Int) = (s.size : Int) - ((0 : Nat) : Int) by simp)
    clear h hs l2 hx ih hdep hq hqs hN1 hN2 hsl hln hp hd
    go_enter Tryz.func11, Tryz.ntmps11
    go_wp2_with (first | (go_at_call 12; (with_reducible refine (rok0 H.out).mono ?_); rintro e1 W0 ⟨rfl, hw⟩; have hw2 := hw.symm; clear hw; subst hw2) | (go_at_call 13; (with_reducible refine CN.out.mono ?_); rintro e1 W1 ⟨rfl, hS, hT⟩; have S1 := Lib.hid hS; have T1 := Lib.hid hT; obtain ⟨d0, e1, d2, d3, d4⟩ := hS.reads; have g1 := hS.frz 1; clear hS hT))
    go_quiet (fail)
    go_wp2_with (first | (go_at_call 14; (with_reducible refine (wrong_calls (S1.out.drewN _) X0 _ _).mono ?_); rintro e1 W2 ⟨rfl, hS, hT⟩; have S2 := Lib.hid hS; have T2 := Lib.hid hT; clear hS hT))
    refine bodyPost_ret (results_none rfl _ _ _) rfl ?_
    exact ⟨rfl, RS.verr HX.out (by rw [← HZ0.out]; exact S2.out) ((T1.out.drewN _).trans T2.out) HON.out⟩
  | cons b t =>
    rw [hs] at l2
    rw [l2, List.length_cons] at hln
    have hlt := rest_lt l2
    have hb0 : s[q]'hlt = b := (rest_get l2 hlt).1
    have HL2 := Lib.hid l2
    have d1 : decide ((s.size : Int) ≤ (q : Int)) = false := by simp; omega
    have HQ := Lib.hid (show ((s.size : Int) - ((t.length + 1 : Nat) : Int)) = (q : Int) by omega)
    have HQ1 := Lib.hid l1
    cases d with
    | zero =>
      have HX := Lib.hid (show value 0 (rest s p) = .error (12, t.length + 1) by unfold value; rw [hs])
      have d8 : (20 : Int) < dep := by omega
      clear h hs l2 ih hdep hq hN1 hN2 hsl hln hp hd l1
      go_enter Tryz.func11, Tryz.ntmps11
      go_wp2_with (first | (go_at_call 12; (with_reducible refine (rok0 H.out).mono ?_); rintro e1 W0 ⟨rfl, hw⟩; have hw2 := hw.symm; clear hw; subst hw2) | (go_at_call 13; (with_reducible refine CN.out.mono ?_); rintro e1 W1 ⟨rfl, hS, hT⟩; have S1 := Lib.hid hS; have T1 := Lib.hid hT; obtain ⟨d0, e1, d2, d3, d4⟩ := hS.reads; have g1 := hS.frz 1; clear hS hT))
      go_quiet (fail)
      go_wp2_with (first | (go_at_call 14; (with_reducible refine (wrong_calls (S1.out.drewN _) X0 _ _).mono ?_); rintro e1 W2 ⟨rfl, hS, hT⟩; have S2 := Lib.hid hS; have T2 := Lib.hid hT; clear hS hT))
      refine bodyPost_ret (results_none rfl _ _ _) rfl ?_
      exact ⟨rfl, RS.verr HX.out (by rw [HQ.out]; exact S2.out) ((T1.out.drewN _).trans T2.out) HON.out⟩
    | succ d =>
      have hx := value_headL d hs
      have d8 : decide ((20 : Int) < dep) = false := by simp; omega
      have hd19 : d ≤ 19 := by omega
      have HV := Lib.hid (ih d rfl)
      have HDEP := Lib.hid hdep
      have HB1 := Lib.hid (show o.length + (s.size - q) + 3 * (d + 2) ≤ N by omega)
      have HB2 := Lib.hid hN2
      have HZ := Lib.hid hz
      have HD := Lib.hid hd19
      obtain ⟨N1, hN3⟩ : ∃ N1, N = N1 + 1 := ⟨N - 1, by omega⟩
      have HN3 := Lib.hid hN3
      have HON1 := Lib.hid (show (o ++ ([] : List Nd)).length ≤ N1 by rw [List.append_nil]; omega)
      have HN14 := Lib.hid (show N1 ≤ 4294967296 by omega)
      have HQR := Lib.hid (show q + (b :: t).length = s.size by rw [List.length_cons]; omega)
      clear h ih hdep hq hN1 hN2 hsl hln hp hd hd19 l1 hN3
      by_cases h1 : small b = true
      · rw [if_pos h1] at hx
        have HX := Lib.hid hx
        have h2 : 97 ≤ b.toNat ∧ b.toNat ≤ 122 := by simpa [small] using h1
        have x1 : decide ((97 : Int) ≤ (b.toNat : Int)) = true := by simp; omega
        have x2 : decide ((b.toNat : Int) ≤ 122) = true := by simp; omega
        clear hx h1 h2 hs l2
        go_enter Tryz.func11, Tryz.ntmps11
        go_wp2_with (first | (go_at_call 12; (with_reducible refine (rok0 H.out).mono ?_); rintro e1 W0 ⟨rfl, hw⟩; have hw2 := hw.symm; clear hw; subst hw2) | (go_at_call 13; (with_reducible refine CN.out.mono ?_); rintro e1 W1 ⟨rfl, hS, hT⟩; have S1 := Lib.hid hS; have T1 := Lib.hid hT; obtain ⟨d0, e1, d2, d3, d4⟩ := hS.reads; have g1 := hS.frz 1; clear hS hT))
        go_quiet (fail)
        revert nq
        intro m1
        go_wp2_with fail
        go_quiet (fail)
        have S4 := Lib.hid (S1.out.drewN (m1 + nq))
        have T4 := Lib.hid (T1.out.drewN (m1 + nq))
        clear d0 e1 d2 d3 d4 g1
        obtain ⟨d0, e1, d2, d3, d4⟩ := S4.out.reads
        have g1 := S4.out.frz 1
        go_wp2_with (first | (go_at_call 30; (with_reducible refine (rword_calls S4.out HQ1.out X0 HZ2.out HOL.out N HON.out).mono ?_); rw [HL2.out]; intro e1 W5 hR; obtain ⟨rfl, hR2⟩ := RS.of_rr HP.out HNN.out HX.out T4.out hR; have R5 := Lib.hid hR2; clear hR hR2))
        all_goals (first | go_end0 | refine bodyPost_ret (results_none rfl _ _ _) rfl ?_)
        exact ⟨rfl, R5.out⟩
      · rw [if_neg h1] at hx
        have hsm : decide ((97 : Int) ≤ (b.toNat : Int)) = false ∨ decide ((97 : Int) ≤ (b.toNat : Int)) = true ∧ decide ((b.toNat : Int) ≤ 122) = false := by
          have h2 : ¬ (97 ≤ b.toNat ∧ b.toNat ≤ 122) := by simpa [small] using h1
          simp; omega
        by_cases h3 : (digit b || b == 45) = true
        · rw [if_pos h3] at hx
          have HX := Lib.hid hx
          have hcs : (decide ((97 : Int) ≤ (b.toNat : Int)) = false) ∧ (((b.toNat : Int) == 45) = true ∨ ((b.toNat : Int) == 45) = false ∧ decide ((48 : Int) ≤ (b.toNat : Int)) = true ∧ decide ((b.toNat : Int) ≤ 57) = true) := by
            by_cases h45 : b = 45
            · subst h45; decide
            · have h5 : 48 ≤ b.toNat ∧ b.toNat ≤ 57 := by simpa [digit, h45] using h3
              have := u8_ne (y := 45) h45
              refine ⟨by simp; omega, .inr ⟨this, by simp; omega, by simp; omega⟩⟩
          obtain ⟨x1, hcs⟩ := hcs
          clear hx h1 h3 hs hsm
          rcases hcs with x2 | ⟨x2, x3, x4⟩
          all_goals
            clear l2
            go_enter Tryz.func11, Tryz.ntmps11
            go_wp2_with (first | (go_at_call 12; (with_reducible refine (rok0 H.out).mono ?_); rintro e1 W0 ⟨rfl, hw⟩; have hw2 := hw.symm; clear hw; subst hw2) | (go_at_call 13; (with_reducible refine CN.out.mono ?_); rintro e1 W1 ⟨rfl, hS, hT⟩; have S1 := Lib.hid hS; have T1 := Lib.hid hT; obtain ⟨d0, e1, d2, d3, d4⟩ := hS.reads; have g1 := hS.frz 1; clear hS hT))
            go_quiet (fail)
            revert nq
            intro m1
            go_wp2_with fail
            go_quiet (fail)
            have S4 := Lib.hid (S1.out.drewN (m1 + nq))
            have T4 := Lib.hid (T1.out.drewN (m1 + nq))
            clear d0 e1 d2 d3 d4 g1
            obtain ⟨d0, e1, d2, d3, d4⟩ := S4.out.reads
            have g1 := S4.out.frz 1
            go_wp2_with (first | (go_at_call 31; (with_reducible refine (rnumber_calls S4.out X0 HZ2.out HOL.out b t HL2.out N HON.out).mono ?_); rw [HL2.out]; intro e1 W5 hR; obtain ⟨rfl, hR2⟩ := RS.of_rr HP.out HNN.out HX.out T4.out hR; have R5 := Lib.hid hR2; clear hR hR2))
            all_goals (first | go_end0 | refine bodyPost_ret (results_none rfl _ _ _) rfl ?_)
            exact ⟨rfl, R5.out⟩
        · rw [if_neg h3] at hx
          simp only [Bool.or_eq_true, beq_iff_eq, not_or, Bool.not_eq_true] at h3
          have x45 : ((b.toNat : Int) == 45) = false := u8_ne (y := 45) h3.2
          have hdg : decide ((48 : Int) ≤ (b.toNat : Int)) = false ∨ decide ((48 : Int) ≤ (b.toNat : Int)) = true ∧ decide ((b.toNat : Int) ≤ 57) = false := by
            have h5 : ¬ (48 ≤ b.toNat ∧ b.toNat ≤ 57) := by
              intro h; have h6 := h3.1; simp only [digit, Bool.and_eq_false_iff, decide_eq_false_iff_not] at h6; omega
            simp; omega
          clear h1 h3 hs
          by_cases h34 : b = 34
          · subst h34
            rw [if_pos rfl] at hx
            have HX := Lib.hid hx
            clear hx l2 hsm hdg
            go_enter Tryz.func11, Tryz.ntmps11
            go_wp2_with (first | (go_at_call 12; (with_reducible refine (rok0 H.out).mono ?_); rintro e1 W0 ⟨rfl, hw⟩; have hw2 := hw.symm; clear hw; subst hw2) | (go_at_call 13; (with_reducible refine CN.out.mono ?_); rintro e1 W1 ⟨rfl, hS, hT⟩; have S1 := Lib.hid hS; have T1 := Lib.hid hT; obtain ⟨d0, e1, d2, d3, d4⟩ := hS.reads; have g1 := hS.frz 1; clear hS hT))
            go_quiet (fail)
            revert nq
            intro m1
            go_wp2_with fail
            go_quiet (fail)
            have S4 := Lib.hid (S1.out.drewN (m1 + nq))
            have T4 := Lib.hid (T1.out.drewN (m1 + nq))
            clear d0 e1 d2 d3 d4 g1
            obtain ⟨d0, e1, d2, d3, d4⟩ := S4.out.reads
            have g1 := S4.out.frz 1
            go_wp2_with (first | (go_at_call 32; (with_reducible refine (rquoted_gen (o := o) (ob := []) (by rw [List.append_nil]; exact S4.out) T4.out HON1.out HQR.out HL2.out HZ2.out).mono ?_); rintro e1 W5 ⟨T, rfl, hS, _, hK⟩; have S5 := Lib.hid hS; have K5 := Lib.hid hK; clear hS hK) | (go_at_call 33; (with_reducible refine (rput_gen S5.out HN14.out _ _ _ _).mono ?_); rintro e1 W6 ⟨rfl, hS, _⟩; rw [str_put K5.out] at hS; have S6 := Lib.hid hS; clear hS))
            all_goals (first | go_end0 | refine bodyPost_ret (results_none rfl _ _ _) rfl ?_)
            exact ⟨rfl, by rw [HX.out, HN3.out]; exact S6.out⟩
          · rw [if_neg h34] at hx
            have x34 : ((b.toNat : Int) == 34) = false := u8_ne (y := 34) h34
            by_cases h91 : b = 91
            · subst h91
              rw [if_pos rfl] at hx
              have HX := Lib.hid hx
              clear hx l2 hsm hdg h34
              go_enter Tryz.func11, Tryz.ntmps11
              go_wp2_with (first | (go_at_call 12; (with_reducible refine (rok0 H.out).mono ?_); rintro e1 W0 ⟨rfl, hw⟩; have hw2 := hw.symm; clear hw; subst hw2) | (go_at_call 13; (with_reducible refine CN.out.mono ?_); rintro e1 W1 ⟨rfl, hS, hT⟩; have S1 := Lib.hid hS; have T1 := Lib.hid hT; obtain ⟨d0, e1, d2, d3, d4⟩ := hS.reads; have g1 := hS.frz 1; clear hS hT))
              go_quiet (fail)
              revert nq
              intro m1
              go_wp2_with fail
              go_quiet (fail)
              have S4 := Lib.hid (S1.out.drewN (m1 + nq))
              have T4 := Lib.hid (T1.out.drewN (m1 + nq))
              clear d0 e1 d2 d3 d4 g1
              obtain ⟨d0, e1, d2, d3, d4⟩ := S4.out.reads
              have g1 := S4.out.frz 1
              go_wp2_with (first | (go_at_call 34; (with_reducible refine (rlist_calls d HD.out HV.out S4.out HZ.out t HL2.out N HB1.out HB2.out dep HDEP.out).mono ?_); rintro e1 W5 ⟨rfl, hS⟩; have S5 := Lib.hid (hS.from T4.out); clear hS))
              all_goals (first | go_end0 | refine bodyPost_ret (results_none rfl _ _ _) rfl ?_)
              exact ⟨rfl, by rw [HX.out]; exact S5.out⟩
            · rw [if_neg h91] at hx
              have x91 : ((b.toNat : Int) == 91) = false := u8_ne (y := 91) h91
              by_cases h123 : b = 123
              · subst h123
                rw [if_pos rfl] at hx
                have HX := Lib.hid hx
                clear hx l2 hsm hdg h34 h91
                go_enter Tryz.func11, Tryz.ntmps11
                go_wp2_with (first | (go_at_call 12; (with_reducible refine (rok0 H.out).mono ?_); rintro e1 W0 ⟨rfl, hw⟩; have hw2 := hw.symm; clear hw; subst hw2) | (go_at_call 13; (with_reducible refine CN.out.mono ?_); rintro e1 W1 ⟨rfl, hS, hT⟩; have S1 := Lib.hid hS; have T1 := Lib.hid hT; obtain ⟨d0, e1, d2, d3, d4⟩ := hS.reads; have g1 := hS.frz 1; clear hS hT))
                go_quiet (fail)
                revert nq
                intro m1
                go_wp2_with fail
                go_quiet (fail)
                have S4 := Lib.hid (S1.out.drewN (m1 + nq))
                have T4 := Lib.hid (T1.out.drewN (m1 + nq))
                clear d0 e1 d2 d3 d4 g1
                obtain ⟨d0, e1, d2, d3, d4⟩ := S4.out.reads
                have g1 := S4.out.frz 1
                go_wp2_with (first | (go_at_call 35; (with_reducible refine (robject_calls d HD.out HV.out S4.out HZ.out t HL2.out N HB1.out HB2.out dep HDEP.out).mono ?_); rintro e1 W5 ⟨rfl, hS⟩; have S5 := Lib.hid (hS.from T4.out); clear hS))
                all_goals (first | go_end0 | refine bodyPost_ret (results_none rfl _ _ _) rfl ?_)
                exact ⟨rfl, by rw [HX.out]; exact S5.out⟩
              · rw [if_neg h123] at hx
                have x123 : ((b.toNat : Int) == 123) = false := u8_ne (y := 123) h123
                have HX := Lib.hid hx
                clear hx l2 h34 h91 h123
                rcases hsm with x1 | ⟨x1, x2⟩ <;> rcases hdg with x3 | ⟨x3, x4⟩
                all_goals
                  go_enter Tryz.func11, Tryz.ntmps11
                  go_wp2_with (first | (go_at_call 12; (with_reducible refine (rok0 H.out).mono ?_); rintro e1 W0 ⟨rfl, hw⟩; have hw2 := hw.symm; clear hw; subst hw2) | (go_at_call 13; (with_reducible refine CN.out.mono ?_); rintro e1 W1 ⟨rfl, hS, hT⟩; have S1 := Lib.hid hS; have T1 := Lib.hid hT; obtain ⟨d0, e1, d2, d3, d4⟩ := hS.reads; have g1 := hS.frz 1; clear hS hT))
                  go_quiet (fail)
                  revert nq
                  intro m1
                  go_wp2_with fail
                  go_quiet (fail)
                  have S4 := Lib.hid (S1.out.drewN (m1 + nq))
                  have T4 := Lib.hid (T1.out.drewN (m1 + nq))
                  clear d0 e1 d2 d3 d4 g1
                  obtain ⟨d0, e1, d2, d3, d4⟩ := S4.out.reads
                  have g1 := S4.out.frz 1
                  go_wp2_with (first | (go_at_call 14; (with_reducible refine (wrong_calls S4.out X0 _ _).mono ?_); rintro e1 W5 ⟨rfl, hS, hT⟩; have S5 := Lib.hid hS; have T5 := Lib.hid (T4.out.trans hT); clear hS hT))
                  all_goals (first | go_end0 | refine bodyPost_ret (results_none rfl _ _ _) rfl ?_)
                  exact ⟨rfl, RS.verr HX.out (by rw [HQ.out]; exact S5.out) T5.out HON.out⟩
theorem rvalue_all : ∀ d : Nat, d ≤ 20 → VR d
  | 0, h => rvalue_step 0 h (fun _ e => by cases e)
  | d + 1, h => rvalue_step (d + 1) h (fun d' e => by cases e; exact rvalue_all d (by omega))
end
end Go.Proofs.YtkcfigfhbeohfaaGreatDoor.Tp
