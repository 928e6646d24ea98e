/- The reader's quoted. -/
import Derived.Test.YtkcfigfhbeohfaaGreatDoorTri
import Derived.Test.YtkcfigfhbeohfaaGreatDoorTqg
namespace Go.Proofs.YtkcfigfhbeohfaaGreatDoor.Tp
open Go Go.RowKit Go.Maps Go.Proofs.YtkcfigfhbeohfaaGreatDoorW.PrintWords
section
variable {W : World} {g base : Nat} {s : ByteArray} {p : Nat} {o : List Nd} {c a : Int} {v : Value}
/-- How quoted ends that began without an error. -/
def RQ (X : Nat → Prop) (g base : Nat) (s : ByteArray) (a : Int) (W : World) (v : Value) (o : List Nd) (x : R (List UInt8)) (r : Ending) (W' : World) : Prop :=
  match x with
  | .ok (acc, r1) => r = .returned (.string ⟨acc.toArray⟩) ∧ Rd W' g base s (s.size - r1.length) o 0 a v ∧ Stp X g W v W' v
  | .error e => ∃ q T, r = .returned (.string T) ∧ Rd W' g base s q o e.1 ((s.size : Int) - e.2) v ∧ Stp X g W v W' v
theorem RQ.mk_ok {X : Nat → Prop} {W' W0 : World} {v0 : Value} {acc r1 : List UInt8} {x : R (List UInt8)} (hx : x = .ok (acc, r1)) (h : Rd W' g base s (s.size - r1.length) o 0 a v0) (ht : Stp X g W0 v0 W' v0) : RQ X g base s a W0 v0 o x (.returned (.string ⟨acc.toArray⟩)) W' := by
  subst hx; exact ⟨rfl, h, ht⟩
theorem RQ.mk_err {X : Nat → Prop} {W' W0 : World} {v0 : Value} {q : Nat} {T : ByteArray} {e : Int × Nat} {x : R (List UInt8)} (hx : x = .error e) (h : Rd W' g base s q o e.1 ((s.size : Int) - e.2) v0) (ht : Stp X g W0 v0 W' v0) : RQ X g base s a W0 v0 o x (.returned (.string T)) W' := by
  subst hx; exact ⟨q, T, rfl, h, ht⟩
/-- A call that leaves the world as it is, in a region that draws. -/
theorem quiet_sum {F : Nat} {args : Array Value} {r : Ending} {a b : Nat} (h : ∀ W : World, Calls Tryz.prog F args W fun e W' => e = r ∧ W' = W) : Calls Tryz.prog F args (W.drewN (a + b)) fun e w'' => e = r ∧ ∃ n, w'' = W.drewN (a + n) :=
  (h _).mono (fun _ _ hh => ⟨hh.1, b, hh.2⟩)
theorem isB_head (b x : UInt8) (t : List UInt8) : isB b (x :: t) = (x == b) := rfl
/-- string(out) behind a store into the reader. -/
theorem outStr (h : Rd W g base s p o c a v) {B : Nat} {vo : Value} {acc : List UInt8} (ho : W.ownsRow B 5 1 vo acc.length (Lib.byteCells acc)) (i : Nat) (u : Value) : (convert 22 9 vo).run Tryz.prog (W.setCell ⟨g, i, none⟩ u) = .ok (.string ⟨acc.toArray⟩) (W.setCell ⟨g, i, none⟩ u) :=
  bytesRow_string (h.setRow ho (by decide) i u)
theorem own_drewN {B t size n : Nat} {vo : Value} {xs : List Value} (h : W.ownsRow B t size vo n xs) (m : Nat) : (W.drewN m).ownsRow B t size vo n xs := h
theorem Rd.setRowD (h : Rd W g base s p o c a v) {B n : Nat} {vo : Value} {xs : List Value} (ho : W.ownsRow B 5 1 vo n xs) (m : Nat) (u : Value) : ((W.drewN m).setCell ⟨g, 1, none⟩ u).ownsRow B 5 1 vo n xs := (h.drewN m).setRow (own_drewN ho m) (by decide) 1 u
theorem is_at (h : Rd W g base s p o c a v) (b : UInt8) (n : Int) (hn : (b.toNat : Int) = n) : Calls Tryz.prog 51 #[.pointer (some ⟨g, 0, none⟩), .int .u8 n] W fun r W' => r = .returned (.bool (isB b (rest s p))) ∧ ∃ n, W' = W.drewN n := by
  subst hn; exact is_calls h b
set_option maxHeartbeats 8000000 in
set_option maxRecDepth 100000 in
theorem rquoted_calls (h : Rd W g base s p o 0 a v) (hp : p ≤ s.size) (X : Nat → Prop) (hz : s.size ≤ 4294967296) :
    Calls Tryz.prog 32 #[.pointer (some ⟨g, 0, none⟩)] W (RQ X g base s a W v o (quoted (rest s p))) := by
  cases ht : takeB 34 (rest s p) with
  | error x =>
    have CS := Lib.hid (rsign_err h hp X hz 34 x ht)
    have HX := Lib.hid (show quoted (rest s p) = .error x by unfold quoted; rw [ht])
    have hc0 := takeB_code ht
    obtain ⟨ec, ep⟩ := x
    have hcb : (ec == 0) = false := by rw [beq_eq_false_iff_ne]; exact hc0
    have kn := fun W => run_convert_bytes_nil (P := Tryz.prog) W 22 5 Tryz.underlying22 Tryz.underlying5 0 0 9 Tryz.underlying9
    clear h ht hc0
    go_enter Tryz.func32, Tryz.ntmps32
    go_wp2_with (first | (go_at_call 50; refine CS.out.mono ?_; rintro e1 W1 ⟨rfl, ⟨q, hq, hS⟩, hT⟩; have S1 := Lib.hid hS; have T1 := Lib.hid hT; clear hS hT))
    go_loopg [3] 0 (fun k v3 W' => v3 = .slice none 0 0 ∧ Hid (Rd W' g base s q o ec ((s.size : Int) - ep) v) ∧ Hid (Stp X g W v W' v))
    case atStart => exact ⟨rfl, S1, T1⟩
    case round =>
      obtain ⟨rfl, HS, HT⟩ := hrel
      obtain ⟨c0, c1, c2, c3, c4⟩ := HS.out.reads
      have f1 := HS.out.frz 1
      have hw : wrap64 ((q : Int) + 1) = ((q + 1 : Nat) : Int) := by unfold wrap64; omega
      go_wp2_with (first | (go_at_call 12; with_reducible refine (rok_calls HS.out).mono ?_; rw [hcb]; rintro e1 W5 ⟨rfl, hw5⟩; have hw6 := hw5.symm; clear hw5; subst hw6))
      go_ret
      exact RQ.mk_err HX.out (HS.out.at_ (q + 1) (by omega)) (HT.out.set _)
  | ok t =>
    have CS := Lib.hid (rsign_ok h hp X hz 34 t ht)
    have hx : quoted (rest s p) = str t [] := by unfold quoted; rw [ht]
    obtain ⟨cc, ecc, _⟩ := takeB_ext ht
    have hrt := (rest_suffix (s := s) (c := cc ++ [34]) (x := t) hp (by rw [ecc]; simp)).1
    have HRT := Lib.hid hrt
    have HX := Lib.hid hx
    obtain ⟨B, hB⟩ : ∃ B, W.heap.size = B := ⟨_, rfl⟩
    have HB := Lib.hid hB
    have HgB := Lib.hid (show g < B by rw [← hB]; exact blk_lt h.blk)
    have HvB := Lib.hid (show ∀ k, v.ownBlock = some k → k < B by rw [← hB]; exact h.own_lt)
    clear h ht hx ecc hrt hB
    go_enter Tryz.func32, Tryz.ntmps32
    go_wp2_with (first | (go_at_call 50; refine CS.out.mono ?_; rintro e1 W1 ⟨rfl, hS, hT⟩; have S1 := Lib.hid hS; have T1 := Lib.hid hT; clear hS hT))
    go_loopg [3] (s.size - (s.size - t.length)) (fun k v3 W' => ∃ (q : Nat) (acc : List UInt8) (A : Option Addr) (cap : Nat), v3 = .slice A acc.length cap ∧ Hid (Rd W' g base s q o 0 a v) ∧ Hid (Stp X g W v W' v) ∧ Hid (W'.ownsRow B 5 1 (.slice A acc.length cap) acc.length (Lib.byteCells acc)) ∧ Hid (B ≤ W'.heap.size) ∧ Hid (k = s.size - q) ∧ Hid (q ≤ s.size) ∧ Hid (quoted (rest s p) = str (rest s q) acc) ∧ Hid (acc.length ≤ q))
    case atStart => exact ⟨_, [], none, 0, rfl, S1, T1, Lib.hid (own_nil _ _ _ _), Lib.hid (by rw [← HB.out]; exact T1.out.kp.size), Lib.hid rfl, Lib.hid (by omega), Lib.hid (by rw [HRT.out]; exact HX.out), Lib.hid (Nat.zero_le _)⟩
    case round =>
      obtain ⟨q, acc, A, cap, rfl, HS, HT, HO, HBW, HK, HQ, HR, HA⟩ := hrel
      obtain ⟨c0, c1, c2, c3, c4⟩ := HS.out.reads
      have f1 := HS.out.frz 1
      have hqs := HQ.out
      have hr := HR.out
      cases hc : rest s q with
      | nil =>
        have hqe : q = s.size := (rest_nil hqs).1 hc
        have d9 : (s.size : Int) ≤ (q : Int) := by omega
        rw [hc] at hr
        unfold str at hr
        have HX2 := Lib.hid (show quoted (rest s p) = .error (11, 0) from hr)
        have HI := Lib.hid (show isB 34 (rest s q) = false by rw [hc]; rfl)
        have HZ0 := Lib.hid (show (s.size : Int) = (s.size : Int) - ((0 : Nat) : Int) by simp)
        clear hr hc hqe
        go_wp2_with (first | (go_at_call 12; with_reducible refine (rok_calls HS.out).mono ?_; rintro e1 W5 ⟨rfl, hw5⟩; have hw6 := hw5.symm; clear hw5; subst hw6) | (go_at_call 51; with_reducible refine (is_at HS.out 34 34 rfl).mono ?_; rw [HI.out]; rintro e1 W6 ⟨rfl, n6, rfl⟩))
        go_quiet (fail)
        go_wp2_with (first | (go_at_call 14; with_reducible refine (wrong_calls (HS.out.drewN _) X0 _ _).mono ?_; rintro e1 W7 ⟨rfl, hS, hT⟩; have S7 := Lib.hid hS; have T7 := Lib.hid hT; have O7 := Lib.hid ((HS.out.drewN _).keepRow hT (own_drewN HO.out _) (fun _ _ f => f) ⟨by decide, by decide⟩); obtain ⟨d0, d1, d2, d3, d4⟩ := hS.reads; have g1 := hS.frz 1; have kb := fun u => outStr S7.out O7.out 1 u; clear hS hT))
        go_ret
        exact RQ.mk_err HX2.out (by rw [← HZ0.out]; exact S7.out.at_ (q + 1) (by omega)) (((HT.out.drewN _).trans (stp0 T7.out)).set _)
      | cons x t' =>
        have hlt := rest_lt hc
        have hg := rest_get hc hlt
        have hx0 : s[q]'hlt = x := hg.1
        have HN := Lib.hid hg.2
        have hrl := rest_len s q
        rw [hc] at hr hrl
        rw [List.length_cons] at hrl
        unfold str at hr
        have d9 : decide ((s.size : Int) ≤ (q : Int)) = false := by simp; omega
        have HQN := Lib.hid (show ((s.size : Int) - ((t'.length + 1 : Nat) : Int)) = (q : Int) by omega)
        clear hg
        by_cases h34 : x = 34
        · rw [if_pos h34] at hr
          have HX2 := Lib.hid hr
          have HI := Lib.hid (show isB 34 (rest s q) = true by rw [hc, isB_head, h34]; rfl)
          have HLE := Lib.hid (show s.size - t'.length = q + 1 by omega)
          have kb := fun n u => outStr (HS.out.drewN n) (own_drewN HO.out n) 1 u
          clear hr hrl hc h34 hx0
          go_wp2_with (first | (go_at_call 12; with_reducible refine (rok_calls HS.out).mono ?_; rintro e1 W5 ⟨rfl, hw5⟩; have hw6 := hw5.symm; clear hw5; subst hw6) | (go_at_call 51; with_reducible refine (is_at HS.out 34 34 rfl).mono ?_; rw [HI.out]; rintro e1 W6 ⟨rfl, n6, rfl⟩))
          go_ret
          exact RQ.mk_ok HX2.out (by rw [HLE.out]; exact (HS.out.drewN _).at_ (q + 1) (by omega)) ((HT.out.drewN _).set _)
        · rw [if_neg h34] at hr
          have HI := Lib.hid (show isB 34 (rest s q) = false by rw [hc, isB_head]; simpa using h34)
          clear h34
          by_cases h92 : x = 92
          · rw [if_pos h92] at hr
            subst h92
            cases t' with
            | nil =>
              simp only at hr
              have HX2 := Lib.hid (show quoted (rest s p) = .error (11, 0) from hr)
              have e1 : (s.size : Int) ≤ (q : Int) + 1 := by simp at hrl; omega
              have HZ0 := Lib.hid (show (s.size : Int) = (s.size : Int) - ((0 : Nat) : Int) by simp)
              clear hr hrl hc
              go_wp2_with (first | (go_at_call 12; with_reducible refine (rok_calls HS.out).mono ?_; rintro e1 W5 ⟨rfl, hw5⟩; have hw6 := hw5.symm; clear hw5; subst hw6) | (go_at_call 51; with_reducible refine (is_at HS.out 34 34 rfl).mono ?_; rw [HI.out]; rintro e1 W6 ⟨rfl, n6, rfl⟩))
              go_quiet (fail)
              go_wp2_with fail
              go_quiet (fail)
              go_wp2_with fail
              go_quiet (fail)
              go_wp2_with (first | (go_at_call 14; with_reducible refine (wrong_calls (HS.out.drewN _) X0 _ _).mono ?_; rintro e1 W7 ⟨rfl, hS, hT⟩; have S7 := Lib.hid hS; have T7 := Lib.hid hT; have O7 := Lib.hid ((HS.out.drewN _).keepRow hT (own_drewN HO.out _) (fun _ _ f => f) ⟨by decide, by decide⟩); obtain ⟨d0, d1, d2, d3, d4⟩ := hS.reads; have g1 := hS.frz 1; have kb := fun u => outStr S7.out O7.out 1 u; clear hS hT))
              go_ret
              exact RQ.mk_err HX2.out (by rw [← HZ0.out]; exact S7.out.at_ (q + 1) (by omega)) (((HT.out.drewN _).trans (stp0 T7.out)).set _)
            | cons y u =>
              simp only at hr
              simp only [List.length_cons] at hrl
              have hlt2 : q + 1 < s.size := by omega
              have hgy := rest_get HN.out hlt2
              have hy0 : s[q + 1]'hlt2 = y := hgy.1
              have HN2 := Lib.hid hgy.2
              have e1 : decide ((s.size : Int) ≤ (q : Int) + 1) = false := by simp; omega
              have hq1 : (q : Int) + 1 < (s.size : Int) := by omega
              have hq2 : ((q : Int) + 1).toNat = q + 1 := by omega
              have CE := Lib.hid (fun W => escaped_calls y W)
              clear hgy hc
              by_cases hy : escB y = 0
              · have hne : ¬ (y = 34 ∨ y = 92) ∧ ¬ y = 110 := by
                  unfold escB at hy
                  constructor
                  · intro e; rw [if_pos e] at hy; rcases e with rfl | rfl <;> cases hy
                  · intro e; subst e; simp at hy
                rw [if_neg hne.1, if_neg hne.2] at hr
                have HX2 := Lib.hid hr
                have HQN2 := Lib.hid (show ((s.size : Int) - ((u.length + 2 : Nat) : Int)) = (q : Int) by omega)
                rw [hy] at CE
                clear hr hrl hne hy
                go_wp2_with (first | (go_at_call 12; with_reducible refine (rok_calls HS.out).mono ?_; rintro e1 W5 ⟨rfl, hw5⟩; have hw6 := hw5.symm; clear hw5; subst hw6) | (go_at_call 51; with_reducible refine (is_at HS.out 34 34 rfl).mono ?_; rw [HI.out]; rintro e1 W6 ⟨rfl, n6, rfl⟩))
                go_quiet (fail)
                go_wp2_with fail
                go_quiet (fail)
                go_wp2_with fail
                go_quiet (fail)
                go_wp2_with fail
                go_quiet ((go_at_call 52; exact quiet_sum CE.out))
                go_wp2_with (first | (go_at_call 14; with_reducible refine (wrong_calls (HS.out.drewN _) X0 _ _).mono ?_; rintro e1 W7 ⟨rfl, hS, hT⟩; have S7 := Lib.hid hS; have T7 := Lib.hid hT; have O7 := Lib.hid ((HS.out.drewN _).keepRow hT (own_drewN HO.out _) (fun _ _ f => f) ⟨by decide, by decide⟩); obtain ⟨d0, d1, d2, d3, d4⟩ := hS.reads; have g1 := hS.frz 1; have kb := fun u => outStr S7.out O7.out 1 u; clear hS hT))
                go_ret
                exact RQ.mk_err HX2.out (by rw [HQN2.out]; exact S7.out.at_ (q + 1) (by omega)) (((HT.out.drewN _).trans (stp0 T7.out)).set _)
              · have hst : quoted (rest s p) = str u (acc ++ [escB y]) := by
                  rw [hr]
                  unfold escB at hy ⊢
                  by_cases h1 : y = 34 ∨ y = 92
                  · rw [if_pos h1, if_pos h1]
                  · rw [if_neg h1] at hy ⊢
                    by_cases h2 : y = 110
                    · rw [if_pos h2, if_neg h1, if_pos h2]
                    · rw [if_neg h2] at hy; exact absurd rfl hy
                have HRN := Lib.hid hst
                have HLN := Lib.hid (show q + 2 ≤ s.size by omega)
                obtain ⟨ce, hce⟩ : ∃ ce, escB y = ce := ⟨_, rfl⟩
                rw [hce] at CE hy HRN
                have hb0 : ((ce.toNat : Int) == 0) = false := u8_ne (y := 0) hy
                clear hr hrl hst hce hy
                go_wp2_with (first | (go_at_call 12; with_reducible refine (rok_calls HS.out).mono ?_; rintro e1 W5 ⟨rfl, hw5⟩; have hw6 := hw5.symm; clear hw5; subst hw6) | (go_at_call 51; with_reducible refine (is_at HS.out 34 34 rfl).mono ?_; rw [HI.out]; rintro e1 W6 ⟨rfl, n6, rfl⟩))
                go_quiet (fail)
                go_wp2_with fail
                go_quiet (fail)
                go_wp2_with fail
                go_quiet (fail)
                go_wp2_with fail
                go_quiet ((go_at_call 52; exact quiet_sum CE.out))
                go_wp2_with (first | (at_builtin; refine print_append B rfl (.tmp 98) (.tmp 100) 22 5 (.int .u8 0) 1 rfl Tryz.underlying22 info_u8 rfl (by decide) _ (Lib.byteCells acc) (.int .u8 (ce.toNat : Int)) rfl (by rw [World.size_setCell]; rfl) rfl ?ho (Below.refl _ _) ?hb ?hl ?_; (case ho => rw [Lib.byteCells_length]; exact HS.out.setRowD HO.out _ _); (case hb => (first | exact HBW.out | (rw [World.size_setCell]; exact HBW.out))); (case hl => rw [Lib.byteCells_length]; have := HA.out; have := HQ.out; omega); intro v1 w1 ho hbel hgr hat; rw [bytes_snoc, Lib.byteCells_length] at ho; obtain ⟨gg, cap1, rfl⟩ := own_form (n := acc.length) (by simpa using ho); have O8 := Lib.hid ho; have S8 := Lib.hid (((HS.out.drewN _).at_ (q + 1) (by have := HLN.out; omega)).belowB hbel HgB.out HvB.out); have T8 := Lib.hid (((HT.out.drewN _).set _).belowB hbel (Nat.le_of_eq HB.out)); have Z8 := Lib.hid (show B ≤ w1.heap.size by have hs8 := hbel.size; (try rw [World.size_setCell] at hs8); exact Nat.le_trans HBW.out hs8); obtain ⟨d0, d1, d2, d3, d4⟩ := S8.out.reads; have g1 := S8.out.frz 1; clear ho hbel hgr hat))
                go_roundg (s.size - (q + 2))
                case rel => exact ⟨q + 2, acc ++ [ce], some ⟨gg, 0, none⟩, cap1, by rw [List.length_append]; rfl, Lib.hid (S8.out.at_ (q + 2) (by have := HLN.out; omega)), Lib.hid (T8.out.set _), Lib.hid (by have := S8.out.setRow O8.out (by decide) 1 (.int .i64 ((q + 2 : Nat) : Int)); rw [List.length_append] at this ⊢; exact this), Lib.hid (by rw [World.size_setCell]; exact Z8.out), Lib.hid rfl, HLN, Lib.hid (by rw [HN2.out]; exact HRN.out), Lib.hid (by have := HA.out; simp; omega)⟩
                case measure => have := HK.out; omega
          · rw [if_neg h92] at hr
            have t92 : ((x.toNat : Int) == 92) = false := u8_ne (y := 92) h92
            by_cases hbad : x.toNat < 32 ∨ 126 < x.toNat
            · rw [if_pos hbad] at hr
              have HX2 := Lib.hid hr
              have hcs : decide ((x.toNat : Int) < 32) = true ∨ decide ((x.toNat : Int) < 32) = false ∧ decide ((126 : Int) < (x.toNat : Int)) = true := by simp; omega
              clear hr hrl hc h92 hbad
              rcases hcs with e3 | ⟨e3, e4⟩
              all_goals
                go_wp2_with (first | (go_at_call 12; with_reducible refine (rok_calls HS.out).mono ?_; rintro e1 W5 ⟨rfl, hw5⟩; have hw6 := hw5.symm; clear hw5; subst hw6) | (go_at_call 51; with_reducible refine (is_at HS.out 34 34 rfl).mono ?_; rw [HI.out]; rintro e1 W6 ⟨rfl, n6, rfl⟩))
                go_quiet (fail)
                go_wp2_with fail
                go_quiet (fail)
                go_wp2_with (first | (go_at_call 14; with_reducible refine (wrong_calls (HS.out.drewN _) X0 _ _).mono ?_; rintro e1 W7 ⟨rfl, hS, hT⟩; have S7 := Lib.hid hS; have T7 := Lib.hid hT; have O7 := Lib.hid ((HS.out.drewN _).keepRow hT (own_drewN HO.out _) (fun _ _ f => f) ⟨by decide, by decide⟩); obtain ⟨d0, d1, d2, d3, d4⟩ := hS.reads; have g1 := hS.frz 1; have kb := fun u => outStr S7.out O7.out 1 u; clear hS hT))
                go_ret
                exact RQ.mk_err HX2.out (by rw [HQN.out]; exact S7.out.at_ (q + 1) (by omega)) (((HT.out.drewN _).trans (stp0 T7.out)).set _)
            · rw [if_neg hbad] at hr
              have e3 : decide ((x.toNat : Int) < 32) = false := by simp; omega
              have e4 : decide ((126 : Int) < (x.toNat : Int)) = false := by simp; omega
              have HRN := Lib.hid hr
              have HLN := Lib.hid (show q + 1 ≤ s.size by omega)
              clear hr hrl hbad h92 hc
              go_wp2_with (first | (go_at_call 12; with_reducible refine (rok_calls HS.out).mono ?_; rintro e1 W5 ⟨rfl, hw5⟩; have hw6 := hw5.symm; clear hw5; subst hw6) | (go_at_call 51; with_reducible refine (is_at HS.out 34 34 rfl).mono ?_; rw [HI.out]; rintro e1 W6 ⟨rfl, n6, rfl⟩))
              go_quiet (fail)
              go_wp2_with fail
              go_quiet (fail)
              go_wp2_with (first | (at_builtin; refine print_append B rfl (.tmp 98) (.tmp 100) 22 5 (.int .u8 0) 1 rfl Tryz.underlying22 info_u8 rfl (by decide) _ (Lib.byteCells acc) (.int .u8 (x.toNat : Int)) rfl rfl rfl ?ho (Below.refl _ _) ?hb ?hl ?_; (case ho => rw [Lib.byteCells_length]; exact own_drewN HO.out _); (case hb => (first | exact HBW.out | (rw [World.size_setCell]; exact HBW.out))); (case hl => rw [Lib.byteCells_length]; have := HA.out; have := HQ.out; omega); intro v1 w1 ho hbel hgr hat; rw [bytes_snoc, Lib.byteCells_length] at ho; obtain ⟨gg, cap1, rfl⟩ := own_form (n := acc.length) (by simpa using ho); have O8 := Lib.hid ho; have S8 := Lib.hid ((HS.out.drewN _).belowB hbel HgB.out HvB.out); have T8 := Lib.hid ((HT.out.drewN _).belowB hbel (Nat.le_of_eq HB.out)); have Z8 := Lib.hid (show B ≤ w1.heap.size by have hs8 := hbel.size; (try rw [World.size_setCell] at hs8); exact Nat.le_trans HBW.out hs8); obtain ⟨d0, d1, d2, d3, d4⟩ := S8.out.reads; have g1 := S8.out.frz 1; clear ho hbel hgr hat))
              go_roundg (s.size - (q + 1))
              case rel => exact ⟨q + 1, acc ++ [x], some ⟨gg, 0, none⟩, cap1, by rw [List.length_append]; rfl, Lib.hid (S8.out.at_ (q + 1) (by have := HLN.out; omega)), Lib.hid (T8.out.set _), Lib.hid (by have := S8.out.setRow O8.out (by decide) 1 (.int .i64 ((q + 1 : Nat) : Int)); rw [List.length_append] at this ⊢; exact this), Lib.hid (by rw [World.size_setCell]; exact Z8.out), Lib.hid rfl, HLN, Lib.hid (by rw [HN.out]; exact HRN.out), Lib.hid (by have := HA.out; simp; omega)⟩
              case measure => have := HK.out; omega
end
end Go.Proofs.YtkcfigfhbeohfaaGreatDoor.Tp
