/- The reader's list. -/
import Derived.Test.YtkcfigfhbeohfaaGreatDoorTrl
namespace Go.Proofs.YtkcfigfhbeohfaaGreatDoor.Tp
open Go Go.RowKit Go.Maps Go.Proofs.YtkcfigfhbeohfaaGreatDoorW.PrintWords
section
variable {W : World} {g base : Nat} {s : ByteArray} {p : Nat} {o : List Nd} {c a : Int} {v : Value}
theorem Rd.at1 {q : Nat} (h : Rd W g base s q o c a v) (hq : q ≤ s.size) : Rd (W.setCell ⟨g, 1, none⟩ (.int .i64 ((q : Int) + 1))) g base s (q + 1) o c a v := h.at_ (q + 1) (by omega)
theorem XS.at_ {q : Nat} {o2 : List Nd} {a2 : Int} {x : R (List Nd)} (h : XS s o a x q o2 c a2) {b : UInt8} {t : Bool} (hb : isB b (rest s q) = t) : ∀ ob r, x = .ok (ob, r) → isB b r = t := by
  rintro ob r rfl
  obtain ⟨_, _, _, _, h5⟩ := h
  rw [← h5]; exact hb
theorem XS.len {q : Nat} {o2 : List Nd} {a2 : Int} {x : R (List Nd)} (h : XS s o a x q o2 c a2) : ∀ ob r, x = .ok (ob, r) → (s.size : Int) - (r.length : Nat) = (q : Int) ∧ r.length = s.size - q := by
  rintro ob r rfl
  obtain ⟨_, _, _, h4, _⟩ := h
  omega
theorem isB_lt {q : Nat} {b : UInt8} (h : isB b (rest s q) = true) : q < s.size := by
  cases hr : rest s q with
  | nil => rw [hr] at h; cases h
  | cons x t => exact rest_lt hr
/-- Behind a sign that stood here. -/
theorem XS.drop {q : Nat} {o2 : List Nd} {a2 : Int} {x : R (List Nd)} (h : XS s o a x q o2 c a2) {b : UInt8} (hb : isB b (rest s q) = true) : XS s o a (xdrop x) (q + 1) o2 c a2 := by
  cases x with
  | error e => exact h
  | ok y =>
    obtain ⟨ob, r⟩ := y
    obtain ⟨h1, h2, h3, h4, h5⟩ := h
    have hlt := isB_lt hb
    cases r with
    | nil => rw [h5] at hb; cases hb
    | cons x t =>
      refine ⟨h1, h2, h3, ?_, (rest_get h5 hlt).2⟩
      rw [List.length_cons] at h4
      simp only [List.tail_cons]; omega
theorem RS.drewN {N : Nat} {W0 : World} {v0 : Value} {x : R (List Nd)} (h : RS N g base s a W0 v0 o x W) (n : Nat) : RS N g base s a W0 v0 o x (W.drewN n) := by
  obtain ⟨q, o2, c, a2, v, h1, h2, h3, h4⟩ := h
  exact ⟨q, o2, c, a2, v, h1.drewN n, h2.drewN n, h3, h4⟩
/-- How the reader's loop over a row stands at its head. -/
def LH (M N g base : Nat) (s : ByteArray) (a : Int) (W0 : World) (v0 : Value) (o : List Nd) (F : R (List Nd)) {σ : Type} (nk : Int) (e : UInt8) (each : σ → List UInt8 → Except (Int × Nat) (List Nd × List UInt8 × σ)) (k : Nat) (st : σ) (n : Int) (x : R (List Nd)) (W' : World) : Prop :=
  RS N g base s a W0 v0 o x W' ∧ F = rowFin nk e each k st x n ∧ ∀ ob r, x = .ok (ob, r) → r.length < k ∧ o.length + ob.length + r.length ≤ M ∧ skip r = r
theorem LH.rs {M N : Nat} {W0 : World} {v0 : Value} {F : R (List Nd)} {σ : Type} {nk : Int} {e : UInt8} {each : σ → List UInt8 → Except (Int × Nat) (List Nd × List UInt8 × σ)} {k : Nat} {st : σ} {n : Int} {x : R (List Nd)} (h : LH M N g base s a W0 v0 o F nk e each k st n x W) : RS N g base s a W0 v0 o x W := h.1
set_option maxHeartbeats 8000000 in
set_option maxRecDepth 100000 in
theorem rlist_calls (d : Nat) (hd : d ≤ 19) (hV : VR d) (h : Rd W g base s p o 0 a v) (hz : s.size ≤ 1073741824) (t : List UInt8) (hr : rest s p = 91 :: t) (N : Nat) (hN1 : o.length + (s.size - p) + 3 * (d + 2) ≤ N) (hN2 : N ≤ 4294967296) (dep : Int) (hdep : 21 - ((d + 1 : Nat) : Int) = dep) :
    Calls Tryz.prog 34 #[.pointer (some ⟨g, 0, none⟩), .int .i64 dep] W fun r W' => r = .returned (.tuple #[]) ∧ RS N g base s a W v o (finL 5 (rows 93 (elem (value d)) () t)) W' := by
  obtain ⟨F, hF⟩ : ∃ F : R (List Nd), (finL 5 (rows 93 (elem (value d)) () t)) = F := ⟨_, rfl⟩
  rw [hF]
  obtain ⟨K, hK1, hK2, hK3⟩ := rows_at (e := 93) (each := elem (value d)) () t
  have hlt := rest_lt hr
  have hrt := (rest_get hr hlt).2
  have hrl := rest_len s (p + 1)
  rw [hrt] at hrl
  have hFin : F = rowFin 5 93 (elem (value d)) K () (.ok ([], skip t)) 0 := by rw [← hF, hK3]; rfl
  obtain ⟨N, rfl⟩ : ∃ N', N = N' + 1 := ⟨N - 1, by omega⟩
  obtain ⟨M, hM⟩ : ∃ M, o.length + (s.size - p) = M := ⟨_, rfl⟩
  obtain ⟨c0, c1, c2, c3, c4⟩ := h.reads
  have f1 := h.frz 1
  have R0 : Hid (RS N g base s a W v o (.ok ([], t)) (W.setCell ⟨g, 1, none⟩ (.int .i64 ((p : Int) + 1)))) := Lib.hid ⟨p + 1, o, 0, a, v, h.at1 (by omega), (Stp.refl X0 g W v).set _, by omega, by simp, rfl, rfl, by omega, hrt⟩
  have HZ2 := Lib.hid (show s.size ≤ 4294967296 by omega)
  have HZ := Lib.hid hz
  have HN3 := Lib.hid (show N ≤ 4294967296 by omega)
  have HMN := Lib.hid (show M + 3 * (d + 1) ≤ N by omega)
  have HFin := Lib.hid hFin
  have HK1 := Lib.hid hK1
  have HK2 := Lib.hid (show K ≤ s.size by omega)
  have HST := Lib.hid (show (skip t).length + o.length ≤ M by have := skip_le t; omega)
  have HV := Lib.hid hV
  have hl1 : 1 ≤ dep := by omega
  have hl2 : dep ≤ 20 := by omega
  have hdd := Lib.hid (show 21 - (d : Int) = dep + 1 by omega)
  clear h hr hrt hrl hF hFin hK1 hK2 hK3 hN1 hN2 hM hdep hd hV
  go_enter Tryz.func34, Tryz.ntmps34
  go_wp2_with (first | (go_at_call 13; with_reducible refine (rskip_gen R0.out HZ2.out).mono ?_; rintro e1 W1 ⟨rfl, hS, _⟩; have S1 := Lib.hid hS; clear hS))
  go_loopg [4] K (fun k v4 W' => ∃ (n : Int) (x : R (List Nd)), v4 = .int .i64 n ∧ Hid (LH M N g base s a W v o F 5 93 (elem (value d)) k () n x W') ∧ Aside0 (0 ≤ n ∧ n + k ≤ K))
  case atStart => exact ⟨0, _, rfl, Lib.hid ⟨S1.out, HFin.out, by rintro ob r hx; cases hx; exact ⟨HK1.out, by have := HST.out; simp; omega, skip_skip t⟩⟩, ⟨Int.le_refl _, by omega⟩⟩
  case round =>
    obtain ⟨n, x, rfl, HL, HN⟩ := hrel
    obtain ⟨⟨q, o2, c, a2, v2, hR, hT, hNN, hX⟩, hFx, hxx⟩ := HL.out
    have HR := Lib.hid hR
    have HT := Lib.hid hT
    have HNN := Lib.hid hNN
    have HX := Lib.hid hX
    have HFx := Lib.hid hFx
    have hn0 : 0 ≤ n := HN.out.1
    have hn1 : n ≤ 9000000000000000000 := by have := HN.out.2; have := HK2.out; omega
    clear hR hT hNN hFx
    cases x with
    | error e =>
      have HC := Lib.hid hX.code_err
      clear hX hxx
      go_wp2_with (first | (go_at_call 12; with_reducible refine (rok_calls HR.out).mono ?_; rw [HC.out]; rintro e1 W5 ⟨rfl, hw5⟩; have hw6 := hw5.symm; clear hw5; subst hw6) | (go_at_call 50; with_reducible refine (rsign_gen HL.out.rs HZ2.out 93 93 rfl).mono ?_; rintro e1 W13 ⟨rfl, hS, _⟩; have S13 := Lib.hid hS; clear hS) | (go_at_call 33; with_reducible refine (rput_gen S13.out HN3.out _ _ _ _).mono ?_; rintro e1 W14 ⟨rfl, hS, _⟩; have S14 := Lib.hid hS; clear hS))
      go_end0
      exact ⟨rfl, by rw [HFx.out]; exact S14.out⟩
    | ok y =>
      obtain ⟨ob, r⟩ := y
      have HC := Lib.hid hX.code_ok
      obtain ⟨hk1, hk2, hk3⟩ := hxx _ _ rfl
      obtain ⟨_, _, _, hx4, hx5⟩ := hX
      cases hI : isB 93 r with
      | true =>
        have HI := Lib.hid (show isB 93 (rest s q) = true by rw [hx5]; exact hI)
        have HFF := Lib.hid (HFx.out.trans (fin_close hI (by decide)))
        clear hI hx5 hk3
        go_wp2_with (first | (go_at_call 12; with_reducible refine (rok_calls HR.out).mono ?_; rw [HC.out]; rintro e1 W5 ⟨rfl, hw5⟩; have hw6 := hw5.symm; clear hw5; subst hw6) | (go_at_call 51; with_reducible refine (is_at HR.out 93 93 rfl).mono ?_; rw [HI.out]; rintro e1 W6 ⟨rfl, n6, rfl⟩) | (go_at_call 50; with_reducible refine (rsign_gen (HL.out.rs.drewN _) HZ2.out 93 93 rfl).mono ?_; rintro e1 W13 ⟨rfl, hS, _⟩; have S13 := Lib.hid hS; clear hS) | (go_at_call 33; with_reducible refine (rput_gen S13.out HN3.out _ _ _ _).mono ?_; rintro e1 W14 ⟨rfl, hS, _⟩; have S14 := Lib.hid hS; clear hS))
        go_end0
        exact ⟨rfl, by rw [HFF.out]; exact S14.out⟩
      | false =>
        have HI := Lib.hid (show isB 93 (rest s q) = false by rw [hx5]; exact hI)
        have HIr := Lib.hid hI
        cases gk with
        | zero => exact absurd hk1 (Nat.not_lt_zero _)
        | succ k1 =>
          have CV := Lib.hid (fun n6 => rvalue_gen HV.out (HL.out.rs.drewN n6) HZ.out (Nat.le_refl _) HN3.out (by rintro ob' r' hx; cases hx; have := HMN.out; omega) (dep + 1) hdd.out)
          have HK3 := Lib.hid hk1
          have HK4 := Lib.hid hk2
          clear hI hx5 hk3 hk1 hk2
          go_wp2_with (first | (go_at_call 12; with_reducible refine (rok_calls HR.out).mono ?_; rw [HC.out]; rintro e1 W5 ⟨rfl, hw5⟩; have hw6 := hw5.symm; clear hw5; subst hw6) | (go_at_call 51; with_reducible refine (is_at HR.out 93 93 rfl).mono ?_; rw [HI.out]; rintro e1 W6 ⟨rfl, n6, rfl⟩) | (go_at_call 11; with_reducible refine (CV.out _).mono ?_; rintro e1 W7 ⟨rfl, hS, _⟩; have S7 := Lib.hid hS; clear hS) | (go_at_call 13; with_reducible refine (rskip_gen S7.out HZ2.out).mono ?_; rintro e1 W8 ⟨rfl, hS, _⟩; obtain ⟨q8, o8, c8, a8, v8, hR, hT, hN, hX⟩ := hS.opn; rw [xval_row] at hX; have R8 := Lib.hid hR; have T8 := Lib.hid hT; have N8 := Lib.hid hN; have X8 := Lib.hid hX; obtain ⟨d0, d1, d2, d3, d4⟩ := hR.reads; have g1 := hR.frz 1; have hlq := hR.le; clear hR hT hN hX; cases hb : isB 44 (rest s q8) <;> (have B8 := Lib.hid hb; clear hb)) | (go_at_call 51; with_reducible refine (is_at R8.out 44 44 rfl).mono ?_; rw [B8.out]; rintro e1 W9 ⟨rfl, n9, rfl⟩) | (go_at_call 13; with_reducible refine (rskip_gen (RS.mk ((R8.out.drewN _).at1 (by have := isB_lt B8.out; omega)) ((T8.out.drewN _).set _) N8.out (X8.out.drop B8.out)) HZ2.out).mono ?_; rintro e1 W10 ⟨rfl, hS, _⟩; clear d0 d1 d2 d3 d4 g1 hlq; obtain ⟨q10, o10, c10, a10, v10, hR, hT, hN, hX⟩ := hS.opn; have R10 := Lib.hid hR; have T10 := Lib.hid hT; have N10 := Lib.hid hN; have X10 := Lib.hid hX; obtain ⟨d0, d1, d2, d3, d4⟩ := hR.reads; have g1 := hR.frz 1; have hlq := hR.le; clear hR hT hN hX; cases hb : isB 93 (rest s q10) <;> (have B10 := Lib.hid hb; clear hb)) | (go_at_call 51; with_reducible refine (is_at R10.out 93 93 rfl).mono ?_; rw [B10.out]; rintro e1 W11 ⟨rfl, n11, rfl⟩) | (go_at_call 14; with_reducible refine (rwrong_gen (R10.out.drewN _) (T10.out.drewN _) N10.out X10.out 10 (by decide) (s.size - q10) _ (by intro ob r hx; have := X10.out.len _ _ hx; omega)).mono ?_; rintro e1 W12 ⟨rfl, hS, _⟩; have S12 := Lib.hid hS; clear hS) | (go_at_call 50; with_reducible refine (rsign_gen (RS.mk (R8.out.drewN _) (T8.out.drewN _) N8.out X8.out) HZ2.out 93 93 rfl).mono ?_; rintro e1 W13 ⟨rfl, hS, _⟩; have S13 := Lib.hid hS; clear hS) | (go_at_call 33; with_reducible refine (rput_gen S13.out HN3.out _ _ _ _).mono ?_; rintro e1 W14 ⟨rfl, hS, _⟩; have S14 := Lib.hid hS; clear hS))
          · go_end0
            exact ⟨rfl, by rw [HFx.out.trans (row_brk HIr.out (X8.out.at_ B8.out))]; exact S14.out⟩
          · go_roundg k1
            case rel =>
              refine ⟨n + 1, _, rfl, Lib.hid ⟨RS.mk (R10.out.drewN _) (T10.out.drewN _) N10.out X10.out, HFx.out.trans (row_next (st1 := ()) HIr.out (X8.out.at_ B8.out) (X10.out.at_ B10.out) (fun _ _ _ _ => rfl)), ?_⟩, ⟨?_⟩⟩
              · intro ob' r' hx
                have h1 := row_less (eats_elem d) (elem_len (value_len d)) hx
                have h2 := HK3.out
                have h3 := HK4.out
                exact ⟨by omega, by omega, xskip_self hx⟩
              · have := HN.out; omega
            case measure => exact Nat.lt_succ_self _
          · go_roundg k1
            case rel =>
              refine ⟨n + 1, _, rfl, Lib.hid ⟨S12.out, HFx.out.trans ((row_close HIr.out (X8.out.at_ B8.out) (fun ob' r' hx => ⟨X10.out.at_ B10.out _ _ hx, (X10.out.len _ _ hx).2.symm⟩)).trans (fin_wrong _ _).symm), ?_⟩, ⟨?_⟩⟩
              · intro ob' r' hx
                exact (xwrong_ne hx).elim
              · have := HN.out; omega
            case measure => exact Nat.lt_succ_self _
end
end Go.Proofs.YtkcfigfhbeohfaaGreatDoor.Tp
