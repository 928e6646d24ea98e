/- The reference's Parse. -/
import Derived.Test.YtkcfigfhbeohfaaGreatDoorTro
import Derived.Deep.RegionHeld3
namespace Go.Proofs.YtkcfigfhbeohfaaGreatDoor.Tp
open Go Go.RowKit Go.Maps Go.Proofs.YtkcfigfhbeohfaaGreatDoorW.PrintWords
theorem Rd.out_put {W : World} {g base : Nat} {s : ByteArray} {p : Nat} {o : List Nd} {c a : Int} {v : Value} (h : Rd W g base s p o c a v) {b : Nat} {x y : Value} (hb : W.heap[b]? = some (.cells #[x, y] 26 (0, 0))) (u1 u2 : Value) :
    ((W.setCell ⟨b, 0, none⟩ u1).setCell ⟨b, 1, none⟩ u2).ownsRow base 45 4 v o.length (encs o) := by
  have hv := h.apart hb (by rintro cs t f hh; cases hh; decide)
  exact own_same h.out (fun k hk => by
    have hkb : k ≠ b := fun e => hv (by rw [hk, e])
    rw [Below.heap_setCell _ ⟨b, 1, none⟩ u2 k hkb, Below.heap_setCell _ ⟨b, 0, none⟩ u1 k hkb])
theorem Rd.rok {W : World} {g base : Nat} {s : ByteArray} {p : Nat} {o : List Nd} {c a : Int} {v : Value} (h : Rd W g base s p o c a v) (hc : c ≠ 0) : Calls Tryz.prog 12 #[.pointer (some ⟨g, 0, none⟩)] W fun r W' => r = .returned (.bool false) ∧ W' = W := by
  have := rok_calls h
  rwa [show (c == 0) = false by rw [beq_eq_false_iff_ne]; exact hc] at this
set_option maxHeartbeats 8000000 in
set_option maxRecDepth 100000 in
theorem refparse_calls (W : World) (s : ByteArray) (hz : s.size ≤ 1073741824) :
    Calls Tryz.prog 5 #[.string s] W (PRes s W) := by
  have hl : s.data.toList.length = s.size := by simp
  obtain ⟨b, hb⟩ : ∃ b, W.heap.size = b := ⟨_, rfl⟩
  by_cases hbig : 20000 < s.size
  · have d1 : decide ((20000 : Int) < (s.size : Int)) = true := by simp; omega
    have HX := Lib.hid (show parsed s.data.toList = .error (2, 0) by unfold parsed; rw [if_pos (by omega)])
    have kf : (W.alloc (.cells #[.int .i64 2, .int .i64 0] 26)).heap[b]? = some (.cells #[.int .i64 2, .int .i64 0] 26 (0, 0)) := by rw [← hb]; exact blk_new W _
    have k0 := (blk_cell kf 0).trans rfl
    have k1 := (blk_cell kf 1).trans rfl
    clear hl kf
    go_enter Tryz.func5, Tryz.ntmps5
    go_wp2_with fail
    refine bodyPost_ret (v := .tuple #[.slice none 0 0, .agg #[.int .i64 2, .int .i64 0]]) (by simp [results, Tryz.results5, go_sem, k0, k1]) rfl ?_
    exact PRes.mk_err HX.out (by rw [hb]; exact (Below.refl b W).alloc (by omega) _)
  · have d1 : decide ((20000 : Int) < (s.size : Int)) = false := by simp; omega
    have S2 : Hid (Rd ((W.alloc (.cells #[.int .i64 0, .int .i64 0] 26)).alloc (.cells #[.string s, .int .i64 0, .slice none 0 0, .int .i64 0, .int .i64 0] 40)) (b + 1) b s 0 [] 0 0 (.slice none 0 0)) :=
      Lib.hid ⟨by rw [← hb]; simpa using blk_new (W.alloc (.cells #[.int .i64 0, .int .i64 0] 26)) (.cells #[.string s, .int .i64 0, .slice none 0 0, .int .i64 0, .int .i64 0] 40), own_nil _ _ _ _, Nat.zero_le _, by omega⟩
    have F2 : Hid (((W.alloc (.cells #[.int .i64 0, .int .i64 0] 26)).alloc (.cells #[.string s, .int .i64 0, .slice none 0 0, .int .i64 0, .int .i64 0] 40)).heap[b]? = some (.cells #[.int .i64 0, .int .i64 0] 26 (0, 0))) := Lib.hid (by rw [← hb]; exact blk_alloc (blk_new W _) _)
    have B2 : Hid (Below b W ((W.alloc (.cells #[.int .i64 0, .int .i64 0] 26)).alloc (.cells #[.string s, .int .i64 0, .slice none 0 0, .int .i64 0, .int .i64 0] 40))) := Lib.hid (((Below.refl b W).alloc (by omega) _).alloc (by simp; omega) _)
    have CV := Lib.hid (rvalue_all 20 (Nat.le_refl _) _ _ _ _ _ _ _ _ 30000 S2.out (Nat.zero_le _) hz (by simp; omega) (by decide))
    rw [show (21 : Int) - ((20 : Nat) : Int) = 1 from rfl, rest_zero] at CV
    have HB := Lib.hid hb
    have HZ2 := Lib.hid (show s.size ≤ 4294967296 by omega)
    have hp0 : parsed s.data.toList = (match value 20 s.data.toList with
      | .error (c, p) => .error (c, (s.data.toList.length : Int) - p)
      | .ok (o, r) => match skip r with
        | [] => if o.length ≤ 2000 then .ok o else .error (2, 0)
        | b :: t => .error ((odd (b :: t)).1, (s.data.toList.length : Int) - (odd (b :: t)).2)) := by
      unfold parsed
      rw [if_neg (by omega)]
      cases value 20 s.data.toList with
      | error e => rfl
      | ok y => obtain ⟨o, r⟩ := y; simp only; cases skip r <;> rfl
    cases hv : value 20 s.data.toList with
    | error e =>
      obtain ⟨ec, ep⟩ := e
      rw [hv] at hp0 CV
      rw [hl] at hp0
      have HX := Lib.hid hp0
      clear hl hv hp0
      go_enter Tryz.func5, Tryz.ntmps5
      go_wp2_with (first | (go_at_call 11; refine CV.out.mono ?_; rintro e1 W3 ⟨rfl, hS⟩; obtain ⟨q3, o3, c3, a3, v3, hR, hT, _, h1, h2, h3⟩ := hS.opn; have hec : c3 = ec := h1; have hea : a3 = (s.size : Int) - (ep : Int) := h2; subst hec; subst hea; have HC := Lib.hid (show c3 ≠ 0 from h3); have S3 := Lib.hid hR; have T3 := Lib.hid hT; have F3 := Lib.hid (S2.out.keep hT F2.out (fun f => f) (by rintro cs t f hh; cases hh; exact ⟨by decide, by decide⟩)); obtain ⟨d0, e1, d2, d3, d4⟩ := hR.reads; have f0 := blk_frozen F3.out 0; have f1 := blk_frozen F3.out 1; have k0 := blk_cell F3.out 0; have k1 := blk_cell F3.out 1; clear hR hT h1 h2 h3) | (go_at_call 12; (with_reducible refine (S3.out.rok HC.out).mono ?_); rintro e1 W5 ⟨rfl, hw5⟩; have hw6 := hw5.symm; clear hw5; subst hw6))
      have T3b := Lib.hid (B2.out.trans (T3.out.bel (b := b) (by rw [World.size_alloc, World.size_alloc]; omega) (by omega) (fun _ f => f)))
      go_region
      go_wp2_with fail
      have kf := fail_back (F3.out) (.int .i64 c3) (.int .i64 ((s.size : Int) - (ep : Int)))
      have k0 := (blk_cell kf 0).trans rfl
      have k1 := (blk_cell kf 1).trans rfl
      clear kf
      refine bodyPost_ret (v := .tuple #[.slice none 0 0, .agg #[.int .i64 c3, .int .i64 ((s.size : Int) - (ep : Int))]]) (by simp [results, Tryz.results5, go_sem, k0, k1]) rfl ?_
      exact PRes.mk_err HX.out (by rw [hb]; exact ((T3b.out.setCell (p := ⟨b, 0, none⟩) (Nat.le_refl b) _).setCell (p := ⟨b, 1, none⟩) (Nat.le_refl b) _).drew)
    | ok y =>
      obtain ⟨o, r⟩ := y
      rw [hv] at hp0 CV
      rw [hl] at hp0
      cases hs : skip r with
      | nil =>
        have hp1 : parsed s.data.toList = if o.length ≤ 2000 then .ok o else .error (2, 0) := by rw [hp0]; simp only [hs]
        have HP := Lib.hid hp1
        have HS := Lib.hid hs
        have d9 : decide ((s.size : Int) < (s.size : Int)) = false := by simp
        clear hl hv hp0 hp1 hs
        by_cases h2 : o.length ≤ 2000
        · have HXX := Lib.hid (show parsed s.data.toList = .ok o by rw [HP.out, if_pos h2])
          have d8 : decide ((2000 : Int) < (o.length : Int)) = false := by simp; omega
          go_enter Tryz.func5, Tryz.ntmps5
          go_wp2_with (first | (go_at_call 11; refine CV.out.mono ?_; rintro e1 W3 ⟨rfl, hS⟩; obtain ⟨q3, o3, c3, a3, v3, hR, hT, _, h1, h2, h3, h4, h5⟩ := hS.opn; rw [List.nil_append] at h1; have h1b := h1.symm; clear h1; subst h1b; subst h2; subst h3; have HQ4 := Lib.hid h4; have HQ5 := Lib.hid h5; have S3 := Lib.hid hR; have T3 := Lib.hid hT; have F3 := Lib.hid (S2.out.keep hT F2.out (fun f => f) (by rintro cs t f hh; cases hh; exact ⟨by decide, by decide⟩)); clear hS hR hT h4 h5) | (go_at_call 12; (with_reducible refine (rok0 S3.out).mono ?_); rintro e1 W5 ⟨rfl, hw5⟩; have hw6 := hw5.symm; clear hw5; subst hw6) | (go_at_call 13; (with_reducible refine (rskip_calls S3.out X0 HZ2.out).mono ?_); rintro e1 W4 ⟨rfl, hS, hT⟩; have hpos : adv s q3 = s.size := (by obtain ⟨l1, l2⟩ := adv_le s (p := q3) (by have := HQ4.out; omega); rw [HQ5.out, HS.out] at l2; exact (rest_nil l1).1 l2); rw [hpos] at hS; clear hpos; obtain ⟨A3, cap3, rfl⟩ := own_slice hS.out; have S5 := Lib.hid hS; have T5 := Lib.hid (T3.out.trans hT); have F5 := Lib.hid (S3.out.keep hT F3.out (fun f => f) (by rintro cs t f hh; cases hh; exact ⟨by decide, by decide⟩)); obtain ⟨d0, e1, d2, d3, d4⟩ := hS.reads; have g3 := hS.frz 3; have g4 := hS.frz 4; have f0 := blk_frozen F5.out 0; have f1 := blk_frozen F5.out 1; have k0 := (blk_cell F5.out 0).trans rfl; have k1 := (blk_cell F5.out 1).trans rfl; have B5 := Lib.hid (B2.out.trans (T5.out.bel (b := b) (by rw [World.size_alloc, World.size_alloc]; have := HB.out; omega) (by omega) (fun _ f => f))); clear hS hT) | (go_at_call 12; (with_reducible refine (rok0 S5.out).mono ?_); rintro e1 W6 ⟨rfl, hw5⟩; have hw6 := hw5.symm; clear hw5; subst hw6))
          have kf := fail_back (F5.out) (.int .i64 0) (.int .i64 0)
          have k0 := (blk_cell kf 0).trans rfl
          have k1 := (blk_cell kf 1).trans rfl
          clear kf
          refine bodyPost_ret (v := .tuple #[.slice A3 o.length cap3, .agg #[.int .i64 0, .int .i64 0]]) (by simp [results, Tryz.results5, go_sem, k0, k1]) rfl ?_
          exact PRes.mk_ok HXX.out (by rw [hb]; exact ((B5.out.setCell (p := ⟨b, 0, none⟩) (Nat.le_refl b) _).setCell (p := ⟨b, 1, none⟩) (Nat.le_refl b) _)) (by rw [hb]; exact S5.out.out_put F5.out _ _)
        · have HXX := Lib.hid (show parsed s.data.toList = .error (2, 0) by rw [HP.out, if_neg h2])
          have d8 : decide ((2000 : Int) < (o.length : Int)) = true := by simp; omega
          go_enter Tryz.func5, Tryz.ntmps5
          go_wp2_with (first | (go_at_call 11; refine CV.out.mono ?_; rintro e1 W3 ⟨rfl, hS⟩; obtain ⟨q3, o3, c3, a3, v3, hR, hT, _, h1, h2, h3, h4, h5⟩ := hS.opn; rw [List.nil_append] at h1; have h1b := h1.symm; clear h1; subst h1b; subst h2; subst h3; have HQ4 := Lib.hid h4; have HQ5 := Lib.hid h5; have S3 := Lib.hid hR; have T3 := Lib.hid hT; have F3 := Lib.hid (S2.out.keep hT F2.out (fun f => f) (by rintro cs t f hh; cases hh; exact ⟨by decide, by decide⟩)); clear hS hR hT h4 h5) | (go_at_call 12; (with_reducible refine (rok0 S3.out).mono ?_); rintro e1 W5 ⟨rfl, hw5⟩; have hw6 := hw5.symm; clear hw5; subst hw6) | (go_at_call 13; (with_reducible refine (rskip_calls S3.out X0 HZ2.out).mono ?_); rintro e1 W4 ⟨rfl, hS, hT⟩; have hpos : adv s q3 = s.size := (by obtain ⟨l1, l2⟩ := adv_le s (p := q3) (by have := HQ4.out; omega); rw [HQ5.out, HS.out] at l2; exact (rest_nil l1).1 l2); rw [hpos] at hS; clear hpos; obtain ⟨A3, cap3, rfl⟩ := own_slice hS.out; have S5 := Lib.hid hS; have T5 := Lib.hid (T3.out.trans hT); have F5 := Lib.hid (S3.out.keep hT F3.out (fun f => f) (by rintro cs t f hh; cases hh; exact ⟨by decide, by decide⟩)); obtain ⟨d0, e1, d2, d3, d4⟩ := hS.reads; have g3 := hS.frz 3; have g4 := hS.frz 4; have f0 := blk_frozen F5.out 0; have f1 := blk_frozen F5.out 1; have k0 := (blk_cell F5.out 0).trans rfl; have k1 := (blk_cell F5.out 1).trans rfl; have B5 := Lib.hid (B2.out.trans (T5.out.bel (b := b) (by rw [World.size_alloc, World.size_alloc]; have := HB.out; omega) (by omega) (fun _ f => f))); clear hS hT) | (go_at_call 12; (with_reducible refine (rok0 S5.out).mono ?_); rintro e1 W6 ⟨rfl, hw5⟩; have hw6 := hw5.symm; clear hw5; subst hw6) | (go_at_call 12; (with_reducible refine ((S5.out.fail 2 0).rok (by decide)).mono ?_); rintro e1 W6 ⟨rfl, hw5⟩; have hw6 := hw5.symm; clear hw5; subst hw6))
          have S7 := Lib.hid (S5.out.fail 2 0)
          have F7 : Hid (((W4.setCell ⟨b + 1, 3, none⟩ (.int .i64 2)).setCell ⟨b + 1, 4, none⟩ (.int .i64 0)).heap[b]? = some (.cells #[.int .i64 0, .int .i64 0] 26 (0, 0))) := Lib.hid (blk_far (blk_far F5.out (Nat.ne_of_lt (Nat.lt_succ_self b)) _) (Nat.ne_of_lt (Nat.lt_succ_self b)) _)
          have B7 := Lib.hid ((B5.out.setCell (p := ⟨b + 1, 3, none⟩) (Nat.le_succ b) (.int .i64 2)).setCell (p := ⟨b + 1, 4, none⟩) (Nat.le_succ b) (.int .i64 0))
          clear d0 e1 d2 d3 d4 g3 g4 f0 f1 k0 k1
          revert S7 F7 B7
          generalize (W4.setCell ⟨b + 1, 3, none⟩ (.int .i64 2)).setCell ⟨b + 1, 4, none⟩ (.int .i64 0) = W7
          intro S7 F7 B7
          obtain ⟨d0, e1, d2, d3, d4⟩ := S7.out.reads
          have f0 := blk_frozen F7.out 0
          have f1 := blk_frozen F7.out 1
          have k0 := (blk_cell F7.out 0).trans rfl
          have k1 := (blk_cell F7.out 1).trans rfl
          go_region
          go_wp2_with fail
          have kf := fail_back (F7.out) (.int .i64 2) (.int .i64 0)
          have k0 := (blk_cell kf 0).trans rfl
          have k1 := (blk_cell kf 1).trans rfl
          clear kf
          refine bodyPost_ret (v := .tuple #[.slice none 0 0, .agg #[.int .i64 2, .int .i64 0]]) (by simp [results, Tryz.results5, go_sem, k0, k1]) rfl ?_
          exact PRes.mk_err HXX.out (by rw [hb]; exact ((B7.out.setCell (p := ⟨b, 0, none⟩) (Nat.le_refl b) _).setCell (p := ⟨b, 1, none⟩) (Nat.le_refl b) _).drew)
      | cons x t =>
        have HXX := Lib.hid (show parsed s.data.toList = .error (10, (s.size : Int) - ((t.length + 1 : Nat) : Int)) by rw [hp0]; simp only [hs]; rfl)
        have HS := Lib.hid hs
        clear hl hv hp0 hs
        go_enter Tryz.func5, Tryz.ntmps5
        go_wp2_with (first | (go_at_call 11; refine CV.out.mono ?_; rintro e1 W3 ⟨rfl, hS⟩; obtain ⟨q3, o3, c3, a3, v3, hR, hT, _, h1, h2, h3, h4, h5⟩ := hS.opn; rw [List.nil_append] at h1; have h1b := h1.symm; clear h1; subst h1b; subst h2; subst h3; have HQ4 := Lib.hid h4; have HQ5 := Lib.hid h5; have S3 := Lib.hid hR; have T3 := Lib.hid hT; have F3 := Lib.hid (S2.out.keep hT F2.out (fun f => f) (by rintro cs t f hh; cases hh; exact ⟨by decide, by decide⟩)); clear hS hR hT h4 h5) | (go_at_call 12; (with_reducible refine (rok0 S3.out).mono ?_); rintro e1 W5 ⟨rfl, hw5⟩; have hw6 := hw5.symm; clear hw5; subst hw6) | (go_at_call 13; (with_reducible refine (rskip_calls S3.out X0 HZ2.out).mono ?_); rintro e1 W4 ⟨rfl, hS, hT⟩; obtain ⟨q4, hq4⟩ : ∃ q4, adv s q3 = q4 := ⟨_, rfl⟩; obtain ⟨l1, l2⟩ := adv_le s (p := q3) (by have := HQ4.out; omega); rw [HQ5.out, HS.out] at l2; rw [hq4] at hS l1 l2; have hl4 := rest_len s q4; rw [l2, List.length_cons] at hl4; have hlt4 : (q4 : Int) < (s.size : Int) := (by omega); have HL4 := Lib.hid (show (q4 : Int) = (s.size : Int) - ((t.length + 1 : Nat) : Int) by omega); clear hq4 l1 l2 hl4; obtain ⟨A3, cap3, rfl⟩ := own_slice hS.out; have S5 := Lib.hid hS; have T5 := Lib.hid (T3.out.trans hT); have F5 := Lib.hid (S3.out.keep hT F3.out (fun f => f) (by rintro cs t f hh; cases hh; exact ⟨by decide, by decide⟩)); obtain ⟨d0, e1, d2, d3, d4⟩ := hS.reads; have g3 := hS.frz 3; have g4 := hS.frz 4; have f0 := blk_frozen F5.out 0; have f1 := blk_frozen F5.out 1; have k0 := (blk_cell F5.out 0).trans rfl; have k1 := (blk_cell F5.out 1).trans rfl; have B5 := Lib.hid (B2.out.trans (T5.out.bel (b := b) (by rw [World.size_alloc, World.size_alloc]; have := HB.out; omega) (by omega) (fun _ f => f))); clear hS hT) | (go_at_call 14; (with_reducible refine (wrong_calls S5.out X0 _ _).mono ?_); rintro e1 W7 ⟨rfl, hS, hT⟩; have S7 := Lib.hid hS; have F7 := Lib.hid (S5.out.keep hT F5.out (fun f => f) (by rintro cs t f hh; cases hh; exact ⟨by decide, by decide⟩)); have B7 := Lib.hid (B2.out.trans ((T5.out.trans hT).bel (b := b) (by rw [World.size_alloc, World.size_alloc]; have := HB.out; omega) (by omega) (fun _ f => f))); clear d0 e1 d2 d3 d4 g3 g4 f0 f1 k0 k1; obtain ⟨d0, e1, d2, d3, d4⟩ := hS.reads; have f0 := blk_frozen F7.out 0; have f1 := blk_frozen F7.out 1; have k0 := (blk_cell F7.out 0).trans rfl; have k1 := (blk_cell F7.out 1).trans rfl; clear hS hT) | (go_at_call 12; (with_reducible refine (S7.out.rok (by decide)).mono ?_); rintro e1 W8 ⟨rfl, hw5⟩; have hw6 := hw5.symm; clear hw5; subst hw6))
        go_region
        go_wp2_with fail
        have kf := fail_back (F7.out) (.int .i64 10) (.int .i64 (q4 : Int))
        have k0 := (blk_cell kf 0).trans rfl
        have k1 := (blk_cell kf 1).trans rfl
        clear kf
        refine bodyPost_ret (v := .tuple #[.slice none 0 0, .agg #[.int .i64 10, .int .i64 (q4 : Int)]]) (by simp [results, Tryz.results5, go_sem, k0, k1]) rfl ?_
        have hXX := HXX.out
        rw [← HL4.out] at hXX
        exact PRes.mk_err hXX (by rw [hb]; exact ((B7.out.setCell (p := ⟨b, 0, none⟩) (Nat.le_refl b) _).setCell (p := ⟨b, 1, none⟩) (Nat.le_refl b) _).drew)
end Go.Proofs.YtkcfigfhbeohfaaGreatDoor.Tp
