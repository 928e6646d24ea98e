/- The scanner's value: the contract at each depth. -/
import Derived.Test.YtkcfigfhbeohfaaGreatDoorTpu
import Derived.StillTailTactics
namespace Go.Proofs.YtkcfigfhbeohfaaGreatDoor.Tp
open Go Go.RowKit Go.Maps Go.Proofs.YtkcfigfhbeohfaaGreatDoorW.PrintWords
section
variable {W : World} {g base : Nat} {s : ByteArray} {p : Nat} {o : List Nd} {c a : Int} {v : Value}
theorem Res.from {X : Nat → Prop} {W1 W' : World} {v1 : Value} {x : R (List Nd)} {r : Ending} (h : Res X g base s c a W1 v1 o x r W') (ht : Stp X g W v W1 v1) : Res X g base s c a W v o x r W' := by
  cases x with
  | error e => obtain ⟨q, o2, v2, rfl, h1, h2⟩ := h; exact ⟨q, o2, v2, rfl, h1, ht.trans h2⟩
  | ok y => obtain ⟨o1, r1⟩ := y; obtain ⟨v2, rfl, h1, h2⟩ := h; exact ⟨v2, rfl, h1, ht.trans h2⟩
theorem Res.split {X : Nat → Prop} {W' : World} {x : R (List Nd)} {r : Ending} (h : Res X g base s c a W v o x r W') : ∃ bb, r = .returned (.bool bb) ∧ Res X g base s c a W v o x (.returned (.bool bb)) W' := by
  cases x with
  | error e => obtain ⟨q, o2, v2, rfl, h1, h2⟩ := h; exact ⟨_, rfl, q, o2, v2, rfl, h1, h2⟩
  | ok y => obtain ⟨o1, r1⟩ := y; obtain ⟨v2, rfl, h1, h2⟩ := h; exact ⟨_, rfl, v2, rfl, h1, h2⟩
theorem Bx.alloc {b : Nat} {dep : Int} (h : Bx W b g dep) (ob : Obj) : Bx (W.alloc ob) b g dep := ⟨blk_alloc h.x0 _, blk_alloc h.x1 _⟩
theorem RRes.back {X Y : Nat → Prop} {W1 W' : World} {x : Except (Int × Nat) (List Nd × List UInt8 × Int)} {r : Ending} (h : RRes Y g base s c a W1 v o x r W') (ht : Stp X g W v W1 v) (hY : ∀ i, i < W.heap.size → ¬ Y i) : RRes X g base s c a W v o x r W' := by
  have key : ∀ v', Stp Y g W1 v W' v' → Stp X g W v W' v' := fun v' k => ⟨ht.kp.trans k.kp (fun i hi e => by
    rcases e with e | e | e
    · exact .inl e
    · exact .inr (.inl e)
    · exact absurd e (hY i hi)), fun i hi => by
    rcases k.own i hi with h1 | h1
    · exact .inl h1
    · exact .inr (Nat.le_trans ht.kp.size h1)⟩
  cases x with
  | error e => obtain ⟨q, o2, v2, m, rfl, h1, h2⟩ := h; exact ⟨q, o2, v2, m, rfl, h1, key _ h2⟩
  | ok y => obtain ⟨o1, r1, n⟩ := y; obtain ⟨v2, rfl, h1, h2⟩ := h; exact ⟨v2, rfl, h1, key _ h2⟩
theorem value_head (d : Nat) {r : List UInt8} {b : UInt8} {t : List UInt8} (hs : skip r = b :: t) : value (d + 1) r = if small b then word (b :: t) else if digit b || b == 45 then number (b :: t) else if b = 34 then (match str t [] with | .error x => .error x | .ok (s, r1) => .ok ([⟨4, ⟨s.toArray⟩, 0, 0⟩], r1)) else if b = 91 then (match rows 93 (elem (value d)) () t with | .error x => .error x | .ok (o, r1, n) => .ok (o ++ [nd 5 0 n], r1)) else if b = 123 then (match rows 125 (member (value d)) [] t with | .error x => .error x | .ok (o, r1, n) => .ok (o ++ [nd 7 0 n], r1)) else .error (10, t.length + 1) := by
  unfold value
  rw [hs]
  rfl
set_option maxHeartbeats 32000000 in
set_option maxRecDepth 100000 in
theorem value_step (d : Nat) (hd : d ≤ 20) (ih : ∀ d', d = d' + 1 → VC d') : VC d := by
  intro W g base s p o c a v h hz hf
  have hz2 : s.size ≤ 4611686018427387904 := by omega
  have hp := h.le
  have hfl : o.length ≤ 4294967296 := by omega
  obtain ⟨dep, hdep⟩ : ∃ dep : Int, (21 : Int) - (d : Int) = dep := ⟨_, rfl⟩
  rw [hdep]
  have S2 := Lib.hid ((h.alloc (.cells #[.pointer (some ⟨g, 0, none⟩)] 33)).alloc (.cells #[.int .i64 dep] 3))
  have T2 : Hid (Stp X0 g W v ((W.alloc (.cells #[.pointer (some ⟨g, 0, none⟩)] 33)).alloc (.cells #[.int .i64 dep] 3)) v) := Lib.hid (((Stp.refl X0 g W v).alloc _).alloc _)
  have B2 := Lib.hid (Bx.made W g dep)
  have CN := Lib.hid (next_calls S2.out X0 hz2)
  have hrs := rest_skip hp
  have hsl := skip_le (rest s p)
  rw [rest_len] at hsl
  have HF := Lib.hid hf
  cases hs : skip (rest s p) with
  | nil =>
    rw [hs] at CN hrs
    rw [show top [] = 0 from rfl, show s.size - ([] : List UInt8).length = s.size from rfl] at CN
    rw [show s.size - ([] : List UInt8).length = s.size from rfl] at hrs
    have hx : value d (rest s p) = .error (11, 0) := by cases d <;> (unfold value; rw [hs])
    have HX := Lib.hid hx
    have HO := Lib.hid (show odd (rest s s.size) = (11, 0) by rw [hrs]; rfl)
    have d9 : (s.size : Int) ≤ (s.size : Int) := Int.le_refl _
    clear h hrs hsl hs hf hx ih hdep
    go_enter Tryz.func8, Tryz.ntmps8
    go_wp2_with (first | (go_at_call 9; refine CN.out.mono ?_; rintro e1 W3 ⟨rfl, hS, hT⟩; have S3 := Lib.hid hS; have T3 := Lib.hid (T2.out.trans hT); have B3 := Lib.hid (B2.out.keep S2.out hT ⟨fun f => f, fun f => f⟩); have b0 := B3.out.c0; have b1 := B3.out.c1; obtain ⟨d0, d1, d2, d3, d4⟩ := hS.reads; clear hS hT))
    go_quiet (fail)
    go_wp2_with (first | (go_at_call 10; refine (odd_calls (S3.out.drewN _) X0).mono ?_; rintro e1 W4 ⟨rfl, hS, hT⟩; have S4 := Lib.hid hS; have T4 := Lib.hid hT; clear hS hT))
    go_ret
    have h4 := S4.out
    rw [HO.out] at h4
    exact Res.mk_err HX.out h4 ((T3.out.drewN _).trans T4.out)
  | cons b t =>
    rw [hs] at CN hrs hsl
    rw [show top (b :: t) = (b.toNat : Int) from rfl] at CN
    rw [List.length_cons] at hsl
    obtain ⟨q, hq⟩ : ∃ q, s.size - (b :: t).length = q := ⟨_, rfl⟩
    rw [hq] at CN hrs
    rw [List.length_cons] at hq
    have hlt := rest_lt hrs
    have hpq : p ≤ q := by omega
    have HRS := Lib.hid hrs
    have HQ := Lib.hid (show s.size - q = t.length + 1 by omega)
    have d9 : decide ((s.size : Int) ≤ (q : Int)) = false := by simp; omega
    have HNX : Hid (∀ K : World → Prop, True) := Lib.hid (fun _ => trivial)
    cases d with
    | zero =>
      have hx : value 0 (rest s p) = .error (12, t.length + 1) := by unfold value; rw [hs]
      have HX := Lib.hid hx
      have d8 : (20 : Int) < dep := by omega
      have he : ((s.size : Int) - ((t.length + 1 : Nat) : Int)) = (q : Int) := by omega
      have HE := Lib.hid he
      clear h hrs hsl hs hf hx ih hdep hq he
      go_enter Tryz.func8, Tryz.ntmps8
      go_wp2_with (first | (go_at_call 9; refine CN.out.mono ?_; rintro e1 W3 ⟨rfl, hS, hT⟩; have S3 := Lib.hid hS; have T3 := Lib.hid (T2.out.trans hT); have B3 := Lib.hid (B2.out.keep S2.out hT ⟨fun f => f, fun f => f⟩); have b0 := B3.out.c0; have b1 := B3.out.c1; obtain ⟨d0, d1, d2, d3, d4⟩ := hS.reads; clear hS hT))
      go_quiet (fail)
      go_wp2_with fail
      have S4 := Lib.hid (S3.out.drewN nq)
      have T4 := Lib.hid (T3.out.drewN nq)
      have B4 := Lib.hid (B3.out.drewN nq)
      clear S3 T3 B3 b0 b1 d0 d1 d2 d3 d4
      revert S4 T4 B4
      generalize W3.drewN nq = W4
      intro S4 T4 B4
      have b0 := B4.out.c0
      have b1 := B4.out.c1
      obtain ⟨d0, d1, d2, d3, d4⟩ := S4.out.reads
      go_still_tail 5, (by kernel_rfl)
      change wpList _ _ _ _ _ W4.drew
      go_wp2_with (first | (go_at_call 18; refine (stop_calls S4.out.drew X0 _ _).mono ?_; rintro e1 W5 ⟨rfl, hS, hT⟩; have S5 := Lib.hid hS; have T5 := Lib.hid hT; clear hS hT))
      go_ret
      exact Res.mk_err HX.out (by rw [HE.out]; exact S5.out) (T4.out.drew.trans T5.out)
    | succ d =>
      have hx := value_head d hs
      have d8 : decide ((20 : Int) < dep) = false := by simp; omega
      have HDEP := Lib.hid hdep
      have HHF := Lib.hid hf
      have HPQ := Lib.hid hpq
      have IH := Lib.hid (ih d rfl)
      have hd19 : d ≤ 19 := by omega
      clear ih
      cases h1 : small b with
      | true =>
        rw [if_pos h1] at hx
        have HX := Lib.hid hx
        clear h hrs hsl hs hf hx hdep hq
        go_enter Tryz.func8, Tryz.ntmps8
        go_wp2_with (first | (go_at_call 9; refine CN.out.mono ?_; rintro e1 W3 ⟨rfl, hS, hT⟩; have S3 := Lib.hid hS; have T3 := Lib.hid (T2.out.trans hT); have B3 := Lib.hid (B2.out.keep S2.out hT ⟨fun f => f, fun f => f⟩); have b0 := B3.out.c0; have b1 := B3.out.c1; obtain ⟨d0, d1, d2, d3, d4⟩ := hS.reads; clear hS hT))
        go_quiet (fail)
        go_wp2_with fail
        have S4 := Lib.hid (S3.out.drewN nq)
        have T4 := Lib.hid (T3.out.drewN nq)
        have B4 := Lib.hid (B3.out.drewN nq)
        clear S3 T3 B3 b0 b1 d0 d1 d2 d3 d4
        revert S4 T4 B4
        generalize W3.drewN nq = W4
        intro S4 T4 B4
        have b0 := B4.out.c0
        have b1 := B4.out.c1
        go_wp2_with (first | (go_at_call 19; refine (small_calls b _).mono ?_; rintro e1 W' ⟨rfl, rfl⟩) | (go_at_call 20; refine ((word_calls S4.out X0 hz2 hfl).mono (fun _ _ hh => hh.split)).mono ?_; rintro e1 W5 ⟨bb, rfl, hR⟩; have HR := Lib.hid hR; clear hR))
        go_ret
        have h5 := HR.out
        rw [HRS.out] at h5
        rw [HX.out]
        exact h5.from T4.out
      | false =>
        rw [if_neg (by rw [h1]; simp)] at hx
        cases h2 : digit b with
        | true =>
          rw [if_pos (by rw [h2]; rfl)] at hx
          have HX := Lib.hid hx
          clear h hrs hsl hs hf hx hdep hq
          go_enter Tryz.func8, Tryz.ntmps8
          go_wp2_with (first | (go_at_call 9; refine CN.out.mono ?_; rintro e1 W3 ⟨rfl, hS, hT⟩; have S3 := Lib.hid hS; have T3 := Lib.hid (T2.out.trans hT); have B3 := Lib.hid (B2.out.keep S2.out hT ⟨fun f => f, fun f => f⟩); have b0 := B3.out.c0; have b1 := B3.out.c1; obtain ⟨d0, d1, d2, d3, d4⟩ := hS.reads; clear hS hT))
          go_quiet (fail)
          go_wp2_with fail
          have S4 := Lib.hid (S3.out.drewN nq)
          have T4 := Lib.hid (T3.out.drewN nq)
          have B4 := Lib.hid (B3.out.drewN nq)
          clear S3 T3 B3 b0 b1 d0 d1 d2 d3 d4
          revert S4 T4 B4
          generalize W3.drewN nq = W4
          intro S4 T4 B4
          have b0 := B4.out.c0
          have b1 := B4.out.c1
          go_wp2_with (first | (go_at_call 19; refine (small_calls b _).mono ?_; rintro e1 W' ⟨rfl, rfl⟩) | (go_at_call 21; refine (digit_calls b _).mono ?_; rintro e1 W' ⟨rfl, rfl⟩) | (go_at_call 22; refine ((number_calls S4.out X0 hz2 hfl b t HRS.out).mono (fun _ _ hh => hh.split)).mono ?_; rintro e1 W5 ⟨bb, rfl, hR⟩; have HR := Lib.hid hR; clear hR))
          go_ret
          have h5 := HR.out
          rw [HRS.out] at h5
          rw [HX.out]
          exact h5.from T4.out
        | false =>
          by_cases h45 : b = 45
          · have t45 : ((b.toNat : Int) == 45) = true := by rw [h45]; rfl
            rw [if_pos (by rw [h45]; rfl)] at hx
            have HX := Lib.hid hx
            clear h hrs hsl hs hf hx hdep hq h45
            go_enter Tryz.func8, Tryz.ntmps8
            go_wp2_with (first | (go_at_call 9; refine CN.out.mono ?_; rintro e1 W3 ⟨rfl, hS, hT⟩; have S3 := Lib.hid hS; have T3 := Lib.hid (T2.out.trans hT); have B3 := Lib.hid (B2.out.keep S2.out hT ⟨fun f => f, fun f => f⟩); have b0 := B3.out.c0; have b1 := B3.out.c1; obtain ⟨d0, d1, d2, d3, d4⟩ := hS.reads; clear hS hT))
            go_quiet (fail)
            go_wp2_with fail
            have S4 := Lib.hid (S3.out.drewN nq)
            have T4 := Lib.hid (T3.out.drewN nq)
            have B4 := Lib.hid (B3.out.drewN nq)
            clear S3 T3 B3 b0 b1 d0 d1 d2 d3 d4
            revert S4 T4 B4
            generalize W3.drewN nq = W4
            intro S4 T4 B4
            have b0 := B4.out.c0
            have b1 := B4.out.c1
            go_wp2_with (first | (go_at_call 19; refine (small_calls b _).mono ?_; rintro e1 W' ⟨rfl, rfl⟩) | (go_at_call 21; refine (digit_calls b _).mono ?_; rintro e1 W' ⟨rfl, rfl⟩) | (go_at_call 22; refine ((number_calls S4.out X0 hz2 hfl b t HRS.out).mono (fun _ _ hh => hh.split)).mono ?_; rintro e1 W5 ⟨bb, rfl, hR⟩; have HR := Lib.hid hR; clear hR))
            go_ret
            have h5 := HR.out
            rw [HRS.out] at h5
            rw [HX.out]
            exact h5.from T4.out
          · have t45 : ((b.toNat : Int) == 45) = false := u8_ne (y := 45) h45
            have h45b : (b == 45) = false := by simpa using h45
            rw [if_neg (by rw [h2, h45b]; simp)] at hx
            by_cases h34 : b = 34
            · have t34 : ((b.toNat : Int) == 34) = true := by rw [h34]; rfl
              rw [if_pos h34] at hx
              have CQ := Lib.hid (fun W1 v1 (h1 : Sc W1 g base s q o c a v1) => quoted_calls h1 X0 hz)
              have hqd : quoted (rest s q) = str t [] := by
                rw [hrs, h34]
                unfold quoted takeB
                rw [skip_nb (by decide)]
                simp
              rw [hqd] at CQ
              cases hst : str t [] with
              | error x =>
                rw [hst] at hx CQ
                have HX := Lib.hid hx
                clear h hrs hsl hs hf hx hdep hq h34 hqd hst h45 h45b
                go_enter Tryz.func8, Tryz.ntmps8
                go_wp2_with (first | (go_at_call 9; refine CN.out.mono ?_; rintro e1 W3 ⟨rfl, hS, hT⟩; have S3 := Lib.hid hS; have T3 := Lib.hid (T2.out.trans hT); have B3 := Lib.hid (B2.out.keep S2.out hT ⟨fun f => f, fun f => f⟩); have b0 := B3.out.c0; have b1 := B3.out.c1; obtain ⟨d0, d1, d2, d3, d4⟩ := hS.reads; clear hS hT))
                go_quiet (fail)
                go_wp2_with fail
                have S4 := Lib.hid (S3.out.drewN nq)
                have T4 := Lib.hid (T3.out.drewN nq)
                have B4 := Lib.hid (B3.out.drewN nq)
                clear S3 T3 B3 b0 b1 d0 d1 d2 d3 d4
                revert S4 T4 B4
                generalize W3.drewN nq = W4
                intro S4 T4 B4
                have b0 := B4.out.c0
                have b1 := B4.out.c1
                go_wp2_with (first | (go_at_call 19; refine (small_calls b _).mono ?_; rintro e1 W' ⟨rfl, rfl⟩) | (go_at_call 21; refine (digit_calls b _).mono ?_; rintro e1 W' ⟨rfl, rfl⟩) | (go_at_call 23; refine (CQ.out _ _ S4.out).mono ?_; rintro e1 W5 ⟨q5, rfl, hS, hT⟩; have S5 := Lib.hid hS; have T5 := Lib.hid hT; clear hS hT))
                go_ret
                exact Res.mk_err HX.out S5.out (T4.out.trans T5.out)
              | ok y =>
                obtain ⟨acc, r1⟩ := y
                rw [hst] at hx CQ
                have HX := Lib.hid hx
                clear h hrs hsl hs hf hx hdep hq h34 hqd hst h45 h45b
                go_enter Tryz.func8, Tryz.ntmps8
                go_wp2_with (first | (go_at_call 9; refine CN.out.mono ?_; rintro e1 W3 ⟨rfl, hS, hT⟩; have S3 := Lib.hid hS; have T3 := Lib.hid (T2.out.trans hT); have B3 := Lib.hid (B2.out.keep S2.out hT ⟨fun f => f, fun f => f⟩); have b0 := B3.out.c0; have b1 := B3.out.c1; obtain ⟨d0, d1, d2, d3, d4⟩ := hS.reads; clear hS hT))
                go_quiet (fail)
                go_wp2_with fail
                have S4 := Lib.hid (S3.out.drewN nq)
                have T4 := Lib.hid (T3.out.drewN nq)
                have B4 := Lib.hid (B3.out.drewN nq)
                clear S3 T3 B3 b0 b1 d0 d1 d2 d3 d4
                revert S4 T4 B4
                generalize W3.drewN nq = W4
                intro S4 T4 B4
                have b0 := B4.out.c0
                have b1 := B4.out.c1
                go_wp2_with (first | (go_at_call 19; refine (small_calls b _).mono ?_; rintro e1 W' ⟨rfl, rfl⟩) | (go_at_call 21; refine (digit_calls b _).mono ?_; rintro e1 W' ⟨rfl, rfl⟩) | (go_at_call 23; refine (CQ.out _ _ S4.out).mono ?_; rintro e1 W5 ⟨rfl, hS, hT⟩; have S5 := Lib.hid hS; have T5 := Lib.hid hT; have B5 := Lib.hid (B4.out.keep S4.out hT ⟨fun f => f, fun f => f⟩); clear b0 b1; have b0 := B5.out.c0; clear hS hT) | (go_at_call 24; refine (put_calls S5.out X0 _ _ _ _ hfl).mono ?_; rintro e1 W6 ⟨v6, rfl, hS, hT⟩; have S6 := Lib.hid hS; have T6 := Lib.hid hT; clear hS hT))
                go_ret
                exact Res.mk_ok HX.out S6.out ((T4.out.trans T5.out).trans T6.out)
            · have t34 : ((b.toNat : Int) == 34) = false := u8_ne (y := 34) h34
              rw [if_neg h34] at hx
              by_cases h91 : b = 91
              · have t91 : ((b.toNat : Int) == 91) = true := by rw [h91]; rfl
                rw [if_pos h91] at hx
                have CRX : Hid (∀ W4 v4, Sc W4 g base s q o c a v4 → Bx W4 W.heap.size g dep → Calls Tryz.prog 25 #[.pointer (some ⟨g, 0, none⟩), .int .u8 93, .func (.func 26) #[] #[.pointer (some ⟨W.heap.size, 0, none⟩), .pointer (some ⟨W.heap.size + 1, 0, none⟩)]] W4 (RRes X0 g base s c a W4 v4 o (rows 93 (elem (value d)) () t))) := Lib.hid (fun W4 v4 h4 hb4 =>
                  row_calls h4 X0 hz 93 (.inl rfl) (elem (value d)) (eats_elem d) 26 _ Tryz.func26 (by kernel_rfl) (by rfl) _ (fun _ W' => Bx W' W.heap.size g dep) (fun _ _ => True) (fun _ _ _ _ _ => trivial) (fun _ _ _ _ _ _ _ => trivial) () hb4
                    (fun st W1 v1 W2 v2 q o1 h1 hb hT => hb.keep h1 hT ⟨fun f => f, fun f => f⟩) (fun st W1 v1 q o1 h1 hI _ hf1 => by rw [← HDEP.out] at hI ⊢; exact closure1_calls d hd19 IH.out W.heap.size h1 hI hz hf1) b t HRS.out trivial (by have := HHF.out; have := HPQ.out; omega))
                cases hrw : rows 93 (elem (value d)) () t with
                | error x =>
                  rw [hrw] at hx CRX
                  have HX := Lib.hid hx
                  clear h hrs hsl hs hf hx hdep hq h34 hrw h45 h45b h91
                  go_enter Tryz.func8, Tryz.ntmps8
                  go_wp2_with (first | (go_at_call 9; refine CN.out.mono ?_; rintro e1 W3 ⟨rfl, hS, hT⟩; have S3 := Lib.hid hS; have T3 := Lib.hid (T2.out.trans hT); have B3 := Lib.hid (B2.out.keep S2.out hT ⟨fun f => f, fun f => f⟩); have b0 := B3.out.c0; have b1 := B3.out.c1; obtain ⟨d0, d1, d2, d3, d4⟩ := hS.reads; clear hS hT))
                  go_quiet (fail)
                  go_wp2_with fail
                  have S4 := Lib.hid (S3.out.drewN nq)
                  have T4 := Lib.hid (T3.out.drewN nq)
                  have B4 := Lib.hid (B3.out.drewN nq)
                  clear S3 T3 B3 b0 b1 d0 d1 d2 d3 d4
                  revert S4 T4 B4
                  generalize W3.drewN nq = W4
                  intro S4 T4 B4
                  have b0 := B4.out.c0
                  have b1 := B4.out.c1
                  have CR := Lib.hid (CRX.out _ _ S4.out B4.out)
                  go_wp2_with (first | (go_at_call 19; refine (small_calls b _).mono ?_; rintro e1 W' ⟨rfl, rfl⟩) | (go_at_call 21; refine (digit_calls b _).mono ?_; rintro e1 W' ⟨rfl, rfl⟩) | (go_at_call 25; refine CR.out.mono ?_; rintro e1 W5 ⟨q5, o5, v5, m5, rfl, hS, hT⟩; have S5 := Lib.hid hS; have T5 := Lib.hid hT; clear hS hT))
                  go_ret
                  exact Res.mk_err HX.out S5.out (T4.out.trans T5.out)
                | ok y =>
                  obtain ⟨o5, r1, n5⟩ := y
                  have hfl5 : (o ++ o5).length ≤ 4294967296 := by have := rows_len (elem_len (value_len d)) hrw; have := HHF.out; have := HQ.out; have := HPQ.out; rw [List.length_append]; omega
                  rw [hrw] at hx CRX
                  have HX := Lib.hid hx
                  clear h hrs hsl hs hf hx hdep hq h34 hrw h45 h45b h91
                  go_enter Tryz.func8, Tryz.ntmps8
                  go_wp2_with (first | (go_at_call 9; refine CN.out.mono ?_; rintro e1 W3 ⟨rfl, hS, hT⟩; have S3 := Lib.hid hS; have T3 := Lib.hid (T2.out.trans hT); have B3 := Lib.hid (B2.out.keep S2.out hT ⟨fun f => f, fun f => f⟩); have b0 := B3.out.c0; have b1 := B3.out.c1; obtain ⟨d0, d1, d2, d3, d4⟩ := hS.reads; clear hS hT))
                  go_quiet (fail)
                  go_wp2_with fail
                  have S4 := Lib.hid (S3.out.drewN nq)
                  have T4 := Lib.hid (T3.out.drewN nq)
                  have B4 := Lib.hid (B3.out.drewN nq)
                  clear S3 T3 B3 b0 b1 d0 d1 d2 d3 d4
                  revert S4 T4 B4
                  generalize W3.drewN nq = W4
                  intro S4 T4 B4
                  have b0 := B4.out.c0
                  have b1 := B4.out.c1
                  have CR := Lib.hid (CRX.out _ _ S4.out B4.out)
                  go_wp2_with (first | (go_at_call 19; refine (small_calls b _).mono ?_; rintro e1 W' ⟨rfl, rfl⟩) | (go_at_call 21; refine (digit_calls b _).mono ?_; rintro e1 W' ⟨rfl, rfl⟩) | (go_at_call 25; refine CR.out.mono ?_; rintro e1 W5 ⟨v5, rfl, hS, hT⟩; have S5 := Lib.hid hS; have T5 := Lib.hid hT; have B5 := Lib.hid (B4.out.keep S4.out hT ⟨fun f => f, fun f => f⟩); clear b0 b1; have b0 := B5.out.c0; clear hS hT) | (go_at_call 24; refine (put_calls S5.out X0 _ _ _ _ hfl5).mono ?_; rintro e1 W6 ⟨v6, rfl, hS, hT⟩; have S6 := Lib.hid hS; have T6 := Lib.hid hT; clear hS hT))
                  go_ret
                  exact Res.mk_ok HX.out (by rw [← List.append_assoc]; exact S6.out) ((T4.out.trans T5.out).trans T6.out)
              · have t91 : ((b.toNat : Int) == 91) = false := u8_ne (y := 91) h91
                rw [if_neg h91] at hx
                by_cases h123 : b = 123
                · have t123 : ((b.toNat : Int) == 123) = true := by rw [h123]; rfl
                  rw [if_pos h123] at hx
                  have hmm := @run_makeMap Tryz.prog
                  have CRX : Hid (∀ W4 v4, Sc W4 g base s q o c a v4 → Bx W4 W.heap.size g dep → Calls Tryz.prog 25 #[.pointer (some ⟨g, 0, none⟩), .int .u8 125, .func (.func 27) #[] #[.pointer (some ⟨W.heap.size, 0, none⟩), .pointer (some ⟨W4.heap.size + 1, 0, none⟩), .pointer (some ⟨W.heap.size + 1, 0, none⟩)]] ((W4.alloc (.map #[] 0)).alloc (.cells #[.map (some W4.heap.size)] 56)) (RRes X0 g base s c a W4 v4 o (rows 125 (member (value d)) [] t))) := Lib.hid (fun W4 v4 h4 hb4 => by
                    have hm0 : Keys ((W4.alloc (.map #[] 0)).alloc (.cells #[.map (some W4.heap.size)] 56)) W4.heap.size [] := (Keys.made W4).same (Below.heap_alloc _ _ _ (by simp))
                    have hk0 := blk_new (W4.alloc (.map #[] 0)) (.cells #[.map (some W4.heap.size)] 56)
                    rw [World.size_alloc] at hk0
                    refine (row_calls ((h4.alloc _).alloc _) (fun i => i = W4.heap.size) hz 125 (.inr rfl) (member (value d)) (eats_member d) 27 _ Tryz.func27 (by kernel_rfl) (by rfl) _
                      (fun ks W' => Bx W' W.heap.size g dep ∧ W'.heap[W4.heap.size + 1]? = some (.cells #[.map (some W4.heap.size)] 56 (0, 0)) ∧ Keys W' W4.heap.size ks) (fun ks n => ks.length + n ≤ s.size) (fun _ _ _ h1 h2 => by omega) (fun st r o r1 st1 h1 h2 => keys_grow (value_ext d) _ st r o r1 st1 h1 h2) [] ⟨(hb4.alloc _).alloc _, hk0, hm0⟩
                      (fun st W1 v1 W2 v2 q o1 h1 hi hT => ⟨hi.1.keep h1 hT ⟨fun f => f, fun f => f⟩, h1.keep hT hi.2.1 (fun f => f) (fun cs t f e => by cases e; decide), hi.2.2.keep h1 hT (fun f => f)⟩)
                      (fun ks W1 v1 q o1 h1 hi hJ hf1 => by rw [← HDEP.out] at hi ⊢; exact closure2_calls d hd19 IH.out W.heap.size (W4.heap.size + 1) W4.heap.size ks h1 hi.1 hi.2.1 hi.2.2 hz hf1 (by omega)) b t HRS.out (by have := HQ.out; simp; omega) (by have := HHF.out; have := HPQ.out; omega)).mono ?_
                    intro r W' hr
                    exact hr.back (((Stp.refl X0 g W4 v4).alloc _).alloc _) (fun i hi e => by omega))
                  cases hrw : rows 125 (member (value d)) [] t with
                  | error x =>
                    rw [hrw] at hx CRX
                    have HX := Lib.hid hx
                    clear h hrs hsl hs hf hx hdep hq h34 hrw h45 h45b h91 h123
                    go_enter Tryz.func8, Tryz.ntmps8
                    go_wp2_with (first | (go_at_call 9; refine CN.out.mono ?_; rintro e1 W3 ⟨rfl, hS, hT⟩; have S3 := Lib.hid hS; have T3 := Lib.hid (T2.out.trans hT); have B3 := Lib.hid (B2.out.keep S2.out hT ⟨fun f => f, fun f => f⟩); have b0 := B3.out.c0; have b1 := B3.out.c1; obtain ⟨d0, d1, d2, d3, d4⟩ := hS.reads; clear hS hT))
                    go_quiet (fail)
                    go_wp2_with fail
                    have S4 := Lib.hid (S3.out.drewN nq)
                    have T4 := Lib.hid (T3.out.drewN nq)
                    have B4 := Lib.hid (B3.out.drewN nq)
                    clear S3 T3 B3 b0 b1 d0 d1 d2 d3 d4
                    revert S4 T4 B4
                    generalize W3.drewN nq = W4
                    intro S4 T4 B4
                    have b0 := B4.out.c0
                    have b1 := B4.out.c1
                    have CR := Lib.hid (CRX.out _ _ S4.out B4.out)
                    have PB0 : ∀ o1 o2, ((W4.alloc o1).alloc o2).cell? ⟨W.heap.size, 0, none⟩ = some (.pointer (some ⟨g, 0, none⟩)) := fun o1 o2 => ((B4.out.alloc o1).alloc o2).c0
                    go_wp2_with (first | (go_at_call 19; refine (small_calls b _).mono ?_; rintro e1 W' ⟨rfl, rfl⟩) | (go_at_call 21; refine (digit_calls b _).mono ?_; rintro e1 W' ⟨rfl, rfl⟩) | (go_at_call 25; refine CR.out.mono ?_; rintro e1 W5 ⟨q5, o5, v5, m5, rfl, hS, hT⟩; have S5 := Lib.hid hS; have T5 := Lib.hid hT; clear hS hT))
                    go_ret
                    exact Res.mk_err HX.out S5.out (T4.out.trans T5.out)
                  | ok y =>
                    obtain ⟨o5, r1, n5⟩ := y
                    have hfl5 : (o ++ o5).length ≤ 4294967296 := by have := rows_len (member_len (value_len d)) hrw; have := HHF.out; have := HQ.out; have := HPQ.out; rw [List.length_append]; omega
                    rw [hrw] at hx CRX
                    have HX := Lib.hid hx
                    clear h hrs hsl hs hf hx hdep hq h34 hrw h45 h45b h91 h123
                    go_enter Tryz.func8, Tryz.ntmps8
                    go_wp2_with (first | (go_at_call 9; refine CN.out.mono ?_; rintro e1 W3 ⟨rfl, hS, hT⟩; have S3 := Lib.hid hS; have T3 := Lib.hid (T2.out.trans hT); have B3 := Lib.hid (B2.out.keep S2.out hT ⟨fun f => f, fun f => f⟩); have b0 := B3.out.c0; have b1 := B3.out.c1; obtain ⟨d0, d1, d2, d3, d4⟩ := hS.reads; clear hS hT))
                    go_quiet (fail)
                    go_wp2_with fail
                    have S4 := Lib.hid (S3.out.drewN nq)
                    have T4 := Lib.hid (T3.out.drewN nq)
                    have B4 := Lib.hid (B3.out.drewN nq)
                    clear S3 T3 B3 b0 b1 d0 d1 d2 d3 d4
                    revert S4 T4 B4
                    generalize W3.drewN nq = W4
                    intro S4 T4 B4
                    have b0 := B4.out.c0
                    have b1 := B4.out.c1
                    have CR := Lib.hid (CRX.out _ _ S4.out B4.out)
                    have PB0 : ∀ o1 o2, ((W4.alloc o1).alloc o2).cell? ⟨W.heap.size, 0, none⟩ = some (.pointer (some ⟨g, 0, none⟩)) := fun o1 o2 => ((B4.out.alloc o1).alloc o2).c0
                    go_wp2_with (first | (go_at_call 19; refine (small_calls b _).mono ?_; rintro e1 W' ⟨rfl, rfl⟩) | (go_at_call 21; refine (digit_calls b _).mono ?_; rintro e1 W' ⟨rfl, rfl⟩) | (go_at_call 25; refine CR.out.mono ?_; rintro e1 W5 ⟨v5, rfl, hS, hT⟩; have S5 := Lib.hid hS; have T5 := Lib.hid hT; have B5 := Lib.hid (B4.out.keep S4.out hT ⟨fun f => f, fun f => f⟩); clear b0 b1; have b0 := B5.out.c0; clear hS hT) | (go_at_call 24; refine (put_calls S5.out X0 _ _ _ _ hfl5).mono ?_; rintro e1 W6 ⟨v6, rfl, hS, hT⟩; have S6 := Lib.hid hS; have T6 := Lib.hid hT; clear hS hT))
                    go_ret
                    exact Res.mk_ok HX.out (by rw [← List.append_assoc]; exact S6.out) ((T4.out.trans T5.out).trans T6.out)
                · have t123 : ((b.toNat : Int) == 123) = false := u8_ne (y := 123) h123
                  rw [if_neg h123] at hx
                  have HX := Lib.hid hx
                  have HO := Lib.hid (show odd (rest s q) = (10, t.length + 1) by rw [hrs]; simp [odd])
                  clear h hrs hsl hs hf hx hdep hq h34 h45 h45b h91 h123
                  go_enter Tryz.func8, Tryz.ntmps8
                  go_wp2_with (first | (go_at_call 9; refine CN.out.mono ?_; rintro e1 W3 ⟨rfl, hS, hT⟩; have S3 := Lib.hid hS; have T3 := Lib.hid (T2.out.trans hT); have B3 := Lib.hid (B2.out.keep S2.out hT ⟨fun f => f, fun f => f⟩); have b0 := B3.out.c0; have b1 := B3.out.c1; obtain ⟨d0, d1, d2, d3, d4⟩ := hS.reads; clear hS hT))
                  go_quiet (fail)
                  go_wp2_with fail
                  have S4 := Lib.hid (S3.out.drewN nq)
                  have T4 := Lib.hid (T3.out.drewN nq)
                  have B4 := Lib.hid (B3.out.drewN nq)
                  clear S3 T3 B3 b0 b1 d0 d1 d2 d3 d4
                  revert S4 T4 B4
                  generalize W3.drewN nq = W4
                  intro S4 T4 B4
                  have b0 := B4.out.c0
                  have b1 := B4.out.c1
                  go_wp2_with (first | (go_at_call 19; refine (small_calls b _).mono ?_; rintro e1 W' ⟨rfl, rfl⟩) | (go_at_call 21; refine (digit_calls b _).mono ?_; rintro e1 W' ⟨rfl, rfl⟩) | (go_at_call 10; refine (odd_calls S4.out X0).mono ?_; rintro e1 W5 ⟨rfl, hS, hT⟩; have S5 := Lib.hid hS; have T5 := Lib.hid hT; clear hS hT))
                  go_ret
                  have h5 := S5.out
                  rw [HO.out] at h5
                  exact Res.mk_err HX.out h5 (T4.out.trans T5.out)
end
theorem value_calls : ∀ d, d ≤ 20 → VC d
  | 0, h => value_step 0 h (fun d' e => by cases e)
  | d + 1, h => value_step (d + 1) h (fun d' e => by cases e; exact value_calls d (by omega))
end Go.Proofs.YtkcfigfhbeohfaaGreatDoor.Tp
