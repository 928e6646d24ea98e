/- Parse. -/
import Derived.Test.YtkcfigfhbeohfaaGreatDoorTpv
import Derived.Deep.RegionHeld3
namespace Go.Proofs.YtkcfigfhbeohfaaGreatDoor.Tp
open Go Go.RowKit Go.Maps Go.Proofs.YtkcfigfhbeohfaaGreatDoorW.PrintWords
/-- Parse, with the place of an error told as an int. -/
def parsed (s : List UInt8) : Except (Int × Int) (List Nd) :=
  if 20000 < s.length then .error (2, 0)
  else match value 20 s with
    | .error (c, p) => .error (c, (s.length : Int) - p)
    | .ok (o, r) => match skip r with
      | [] => if o.length ≤ 2000 then .ok o else .error (2, 0)
      | b :: t => .error ((odd (b :: t)).1, (s.length : Int) - (odd (b :: t)).2)
def failV (e q : Int) : Value := .agg #[.int .i64 e, .int .i64 q]
def PRes (s : ByteArray) (W : World) (r : Ending) (W' : World) : Prop :=
  Below W.heap.size W W' ∧ match parsed s.data.toList with
  | .ok o => ∃ v', r = .returned (.tuple #[v', failV 0 0]) ∧ W'.ownsRow W.heap.size 45 4 v' o.length (encs o)
  | .error e => r = .returned (.tuple #[.slice none 0 0, failV e.1 e.2])
theorem PRes.mk_ok {s : ByteArray} {W W' : World} {o : List Nd} {v' : Value} (hx : parsed s.data.toList = .ok o) (hb : Below W.heap.size W W') (ho : W'.ownsRow W.heap.size 45 4 v' o.length (encs o)) : PRes s W (.returned (.tuple #[v', .agg #[.int .i64 0, .int .i64 0]])) W' := by
  unfold PRes; rw [hx]; exact ⟨hb, v', rfl, ho⟩
theorem PRes.mk_err {s : ByteArray} {W W' : World} {e : Int × Int} (hx : parsed s.data.toList = .error e) (hb : Below W.heap.size W W') : PRes s W (.returned (.tuple #[.slice none 0 0, .agg #[.int .i64 e.1, .int .i64 e.2]])) W' := by
  unfold PRes; rw [hx]; exact ⟨hb, rfl⟩
theorem own_slice {w : World} {base e size n : Nat} {v : Value} {xs : List Value} (h : w.ownsRow base e size v n xs) : ∃ a cap, v = .slice a n cap := by
  rcases h.2 with ⟨h1, h2⟩ | ⟨g, cap, cur, h1, _⟩
  · subst h1; subst h2; exact ⟨_, _, rfl⟩
  · exact ⟨_, cap, h1⟩
theorem fail_back {w : World} {b : Nat} {x y : Value} {t : TypeId} (h : w.heap[b]? = some (.cells #[x, y] t (0, 0))) (u v : Value) : ((w.setCell ⟨b, 0, none⟩ u).setCell ⟨b, 1, none⟩ v).heap[b]? = some (.cells #[u, v] t (0, 0)) := blk_put (blk_put h 0 u rfl) 1 v rfl
theorem Stp.bel {X : Nat → Prop} {g b : Nat} {W W1 : World} {v1 : Value} (h : Stp X g W (.slice none 0 0) W1 v1) (hb : b ≤ W.heap.size) (hg : b ≤ g) (hX : ∀ i, ¬ X i) : Below b W W1 :=
  h.kp.below hb (fun i hi => by
    rcases hi with e | e | e
    · omega
    · simp [Value.ownBlock] at e
    · exact absurd e (hX i))
theorem belN {b : Nat} {a w : World} (h : Below b a w) (n : Nat) : Below b a (w.drewN n) := ⟨h.os, h.tape, h.output, h.size, h.block⟩
theorem Sc.out_put {W : World} {g base : Nat} {s : ByteArray} {p : Nat} {o : List Nd} {c a : Int} {v : Value} (h : Sc W g base s p o c a v) {b : Nat} {x y : Value} (hb : W.heap[b]? = some (.cells #[x, y] 26 (0, 0))) (u1 u2 : Value) :
    ((W.setCell ⟨b, 0, none⟩ u1).setCell ⟨b, 1, none⟩ u2).ownsRow base 45 4 v o.length (encs o) := by
  have hv := h.apart hb (by rintro cs t f hh; cases hh; decide)
  exact own_same h.out (fun k hk => by
    have hkb : k ≠ b := fun e => hv (by rw [hk, e])
    rw [Below.heap_setCell _ ⟨b, 1, none⟩ u2 k hkb, Below.heap_setCell _ ⟨b, 0, none⟩ u1 k hkb])
theorem rest_zero (s : ByteArray) : rest s 0 = s.data.toList := by unfold rest; simp
set_option maxHeartbeats 8000000 in
set_option maxRecDepth 100000 in
theorem parse_calls (W : World) (ad : Option Addr) (cap : Nat) (s : ByteArray) (hcv : ∀ W', Below W.heap.size W W' → (convert 22 9 (.slice ad s.size cap)).run Tryz.prog W' = .ok (.string s) W') (hz : s.size ≤ 4611686018427387904) :
    Calls Tryz.prog 4 #[.slice ad s.size cap] W (PRes s W) := by
  have h0 := hcv (W.alloc (.cells #[.int .i64 0, .int .i64 0] 26)) (below_alloc (Below.refl _ W) _)
  have hl : s.data.toList.length = s.size := by simp
  obtain ⟨b, hb⟩ : ∃ b, W.heap.size = b := ⟨_, rfl⟩
  by_cases hbig : 20000 < s.size
  · have d1 : (20000 : Int) < (s.size : Int) := by omega
    have HX := Lib.hid (show parsed s.data.toList = .error (2, 0) by unfold parsed; rw [if_pos (by omega)])
    clear hcv hl
    go_enter Tryz.func4, Tryz.ntmps4
    go_wp2_with fail
    refine wp_scope_forward 0 rfl ?_
    go_wp2_with fail
    go_step3
    go_wp2_with fail
    rw [jump_goto]
    show Code.wp _ _ _ _ _
    go_wp2_with fail
    rw [Exit.noGoto_ret]
    have kf : ((W.alloc (.cells #[.int .i64 2, .int .i64 0] 26)).alloc (.cells #[.string s, .int .i64 0, .slice none 0 0, .int .i64 0, .int .i64 0] 35)).heap[b]? = some (.cells #[.int .i64 2, .int .i64 0] 26 (0, 0)) := by rw [← hb]; exact blk_alloc (blk_new W _) _
    have k0 := (blk_cell kf 0).trans rfl
    have k1 := (blk_cell kf 1).trans rfl
    clear kf
    refine bodyPost_ret (v := .tuple #[.slice none 0 0, .agg #[.int .i64 2, .int .i64 0]]) (by simp [results, Tryz.results4, go_sem, k0, k1]) rfl ?_
    exact PRes.mk_err HX.out (by rw [hb]; exact ((Below.refl b W).alloc (by omega) _).alloc (by simp; omega) _)
  · have d1 : decide ((20000 : Int) < (s.size : Int)) = false := by simp; omega
    have S2 : Hid (Sc ((W.alloc (.cells #[.int .i64 0, .int .i64 0] 26)).alloc (.cells #[.string s, .int .i64 0, .slice none 0 0, .int .i64 0, .int .i64 0] 35)) (b + 1) b s 0 [] 0 0 (.slice none 0 0)) :=
      Lib.hid ⟨by rw [← hb]; simpa using blk_new (W.alloc (.cells #[.int .i64 0, .int .i64 0] 26)) (.cells #[.string s, .int .i64 0, .slice none 0 0, .int .i64 0, .int .i64 0] 35), own_nil _ _ _ _, Nat.zero_le _, by omega⟩
    have F2 : Hid (((W.alloc (.cells #[.int .i64 0, .int .i64 0] 26)).alloc (.cells #[.string s, .int .i64 0, .slice none 0 0, .int .i64 0, .int .i64 0] 35)).heap[b]? = some (.cells #[.int .i64 0, .int .i64 0] 26 (0, 0))) := Lib.hid (by rw [← hb]; exact blk_alloc (blk_new W _) _)
    have B2 : Hid (Below b W ((W.alloc (.cells #[.int .i64 0, .int .i64 0] 26)).alloc (.cells #[.string s, .int .i64 0, .slice none 0 0, .int .i64 0, .int .i64 0] 35))) := Lib.hid (((Below.refl b W).alloc (by omega) _).alloc (by simp; omega) _)
    have CV := Lib.hid (value_calls 20 (Nat.le_refl _) _ _ _ _ _ _ _ _ _ S2.out (by omega) (by simp; omega))
    rw [show (21 : Int) - ((20 : Nat) : Int) = 1 from rfl, rest_zero] at CV
    have hp0 : parsed s.data.toList = (match value 20 s.data.toList with
      | .error (c, p) => .error (c, (s.data.toList.length : Int) - p)
      | .ok (o, r) => match skip r with
        | [] => if o.length ≤ 2000 then .ok o else .error (2, 0)
        | b :: t => .error ((odd (b :: t)).1, (s.data.toList.length : Int) - (odd (b :: t)).2)) := by unfold parsed; rw [if_neg (by omega)]
    cases hv : value 20 s.data.toList with
    | error e =>
      obtain ⟨ec, ep⟩ := e
      rw [hv] at hp0 CV
      rw [hl] at hp0
      have HX := Lib.hid hp0
      clear hcv hl hv hp0
      go_enter Tryz.func4, Tryz.ntmps4
      go_wp2_with fail
      go_step3
      go_wp2_with (first | (go_at_call 8; refine CV.out.mono ?_; rintro e1 W3 ⟨q, o2, v2, rfl, hS, hT⟩; have S3 := Lib.hid hS; have T3 := Lib.hid hT; have F3 := Lib.hid (S2.out.keep hT F2.out (fun f => f) (by rintro cs t f hh; cases hh; exact ⟨by decide, by decide⟩)); obtain ⟨d0, d1, d2, d3, d4⟩ := hS.reads; have f0 := blk_frozen F3.out 0; have f1 := blk_frozen F3.out 1; have k0 := blk_cell F3.out 0; have k1 := blk_cell F3.out 1; clear hS hT))
      have T3b := Lib.hid (B2.out.trans (T3.out.bel (b := b) (by rw [World.size_alloc, World.size_alloc]; omega) (by omega) (fun _ f => f)))
      go_region
      go_wp2_with fail
      have kf := fail_back (F3.out) (.int .i64 ec) (.int .i64 ((s.size : Int) - (ep : Int)))
      have k0 := (blk_cell kf 0).trans rfl
      have k1 := (blk_cell kf 1).trans rfl
      clear kf
      refine bodyPost_ret (v := .tuple #[.slice none 0 0, .agg #[.int .i64 ec, .int .i64 ((s.size : Int) - (ep : Int))]]) (by simp [results, Tryz.results4, go_sem, k0, k1]) rfl ?_
      exact PRes.mk_err HX.out (by rw [hb]; exact ((T3b.out.setCell (p := ⟨b, 0, none⟩) (Nat.le_refl b) _).setCell (p := ⟨b, 1, none⟩) (Nat.le_refl b) _).drew)
    | ok y =>
      obtain ⟨o, r⟩ := y
      rw [hv] at hp0 CV
      rw [hl] at hp0
      obtain ⟨cc, ecc, _⟩ := (value_ext 20).2 _ _ _ hv
      have hrr : rest s (s.size - r.length) = r := (rest_suffix (p := 0) (c := cc) (Nat.zero_le _) (by rw [rest_zero]; exact ecc)).1
      have hrl : r.length ≤ s.size := by have := congrArg List.length ecc; rw [List.length_append, hl] at this; omega
      have ho := value_len 20 _ _ _ hv
      rw [hl] at ho
      have HRR := Lib.hid hrr
      cases hs : skip r with
      | nil =>
        have hp1 : parsed s.data.toList = if o.length ≤ 2000 then .ok o else .error (2, 0) := by rw [hp0]; simp only [hs]
        have HP := Lib.hid hp1
        have HS := Lib.hid hs
        have d9 : decide ((s.size : Int) < (s.size : Int)) = false := by simp
        clear hcv hl hv hp0 hp1 ecc hrr hs hrl ho
        by_cases h2 : o.length ≤ 2000
        · have HX := Lib.hid (show parsed s.data.toList = .ok o by rw [HP.out, if_pos h2])
          have d8 : (o.length : Int) ≤ 2000 := by omega
          go_enter Tryz.func4, Tryz.ntmps4
          go_wp2_with fail
          go_step3
          go_wp2_with (first | (go_at_call 8; refine CV.out.mono ?_; rintro e1 W3 ⟨v3, rfl, hS, hT⟩; rw [List.nil_append] at hS; obtain ⟨a3, cap3, rfl⟩ := own_slice hS.out; have S3 := Lib.hid hS; have T3 := Lib.hid hT; have F3 := Lib.hid (S2.out.keep hT F2.out (fun f => f) (by rintro cs t f hh; cases hh; exact ⟨by decide, by decide⟩)); clear hS hT) | (go_at_call 9; refine (next_calls S3.out X0 (by omega)).mono ?_; rw [HRR.out, HS.out]; rintro e1 W4 ⟨rfl, hS, hT⟩; have S4 := Lib.hid hS; have T4 := Lib.hid (T3.out.trans hT); have F4 := Lib.hid (S3.out.keep hT F3.out (fun f => f) (by rintro cs t f hh; cases hh; exact ⟨by decide, by decide⟩)); obtain ⟨d0, d1, d2, d3, d4⟩ := hS.reads; have f0 := blk_frozen F4.out 0; have f1 := blk_frozen F4.out 1; have k0 := (blk_cell F4.out 0).trans rfl; have k1 := (blk_cell F4.out 1).trans rfl; have B4 := Lib.hid (B2.out.trans (T4.out.bel (b := b) (by rw [World.size_alloc, World.size_alloc]; omega) (by omega) (fun _ f => f))); clear hS hT))
          go_quiet (fail)
          go_wp2_with fail
          have kf := fail_back ((show (W4.drewN nq).heap[b]? = _ from F4.out)) (.int .i64 0) (.int .i64 0)
          have k0 := (blk_cell kf 0).trans rfl
          have k1 := (blk_cell kf 1).trans rfl
          clear kf
          refine bodyPost_ret (v := .tuple #[.slice a3 o.length cap3, .agg #[.int .i64 0, .int .i64 0]]) (by simp [results, Tryz.results4, go_sem, k0, k1]) rfl ?_
          exact PRes.mk_ok HX.out (by rw [hb]; exact (((belN B4.out _).setCell (p := ⟨b, 0, none⟩) (Nat.le_refl b) _).setCell (p := ⟨b, 1, none⟩) (Nat.le_refl b) _)) (by rw [hb]; exact (S4.out.drewN _).out_put (show (W4.drewN nq).heap[b]? = _ from F4.out) _ _)
        · have HX := Lib.hid (show parsed s.data.toList = .error (2, 0) by rw [HP.out, if_neg h2])
          have d8 : decide ((o.length : Int) ≤ 2000) = false := by simp; omega
          go_enter Tryz.func4, Tryz.ntmps4
          go_wp2_with fail
          go_step3
          go_wp2_with (first | (go_at_call 8; refine CV.out.mono ?_; rintro e1 W3 ⟨v3, rfl, hS, hT⟩; rw [List.nil_append] at hS; obtain ⟨a3, cap3, rfl⟩ := own_slice hS.out; have S3 := Lib.hid hS; have T3 := Lib.hid hT; have F3 := Lib.hid (S2.out.keep hT F2.out (fun f => f) (by rintro cs t f hh; cases hh; exact ⟨by decide, by decide⟩)); clear hS hT) | (go_at_call 9; refine (next_calls S3.out X0 (by omega)).mono ?_; rw [HRR.out, HS.out]; rintro e1 W4 ⟨rfl, hS, hT⟩; have S4 := Lib.hid hS; have T4 := Lib.hid (T3.out.trans hT); have F4 := Lib.hid (S3.out.keep hT F3.out (fun f => f) (by rintro cs t f hh; cases hh; exact ⟨by decide, by decide⟩)); obtain ⟨d0, d1, d2, d3, d4⟩ := hS.reads; have f0 := blk_frozen F4.out 0; have f1 := blk_frozen F4.out 1; have k0 := (blk_cell F4.out 0).trans rfl; have k1 := (blk_cell F4.out 1).trans rfl; have B4 := Lib.hid (B2.out.trans (T4.out.bel (b := b) (by rw [World.size_alloc, World.size_alloc]; omega) (by omega) (fun _ f => f))); clear hS hT))
          go_quiet (fail)
          go_wp2_with fail
          refine wp_label ?_
          go_wp2_with fail
          rw [Exit.noGoto_ret]
          have kf := fail_back ((show (W4.drewN nq).heap[b]? = _ from F4.out)) (.int .i64 2) (.int .i64 0)
          have k0 := (blk_cell kf 0).trans rfl
          have k1 := (blk_cell kf 1).trans rfl
          clear kf
          refine bodyPost_ret (v := .tuple #[.slice none 0 0, .agg #[.int .i64 2, .int .i64 0]]) (by simp [results, Tryz.results4, go_sem, k0, k1]) rfl ?_
          exact PRes.mk_err HX.out (by rw [hb]; exact (((belN B4.out _).setCell (p := ⟨b, 0, none⟩) (Nat.le_refl b) _).setCell (p := ⟨b, 1, none⟩) (Nat.le_refl b) _))
      | cons x t =>
        have hp1 : parsed s.data.toList = .error ((odd (x :: t)).1, (s.size : Int) - (odd (x :: t)).2) := by rw [hp0]; simp only [hs]
        have HX := Lib.hid hp1
        have HS := Lib.hid hs
        have hsl := skip_le r
        rw [hs, List.length_cons] at hsl
        have hrs := rest_skip (s := s) (p := s.size - r.length) (by omega)
        rw [hrr, hs] at hrs
        have HRS := Lib.hid hrs
        obtain ⟨q, hq⟩ : ∃ q, s.size - (x :: t).length = q := ⟨_, rfl⟩
        rw [hq] at HRS
        have HQ := Lib.hid hq
        rw [List.length_cons] at hq
        have d9 : (q : Int) < (s.size : Int) := by omega
        clear hcv hl hv hp0 hp1 ecc hrr hs hrl ho hsl hrs hq
        go_enter Tryz.func4, Tryz.ntmps4
        go_wp2_with fail
        go_step3
        go_wp2_with (first | (go_at_call 8; refine CV.out.mono ?_; rintro e1 W3 ⟨v3, rfl, hS, hT⟩; rw [List.nil_append] at hS; obtain ⟨a3, cap3, rfl⟩ := own_slice hS.out; have S3 := Lib.hid hS; have T3 := Lib.hid hT; have F3 := Lib.hid (S2.out.keep hT F2.out (fun f => f) (by rintro cs t f hh; cases hh; exact ⟨by decide, by decide⟩)); clear hS hT) | (go_at_call 9; refine (next_calls S3.out X0 (by omega)).mono ?_; rw [HRR.out, HS.out]; rw [HQ.out]; rintro e1 W4 ⟨rfl, hS, hT⟩; have S4 := Lib.hid hS; have T4 := Lib.hid (T3.out.trans hT); have F4 := Lib.hid (S3.out.keep hT F3.out (fun f => f) (by rintro cs t f hh; cases hh; exact ⟨by decide, by decide⟩)); obtain ⟨d0, d1, d2, d3, d4⟩ := hS.reads; have f0 := blk_frozen F4.out 0; have f1 := blk_frozen F4.out 1; have k0 := (blk_cell F4.out 0).trans rfl; have k1 := (blk_cell F4.out 1).trans rfl; have B4 := Lib.hid (B2.out.trans (T4.out.bel (b := b) (by rw [World.size_alloc, World.size_alloc]; omega) (by omega) (fun _ f => f))); clear hS hT))
        go_quiet (fail)
        go_wp2_with (go_at_call 10; refine (odd_calls (S4.out.drewN _) X0).mono ?_; rw [HRS.out]; rintro e1 W5 ⟨rfl, hS, hT⟩; have S5 := Lib.hid hS; have T5 := Lib.hid hT; clear hS hT)
        have F5 := Lib.hid ((S4.out.drewN nq).keep T5.out (show (W4.drewN nq).heap[b]? = _ from F4.out) (fun f => f) (by rintro cs t f hh; cases hh; exact ⟨by decide, by decide⟩))
        have B5 := Lib.hid (B4.out.trans ((belN (Below.refl b W4) nq).trans (T5.out.kp.below (B := b) (by have := S4.out.drewN nq; have := blk_lt this.blk; omega) (fun i hi => by
          rcases hi with e | e | e
          · omega
          · rcases S4.out.out.2 with ⟨h1, _⟩ | ⟨b', c', u', h1, h2, _⟩
            · rw [h1] at e; cases e
            · rw [h1] at e; simp [Value.ownBlock] at e; omega
          · exact e.elim))))
        clear d0 d1 d2 d3 d4 f0 f1 k0 k1
        obtain ⟨d0, d1, d2, d3, d4⟩ := S5.out.reads
        have f0 := blk_frozen F5.out 0
        have f1 := blk_frozen F5.out 1
        have k0 := (blk_cell F5.out 0).trans rfl
        have k1 := (blk_cell F5.out 1).trans rfl
        go_region
        go_wp2_with fail
        rw [Exit.noGoto_ret]
        have kf := fail_back (F5.out) (.int .i64 (odd (x :: t)).1) (.int .i64 ((s.size : Int) - ((odd (x :: t)).2 : Int)))
        have k0 := (blk_cell kf 0).trans rfl
        have k1 := (blk_cell kf 1).trans rfl
        clear kf
        refine bodyPost_ret (v := .tuple #[.slice none 0 0, .agg #[.int .i64 (odd (x :: t)).1, .int .i64 ((s.size : Int) - ((odd (x :: t)).2 : Int))]]) (by simp [results, Tryz.results4, go_sem, k0, k1]) rfl ?_
        exact PRes.mk_err HX.out (by rw [hb]; exact ((B5.out.setCell (p := ⟨b, 0, none⟩) (Nat.le_refl b) _).setCell (p := ⟨b, 1, none⟩) (Nat.le_refl b) _).drew)
end Go.Proofs.YtkcfigfhbeohfaaGreatDoor.Tp
