/- The scanner's row: what stands between commas, by whatever reads an element. -/
import Derived.Test.YtkcfigfhbeohfaaGreatDoorTpr
import Derived.Test.YtkcfigfhbeohfaaGreatDoorWLast
namespace Go.Proofs.YtkcfigfhbeohfaaGreatDoor.Tp
open Go Go.RowKit Go.Proofs.YtkcfigfhbeohfaaGreatDoorW.PrintWords Go.Proofs.YtkcfigfhbeohfaaGreatDoorW.PrintLast
section
variable {P : Program} {ops : Array Oper} {Q : Exit → Act → World → Prop}
/-- A call of a function value that lies in a slot, as an arm of go_wp2_with. -/
theorem callT_ {rest : List Oper} {oi : Oper} {a : Act} {w : World} (N : Option Tmp) (hd : oi.dst = N) (hg : oi.guard = none) {f : FuncId} {fn : Func} {t : Tmp} {as_ : Array Operand} {ts : Array TypeId} (bound caps : Array Value) (hop : oi.op = .call { callee := .value (.tmp t), args := as_, argTypes := ts }) (hv : a.eval (.tmp t) = .func (.func f) bound caps)
    (hf : P.funcs[f]? = some fn) (hname : (fn.name == "runtime.NumGoroutine") = false) (hb : fn.body.isSome = true) (args : Array Value) (hargs : bound ++ as_.map a.eval ++ caps = args)
    (h : Calls P f args w fun e w' => ∃ v, e = .returned v ∧ wpList P ops Q rest (a.put N v) w') : wpList P ops Q (oi :: rest) a w := by
  refine wpList_plain hg fun K hK => ?_
  have he := enters_ hf hname hb args w
  have hrun : (execOp a.eval oi).run P w = .ok (.enter f args) w := by
    unfold execOp
    simp [hop, resolve, Deferred.ofValue, invoke, hv, hargs, he]
  unfold Oper.wp
  rw [hrun, Oper.upon_enter]
  refine h.mono fun e w'' hh => ?_
  obtain ⟨v, rfl, hk⟩ := hh
  subst hd
  exact hK _ _ hk
end
section
variable {W : World} {g base : Nat} {s : ByteArray} {p : Nat} {o : List Nd} {c a : Int} {v : Value}
/-- How the reading of an element ends. -/
def ERes {σ : Type} (I : σ → World → Prop) (X : Nat → Prop) (g base : Nat) (s : ByteArray) (c a : Int) (W : World) (v : Value) (o : List Nd) (x : Except (Int × Nat) (List Nd × List UInt8 × σ)) (r : Ending) (W' : World) : Prop :=
  match x with
  | .ok (o', r1, st) => ∃ v', r = .returned (.bool true) ∧ Sc W' g base s (s.size - r1.length) (o ++ o') c a v' ∧ Stp X g W v W' v' ∧ I st W'
  | .error e => ∃ q o2 v', r = .returned (.bool false) ∧ Sc W' g base s q o2 e.1 ((s.size : Int) - e.2) v' ∧ Stp X g W v W' v'
def RRes (X : Nat → Prop) (g base : Nat) (s : ByteArray) (c a : Int) (W : World) (v : Value) (o : List Nd) (x : Except (Int × Nat) (List Nd × List UInt8 × Int)) (r : Ending) (W' : World) : Prop :=
  match x with
  | .ok (o', r1, n) => ∃ v', r = .returned (.tuple #[.int .i64 n, .bool true]) ∧ Sc W' g base s (s.size - r1.length) (o ++ o') c a v' ∧ Stp X g W v W' v'
  | .error e => ∃ q o2 v' m, r = .returned (.tuple #[.int .i64 m, .bool false]) ∧ Sc W' g base s q o2 e.1 ((s.size : Int) - e.2) v' ∧ Stp X g W v W' v'
theorem RRes.mk_ok {X : Nat → Prop} {W' W0 : World} {v' v0 : Value} {o' : List Nd} {r1 : List UInt8} {n : Int} {x : Except (Int × Nat) (List Nd × List UInt8 × Int)} (hx : x = .ok (o', r1, n)) (h : Sc W' g base s (s.size - r1.length) (o ++ o') c a v') (ht : Stp X g W0 v0 W' v') : RRes X g base s c a W0 v0 o x (.returned (.tuple #[.int .i64 n, .bool true])) W' := by
  subst hx; exact ⟨v', rfl, h, ht⟩
theorem RRes.mk_err {X : Nat → Prop} {W' W0 : World} {v' v0 : Value} {o2 : List Nd} {q : Nat} {e : Int × Nat} {m : Int} {x : Except (Int × Nat) (List Nd × List UInt8 × Int)} (hx : x = .error e) (h : Sc W' g base s q o2 e.1 ((s.size : Int) - e.2) v') (ht : Stp X g W0 v0 W' v') : RRes X g base s c a W0 v0 o x (.returned (.tuple #[.int .i64 m, .bool false])) W' := by
  subst hx; exact ⟨q, o2, v', m, rfl, h, ht⟩
/-- What a reader of elements may do with a text: it takes some of it, and makes no more nodes than bytes are taken. -/
def Eats {σ : Type} (each : σ → List UInt8 → Except (Int × Nat) (List Nd × List UInt8 × σ)) : Prop :=
  ∀ st r o r1 st1, each st r = .ok (o, r1, st1) → ∃ cc, r = cc ++ r1 ∧ cc ≠ [] ∧ o.length ≤ cc.length
theorem top_ne {r : List UInt8} {b : UInt8} (hb : b ≠ 0) (h : ∀ t, r ≠ b :: t) : (top r == (b.toNat : Int)) = false := by
  cases r with
  | nil => exact u8_ne (x := 0) (Ne.symm hb)
  | cons y u => exact u8_ne (fun e => h u (by rw [e]))
theorem stp0 {X : Nat → Prop} {W1 : World} {v1 : Value} (h : Stp (fun _ => False) g W v W1 v1) : Stp X g W v W1 v1 := h.mono (fun _ _ f => f.elim)
set_option maxHeartbeats 16000000 in
set_option maxRecDepth 100000 in
theorem row_calls {σ : Type} (h : Sc W g base s p o c a v) (X : Nat → Prop) (hz : s.size ≤ 70368744177664) (e : UInt8) (he : e = 93 ∨ e = 125) (each : σ → List UInt8 → Except (Int × Nat) (List Nd × List UInt8 × σ)) (hE : Eats each)
    (F : Nat) (fn : Func) (hf : Tryz.prog.funcs[F]? = some fn) (hname : (fn.name == "runtime.NumGoroutine") = false) (hb : fn.body.isSome = true) (caps : Array Value) (I : σ → World → Prop) (J : σ → Nat → Prop) (hJm : ∀ st m n, J st n → m ≤ n → J st m) (hJe : ∀ st r o r1 st1, each st r = .ok (o, r1, st1) → J st r.length → J st1 r1.length) (st0 : σ) (hI0 : I st0 W)
    (hI : ∀ st W1 v1 W2 v2 q o1, Sc W1 g base s q o1 c a v1 → I st W1 → Stp (fun _ => False) g W1 v1 W2 v2 → I st W2)
    (hC : ∀ st W1 v1 q o1, Sc W1 g base s q o1 c a v1 → I st W1 → J st (s.size - q) → o1.length + (s.size - q) ≤ 4294967296 → Calls Tryz.prog F caps W1 (ERes I X g base s c a W1 v1 o1 (each st (rest s q))))
    (b : UInt8) (t : List UInt8) (hr : rest s p = b :: t) (hJ0 : J st0 t.length) (hfew : o.length + (s.size - p) ≤ 4294967296) :
    Calls Tryz.prog 25 #[.pointer (some ⟨g, 0, none⟩), .int .u8 (e.toNat : Int), .func (.func F) #[] caps] W (RRes X g base s c a W v o (rows e each st0 t)) := by
  obtain ⟨c0, c1, c2, c3, c4⟩ := h.reads
  have f1 := h.frz 1
  have hp := h.le
  have hlt := rest_lt hr
  have hrt := (rest_get hr hlt).2
  have he0 : e ≠ 0 := by rcases he with rfl | rfl <;> decide
  have he44 : ¬ e = 44 := by rcases he with rfl | rfl <;> decide
  have S0 := Lib.hid (h.at_ (p + 1) (by omega))
  have T0 : Hid (Stp (fun _ => False) g W v (W.setCell ⟨g, 1, none⟩ (.int .i64 ((p + 1 : Nat) : Int))) v) := Lib.hid ((Stp.refl _ g W v).set _)
  have I0 := Lib.hid (hI _ _ _ _ _ _ _ h hI0 T0.out)
  have HII := Lib.hid hI
  have HCC := Lib.hid hC
  have HEE := Lib.hid hE
  have HJM := Lib.hid hJm
  have HJE := Lib.hid hJe
  have HJ0 := Lib.hid hJ0
  have CN := Lib.hid (next_calls S0.out (fun _ => False) (by omega))
  rw [hrt] at CN
  have hrs : rest s (s.size - (skip t).length) = skip t := by
    have := rest_skip (s := s) (p := p + 1) (by omega)
    rw [hrt] at this; exact this
  have HRS := Lib.hid hrs
  have htl : t.length = s.size - (p + 1) := by rw [← hrt, rest_len]
  have hsl : (skip t).length ≤ t.length := by
    obtain ⟨cc, ec, _⟩ := skip_self t
    have := congrArg List.length ec
    rw [List.length_append] at this; omega
  have HTL := Lib.hid htl
  have HSL := Lib.hid hsl
  have HF := Lib.hid hfew
  clear hI0 hI hC hE hJm hJe hJ0 h hr hrt htl hsl hfew hrs
  by_cases hend : ∃ u, skip t = e :: u
  · obtain ⟨u, hu⟩ := hend
    have hx : rows e each st0 t = .ok ([], u, 0) := by unfold rows; rw [hu]; simp
    have HX := Lib.hid hx
    rw [hu, show top (e :: u) = (e.toNat : Int) from rfl] at CN
    have hle : s.size - (e :: u).length + 1 = s.size - u.length := by have := HSL.out; rw [hu] at this; simp only [List.length_cons] at this ⊢; have := HTL.out; omega
    have hle2 : s.size - u.length ≤ s.size := by omega
    obtain ⟨q, hq⟩ : ∃ q, s.size - (e :: u).length = q := ⟨_, rfl⟩
    rw [hq] at CN hle
    rw [← hle] at hle2
    have HLE := Lib.hid hle
    clear hx hu hq hle
    go_enter Tryz.func25, Tryz.ntmps25
    go_wp2_with (first | (go_at_call 9; refine CN.out.mono ?_; rintro e W1 ⟨rfl, hS, hT⟩; have S1 := Lib.hid hS; have T1 := Lib.hid hT; obtain ⟨d0, d1, d2, d3, d4⟩ := hS.reads; have g1 := hS.frz 1; clear hS hT))
    go_ret2
    exact RRes.mk_ok HX.out (by rw [List.append_nil, ← HLE.out]; exact S1.out.at_ _ hle2) ((stp0 (T0.out.trans T1.out)).set _)
  · have hne : ∀ u, skip t ≠ e :: u := fun u hu => hend ⟨u, hu⟩
    have ht1 := top_ne he0 hne
    have hx : ∃ k, rows e each st0 t = row e each k st0 (skip t) [] 1 ∧ (skip t).length < k ∧ k ≤ t.length + 1 := by
      unfold rows
      cases hs : skip t with
      | nil => exact ⟨1, rfl, by simp, by omega⟩
      | cons d u =>
        refine ⟨t.length + 1, ?_, by have := HSL.out; rw [hs] at this; omega, Nat.le_refl _⟩
        simp only
        rw [if_neg (fun e1 => hne u (by rw [hs, e1]))]
    obtain ⟨k0, hx1, hx2, hx3⟩ := hx
    have HX := Lib.hid hx1
    have HK2 := Lib.hid hx2
    have HK3 := Lib.hid hx3
    obtain ⟨N, hN⟩ : ∃ N, top (skip t) = N := ⟨_, rfl⟩
    rw [hN] at CN ht1
    clear hx1 hx2 hx3 hne hend hN
    go_enter Tryz.func25, Tryz.ntmps25
    go_wp2_with (first | (go_at_call 9; refine CN.out.mono ?_; rintro e W1 ⟨rfl, hS, hT⟩; have S1 := Lib.hid hS; have T1 := Lib.hid hT; clear hS hT))
    have I1 := Lib.hid (HII.out _ _ _ _ _ _ _ S0.out I0.out T1.out)
    have Z1 := Lib.hid (T0.out.trans T1.out)
    go_loopg [8] k0 (fun k v8 W' => ∃ (n : Int) (q : Nat) (oa : List Nd) (st : σ) (v' : Value), v8 = .int .i64 n ∧ Hid (Sc W' g base s q (o ++ oa) c a v') ∧ Hid (Stp X g W v W' v') ∧ Hid (I st W') ∧ Hid (rows e each st0 t = row e each k st (rest s q) oa n) ∧ Hid (s.size - q < k) ∧ Aside0 (1 ≤ n ∧ n + k ≤ t.length + 2) ∧ Hid ((o ++ oa).length + (s.size - q) ≤ 4294967296) ∧ Hid (J st (s.size - q)))
    case atStart =>
      refine ⟨1, _, [], st0, v, rfl, Lib.hid (by rw [List.append_nil]; exact S1.out), Lib.hid (stp0 Z1.out), I1, Lib.hid (by rw [HRS.out]; exact HX.out), Lib.hid ?_, ⟨?_⟩, Lib.hid ?_, Lib.hid ?_⟩
      · have := HK2.out; have := HSL.out; have := HTL.out; omega
      · have := HK3.out; omega
      · rw [List.append_nil]; have := HF.out; have := HSL.out; have := HTL.out; omega
      · exact HJM.out _ _ _ HJ0.out (by have := HSL.out; omega)
    case round =>
      obtain ⟨n, q, oa, st, v', rfl, HS, HT, HI2, HR, HK, HN, HFw, HJ⟩ := hrel
      have hq := HS.out.le
      have CE := Lib.hid (HCC.out st wr v' q (o ++ oa) HS.out HI2.out HJ.out HFw.out)
      have hz2 : s.size ≤ 4611686018427387904 := by omega
      cases gk with
      | zero => exact absurd HK.out (by omega)
      | succ k1 =>
        have hrow := HR.out
        simp only [row] at hrow
        cases hx : each st (rest s q) with
        | error x =>
          rw [hx] at CE hrow
          have HRW := Lib.hid hrow
          clear hrow hx
          go_wp2_with (first | (refine callT_ (some 30) rfl rfl #[] caps rfl rfl hf hname hb caps (by simp) ?_; refine CE.out.mono ?_; rintro e1 W1 ⟨q1, o2, v1, rfl, hS, hT⟩; refine ⟨_, rfl, ?_⟩; have S2 := Lib.hid hS; have T2 := Lib.hid hT; clear hS hT))
          go_ret2
          exact RRes.mk_err HRW.out S2.out (HT.out.trans T2.out)
        | ok y =>
          obtain ⟨p1, r1, st1⟩ := y
          rw [hx] at CE hrow
          simp only at hrow
          obtain ⟨cc, ecc, ncc, lcc⟩ := HEE.out st (rest s q) p1 r1 st1 hx
          have hrl := rest_len s q
          have HJ1 := Lib.hid (HJE.out _ _ _ _ _ hx (by rw [hrl]; exact HJ.out))
          have hsf := rest_suffix hq ecc
          have hcl : cc.length + r1.length = s.size - q := by rw [← hrl, ecc, List.length_append]
          have hc1 : 1 ≤ cc.length := by cases cc with | nil => exact absurd rfl ncc | cons => simp
          obtain ⟨cb, ecb, _⟩ := skip_self r1
          have hsk : (skip r1).length ≤ r1.length := by have := congrArg List.length ecb; rw [List.length_append] at this; omega
          have hr2 : rest s (s.size - (skip r1).length) = skip r1 := by
            have := rest_skip (s := s) (p := s.size - r1.length) (by omega)
            rw [hsf.1] at this; exact this
          have CNX := Lib.hid (fun W1 v1 (h : Sc W1 g base s (s.size - r1.length) (o ++ oa ++ p1) c a v1) => next_calls h (fun _ => False) hz2)
          rw [hsf.1] at CNX
          have hn : 1 ≤ n := HN.out.1
          have hn2 : n ≤ 9000000000000000000 := by have := HN.out.2; have := HTL.out; omega
          have HL1 := Lib.hid (show (o ++ oa ++ p1).length + r1.length ≤ 4294967296 by have := HFw.out; rw [List.length_append] at this ⊢; rw [List.length_append]; omega)
          have HL2 := Lib.hid hsk
          have HL3 := Lib.hid (show r1.length + 1 ≤ s.size - q by omega)
          clear hx ecc ncc lcc hrl hsf hcl hc1 ecb hsk
          cases hs : skip r1 with
          | nil =>
            rw [hs] at hrow CNX hr2
            rw [show top [] = 0 from rfl] at CNX
            have HRW := Lib.hid hrow
            have HTK := Lib.hid (show takeB e (rest s (s.size - ([] : List UInt8).length)) = .error (11, 0) by rw [hr2]; rfl)
            clear hrow hr2 hs
            go_wp2_with (first | (refine callT_ (some 30) rfl rfl #[] caps rfl rfl hf hname hb caps (by simp) ?_; refine CE.out.mono ?_; rintro e1 W2 ⟨v2, rfl, hS, hT, hi⟩; refine ⟨_, rfl, ?_⟩; have S2 := Lib.hid hS; have T2 := Lib.hid hT; have J2 := Lib.hid hi; clear hS hT hi) | (go_at_call 9; refine (CNX.out _ _ S2.out).mono ?_; rintro e1 W3 ⟨rfl, hS, hT⟩; have S3 := Lib.hid hS; have T3 := Lib.hid hT; have J3 := Lib.hid (HII.out _ _ _ _ _ _ _ S2.out J2.out hT); obtain ⟨d0, d1, d2, d3, d4⟩ := hS.reads; have g1 := hS.frz 1; clear hS hT) | (go_at_call 42; refine (take_err S3.out (fun _ => False) (by omega) e he0 _ HTK.out).mono ?_; rintro e1 W4 ⟨rfl, ⟨q4, hS⟩, hT⟩; have S4 := Lib.hid hS; have T4 := Lib.hid hT; clear hS hT))
            go_ret2
            exact RRes.mk_err HRW.out S4.out ((HT.out.trans T2.out).trans (stp0 (T3.out.trans T4.out)))
          | cons c1 t2 =>
            rw [hs] at hrow CNX hr2
            simp only at hrow
            have hnb := skip_head hs
            have hsl2 : t2.length + 1 ≤ r1.length := by have := HL2.out; rw [hs] at this; simpa using this
            rw [show top (c1 :: t2) = (c1.toNat : Int) from rfl] at CNX
            obtain ⟨q2, hq2⟩ : ∃ q2, s.size - (c1 :: t2).length = q2 := ⟨_, rfl⟩
            rw [hq2] at CNX hr2
            rw [List.length_cons] at hq2
            have hlt2 := rest_lt hr2
            have hq3 : q2 + 1 ≤ s.size := by omega
            by_cases h44 : c1 = 44
            · subst h44
              rw [if_pos rfl] at hrow
              have hrt2 := (rest_get hr2 hlt2).2
              have CNY := Lib.hid (fun W1 v1 (h : Sc W1 g base s (q2 + 1) (o ++ oa ++ p1) c a v1) => next_calls h (fun _ => False) hz2)
              rw [hrt2] at CNY
              have hr3 : rest s (s.size - (skip t2).length) = skip t2 := by
                have := rest_skip (s := s) (p := q2 + 1) hq3
                rw [hrt2] at this; exact this
              obtain ⟨cd, ecd, _⟩ := skip_self t2
              have hsk2 : (skip t2).length ≤ t2.length := by have := congrArg List.length ecd; rw [List.length_append] at this; omega
              have HL4 := Lib.hid (show (skip t2).length + 2 ≤ r1.length + 1 by omega)
              have HQ2 := Lib.hid hq2
              clear hrt2 ecd hsk2 hr2 hs hq2
              by_cases hend : ∃ u, skip t2 = e :: u
              · obtain ⟨u, hu⟩ := hend
                rw [hu] at hrow CNY hr3
                simp only [if_true] at hrow
                rw [show top (e :: u) = (e.toNat : Int) from rfl] at CNY
                have HRW := Lib.hid hrow
                have HO := Lib.hid (show odd (rest s (s.size - (e :: u).length)) = (10, u.length + 1) by rw [hr3]; simp [odd])
                clear hrow hr3 hu
                go_wp2_with (first | (refine callT_ (some 30) rfl rfl #[] caps rfl rfl hf hname hb caps (by simp) ?_; refine CE.out.mono ?_; rintro e1 W2 ⟨v2, rfl, hS, hT, hi⟩; refine ⟨_, rfl, ?_⟩; have S2 := Lib.hid hS; have T2 := Lib.hid hT; have J2 := Lib.hid hi; clear hS hT hi) | (go_at_call 9; refine (CNY.out _ _ (S3.out.at_ (q2 + 1) hq3)).mono ?_; rintro e1 W4 ⟨rfl, hS, hT⟩; have S4 := Lib.hid hS; have T4 := Lib.hid (((Stp.refl (fun _ => False) g W3 v2).set (.int .i64 ((q2 + 1 : Nat) : Int))).trans hT); have J4 := Lib.hid (HII.out _ _ _ _ _ _ _ S3.out J3.out T4.out); clear hS hT) | (go_at_call 9; refine (CNX.out _ _ S2.out).mono ?_; rintro e1 W3 ⟨rfl, hS, hT⟩; have S3 := Lib.hid hS; have T3 := Lib.hid hT; have J3 := Lib.hid (HII.out _ _ _ _ _ _ _ S2.out J2.out hT); obtain ⟨d0, d1, d2, d3, d4⟩ := hS.reads; have g1 := hS.frz 1; clear hS hT) | (go_at_call 10; refine (odd_calls S4.out (fun _ => False)).mono ?_; rintro e1 W5 ⟨rfl, hS, hT⟩; have S5 := Lib.hid hS; have T5 := Lib.hid hT; clear hS hT))
                go_ret2
                have h5 := S5.out
                rw [HO.out] at h5
                exact RRes.mk_err HRW.out h5 ((HT.out.trans T2.out).trans (stp0 ((T3.out.trans T4.out).trans T5.out)))
              · have hne : ∀ u, skip t2 ≠ e :: u := fun u hu => hend ⟨u, hu⟩
                have ht1 := top_ne he0 hne
                have hrow2 : rows e each st0 t = row e each k1 st1 (skip t2) (oa ++ p1) (n + 1) := by
                  rw [hrow]
                  cases hs3 : skip t2 with
                  | nil => rfl
                  | cons d u => simp only; rw [if_neg (fun e1 => hne u (by rw [hs3, e1]))]
                have HRW := Lib.hid hrow2
                have HR3 := Lib.hid hr3
                obtain ⟨N, hN⟩ : ∃ N, top (skip t2) = N := ⟨_, rfl⟩
                rw [hN] at CNY ht1
                clear hrow hrow2 hr3 hne hend hN
                go_wp2_with (first | (refine callT_ (some 30) rfl rfl #[] caps rfl rfl hf hname hb caps (by simp) ?_; refine CE.out.mono ?_; rintro e1 W2 ⟨v2, rfl, hS, hT, hi⟩; refine ⟨_, rfl, ?_⟩; have S2 := Lib.hid hS; have T2 := Lib.hid hT; have J2 := Lib.hid hi; clear hS hT hi) | (go_at_call 9; refine (CNY.out _ _ (S3.out.at_ (q2 + 1) hq3)).mono ?_; rintro e1 W4 ⟨rfl, hS, hT⟩; have S4 := Lib.hid hS; have T4 := Lib.hid (((Stp.refl (fun _ => False) g W3 v2).set (.int .i64 ((q2 + 1 : Nat) : Int))).trans hT); have J4 := Lib.hid (HII.out _ _ _ _ _ _ _ S3.out J3.out T4.out); clear hS hT) | (go_at_call 9; refine (CNX.out _ _ S2.out).mono ?_; rintro e1 W3 ⟨rfl, hS, hT⟩; have S3 := Lib.hid hS; have T3 := Lib.hid hT; have J3 := Lib.hid (HII.out _ _ _ _ _ _ _ S2.out J2.out hT); obtain ⟨d0, d1, d2, d3, d4⟩ := hS.reads; have g1 := hS.frz 1; clear hS hT))
                go_roundg k1
                case rel =>
                  refine ⟨n + 1, _, oa ++ p1, st1, v2, rfl, Lib.hid (by rw [← List.append_assoc]; exact S4.out), Lib.hid ((HT.out.trans T2.out).trans (stp0 (T3.out.trans T4.out))), J4, Lib.hid (by rw [HR3.out]; exact HRW.out), Lib.hid ?_, ⟨?_⟩, Lib.hid ?_, Lib.hid ?_⟩
                  · have := HK.out; have := HL3.out; have := HL4.out; omega
                  · have := HN.out; omega
                  · rw [← List.append_assoc]; have := HL1.out; have := HL4.out; omega
                  · exact HJM.out _ _ _ HJ1.out (by have := HL4.out; omega)
                case measure => omega
            · have t44 : ((c1.toNat : Int) == 44) = false := u8_ne (y := 44) h44
              have t44' : ((c1.toNat : Int) != 44) = true := by rw [bne, t44]; rfl
              rw [if_neg h44] at hrow
              have htk : takeB e (rest s q2) = if c1 = e then .ok t2 else .error (10, t2.length + 1) := by
                unfold takeB; rw [hr2, skip_nb hnb]
              by_cases hce : c1 = e
              · rw [if_pos hce] at hrow htk
                have HRW := Lib.hid hrow
                have HTK := Lib.hid htk
                clear hrow htk hr2 hs hq2 hce
                go_wp2_with (first | (refine callT_ (some 30) rfl rfl #[] caps rfl rfl hf hname hb caps (by simp) ?_; refine CE.out.mono ?_; rintro e1 W2 ⟨v2, rfl, hS, hT, hi⟩; refine ⟨_, rfl, ?_⟩; have S2 := Lib.hid hS; have T2 := Lib.hid hT; have J2 := Lib.hid hi; clear hS hT hi) | (go_at_call 9; refine (CNX.out _ _ S2.out).mono ?_; rintro e1 W3 ⟨rfl, hS, hT⟩; have S3 := Lib.hid hS; have T3 := Lib.hid hT; have J3 := Lib.hid (HII.out _ _ _ _ _ _ _ S2.out J2.out hT); obtain ⟨d0, d1, d2, d3, d4⟩ := hS.reads; have g1 := hS.frz 1; clear hS hT) | (go_at_call 42; refine (take_ok S3.out (fun _ => False) (by omega) e _ HTK.out).mono ?_; rintro e1 W4 ⟨rfl, hS, hT⟩; have S4 := Lib.hid hS; have T4 := Lib.hid hT; clear hS hT))
                go_ret2
                exact RRes.mk_ok HRW.out (by rw [← List.append_assoc]; exact S4.out) ((HT.out.trans T2.out).trans (stp0 (T3.out.trans T4.out)))
              · rw [if_neg hce] at hrow htk
                have HRW := Lib.hid hrow
                have HTK := Lib.hid htk
                clear hrow htk hr2 hs hq2 hce
                go_wp2_with (first | (refine callT_ (some 30) rfl rfl #[] caps rfl rfl hf hname hb caps (by simp) ?_; refine CE.out.mono ?_; rintro e1 W2 ⟨v2, rfl, hS, hT, hi⟩; refine ⟨_, rfl, ?_⟩; have S2 := Lib.hid hS; have T2 := Lib.hid hT; have J2 := Lib.hid hi; clear hS hT hi) | (go_at_call 9; refine (CNX.out _ _ S2.out).mono ?_; rintro e1 W3 ⟨rfl, hS, hT⟩; have S3 := Lib.hid hS; have T3 := Lib.hid hT; have J3 := Lib.hid (HII.out _ _ _ _ _ _ _ S2.out J2.out hT); obtain ⟨d0, d1, d2, d3, d4⟩ := hS.reads; have g1 := hS.frz 1; clear hS hT) | (go_at_call 42; refine (take_err S3.out (fun _ => False) (by omega) e he0 _ HTK.out).mono ?_; rintro e1 W4 ⟨rfl, ⟨q4, hS⟩, hT⟩; have S4 := Lib.hid hS; have T4 := Lib.hid hT; clear hS hT))
                go_ret2
                exact RRes.mk_err HRW.out S4.out ((HT.out.trans T2.out).trans (stp0 (T3.out.trans T4.out)))
end
end Go.Proofs.YtkcfigfhbeohfaaGreatDoor.Tp
